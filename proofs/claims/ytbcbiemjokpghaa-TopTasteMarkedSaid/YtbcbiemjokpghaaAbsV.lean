/- Loops, code. -/
import Derived.Test.YtbcbiemjokpghaaAbsU
import Derived.LoopN
set_option linter.unusedSimpArgs false
set_option linter.unusedVariables false
namespace Go.Abs
open Go

/-- How a loop is left. -/
inductive Way where
  | exit (id : Nat)
  | ret

def Way.is : Way → Exit → Bool
  | .exit i, .exit j => Nat.beq i j
  | .ret, .ret => true
  | _, _ => false

def Way.exit' : Way → Exit
  | .exit i => .exit i
  | .ret => .ret

/-- What is done next, for each way out. -/
@[reducible] def conts (R : Type) : List (Way × Templ) → Type
  | [] => Unit
  | x :: r => (denU x.2.tys → Option R) × conts R r

def kOf {R : Type} (K : Exit → ASt → Option R) : (X : List (Way × Templ)) → conts R X
  | [] => ()
  | x :: r => (fun d => K x.1.exit' (mk x.2 d), kOf K r)

def leave {R : Type} (E : Env) : (X : List (Way × Templ)) → conts R X → Exit → ASt → Option R
  | [], _, _, _ => none
  | x :: r, k, e, st => bif x.1.is e then (dec E x.2 st).bind k.1 else leave E r k.2 e st

/-- The rounds of a loop. -/
def loopG {D Ks R : Type} (body : D → (D → Option R) → Ks → Option R) : Nat → D → Ks → Option R
  | 0, _, _ => none
  | n + 1, d, k => body d (fun d => loopG body n d k) k

def turnR {R : Type} (E : Env) (T : Templ) (X : List (Way × Templ)) (again : denU T.tys → Option R) (k : conts R X) : Exit → ASt → Option R
  | .normal, st => (dec E T st).bind again
  | e, st => leave E X k e st

/-- The evaluator of a loop. -/
def loopO {R : Type} (n : Nat) (E : Env) (T : Templ) (X : List (Way × Templ)) (body : denU T.tys → (denU T.tys → Option R) → conts R X → Option R) : Ev R := fun st K =>
  (dec E T st).bind fun d => loopG body n d (kOf K X)

variable {P : Program} {E : Env} {w0 : Start} {R : Type}

def Sound (P : Program) (w0 : Start) {R : Type} (c : Code) (f : Ev R) : Prop :=
  ∀ (K : Exit → ASt → Option R) (ans : R) (st : ASt) (a : Act) (w : World), f st K = some ans → Models P w0 st a w → c.wp P (fun e a' w' => ∃ st', Models P w0 st' a' w' ∧ K e st' = some ans) a w

def OsOK (P : Program) (w0 : Start) {R : Type} : Code → List (Ev R) → Prop
  | .seq a b, O => OsOK P w0 a (O.take (loops a)) ∧ OsOK P w0 b (O.drop (loops a))
  | .cond _ a b, O => OsOK P w0 a (O.take (loops a)) ∧ OsOK P w0 b (O.drop (loops a))
  | .block _ c, O => OsOK P w0 c O
  | .loop c, O => ∀ f, O = [f] → Sound P w0 (.loop c) f
  | _, _ => True

theorem boolOf_rel {conc : Conc} {st : ASt} {a : Act} {w : World} (hE : EnvOK P E) (h : Mod P w0 conc st a w) {c : Operand} {t : Bool} (hr : ((rdA [] c).bind boolOf).run st = some t) : a.eval c = .bool t := by
  obtain ⟨x, h1, h2⟩ := RM.bind_some hr
  have hv := rdA_rel h (labs_nil _) h1
  cases x <;> simp only [boolOf] at h2 <;> try (cases h2; done)
  rename_i u d
  cases u <;> simp only [boolOf] at h2 <;> try (cases h2; done)
  cases h2
  obtain ⟨vs, e1, e2⟩ := hv
  exact rep_bool e1 e2

theorem leave_sound (hE : EnvOK P E) {K : Exit → ASt → Option R} {ans : R} {e : Exit} {st : ASt} {a : Act} {w : World} (hm : Models P w0 st a w) : (X : List (Way × Templ)) → leave E X (kOf K X) e st = some ans →
    ∃ st', Models P w0 st' a w ∧ K e st' = some ans
  | [], h => by cases h
  | x :: r, h => by
    simp only [leave, kOf] at h
    cases hi : x.1.is e with
    | true =>
      rw [hi] at h
      simp only [cond_true] at h
      cases hd : dec E x.2 st with
      | none => rw [hd] at h; cases h
      | some d =>
        rw [hd] at h
        have he : x.1.exit' = e := by
          cases hx : x.1 <;> cases e <;> simp [hx, Way.is, nbeq] at hi <;> simp [Way.exit', hi]
        rw [← he]
        exact ⟨_, dec_models hE hm hd, h⟩
    | false =>
      rw [hi] at h
      exact leave_sound hE hm r h

theorem loop_sound {n : Nat} (hE : EnvOK P E) {c : Code} {O : List (Ev R)} {T : Templ} {X : List (Way × Templ)} {body : denU T.tys → (denU T.tys → Option R) → conts R X → Option R}
    (hc : Sound P w0 c (codeR E c O)) (hb : ∀ d again k, codeR E c O (mk T d) (turnR E T X again k) = body d again k) : Sound P w0 (.loop c) (loopO n E T X body) := by
  intro K ans st a w h hm
  unfold loopO at h
  cases hd : dec E T st with
  | none => rw [hd] at h; cases h
  | some d =>
    rw [hd] at h
    simp only [Option.bind_some] at h
    have hm := dec_models hE hm hd
    clear hd
    refine wp_loop_rounds n ?_
    induction n generalizing d a w st with
    | zero => cases h
    | succ n ih =>
      rw [loopG, ← hb] at h
      rw [rounds_succ]
      refine wp_mono (hc _ _ _ _ _ h hm) ?_
      rintro e a' w' ⟨st', hm', h'⟩
      cases e with
      | normal =>
        show Code.rounds P c _ n a' w'
        simp only [turnR] at h'
        cases hd : dec E T st' with
        | none => rw [hd] at h'; cases h'
        | some d' =>
          rw [hd] at h'
          exact ih st' a' w' hm' d' h' (dec_models hE hm' hd)
      | _ => exact leave_sound hE hm' X h'

theorem codeR_sound (hE : EnvOK P E) (hP : P.follows .mixedOrders = true) : (c : Code) → (O : List (Ev R)) → OsOK P w0 c O → Sound P w0 c (codeR E c O)
  | .skip, O, _ => fun K ans st a w h hm => wp_skip ⟨st, hm, h⟩
  | .ret, O, _ => fun K ans st a w h hm => wp_ret ⟨st, hm, h⟩
  | .exit i, O, _ => fun K ans st a w h hm => wp_exit ⟨st, hm, h⟩
  | .seq x y, O, ho => fun K ans st a w h hm => by
    simp only [codeR] at h
    refine wp_seq (wp_mono (codeR_sound hE hP x _ ho.1 _ _ _ _ _ h hm) ?_)
    rintro e a' w' ⟨st', hm', h'⟩
    cases e with
    | normal => exact codeR_sound hE hP y _ ho.2 _ _ _ _ _ h' hm'
    | _ => exact ⟨st', hm', h'⟩
  | .cond c x y, O, ho => fun K ans st a w h hm => by
    simp only [codeR, condR, RM.runK_eq] at h
    cases hr : ((rdA [] c).bind boolOf).run st with
    | none => rw [hr] at h; cases h
    | some t =>
      rw [hr] at h
      simp only [Option.bind_some] at h
      obtain ⟨conc, hmod⟩ := hm
      have hev := boolOf_rel hE hmod hr
      refine wp_cond hev ?_
      cases t with
      | true => exact codeR_sound hE hP x _ ho.1 _ _ _ _ _ h ⟨conc, hmod⟩
      | false => exact codeR_sound hE hP y _ ho.2 _ _ _ _ _ h ⟨conc, hmod⟩
  | .block id c, O, ho => fun K ans st a w h hm => by
    simp only [codeR] at h
    refine wp_block (wp_mono (codeR_sound hE hP c _ ho _ _ _ _ _ h hm) ?_)
    rintro e a' w' ⟨st', hm', h'⟩
    cases e with
    | exit i =>
      simp only [nbeq] at h'
      by_cases hi : i = id
      · simp only [hi, decide_true, cond_true] at h'
        simp only [Exit.inBlock, hi, if_true]
        exact ⟨st', hm', h'⟩
      · simp only [hi, decide_false, cond_false] at h'
        simp only [Exit.inBlock, hi, if_false]
        exact ⟨st', hm', h'⟩
    | _ => exact ⟨st', hm', h'⟩
  | .loop c, O, ho => fun K ans st a w h hm => by
    cases O with
    | nil => cases h
    | cons f O =>
      cases O with
      | nil => exact ho f rfl K ans st a w h hm
      | cons _ _ => cases h
  | .region id ops draw, O, _ => fun K ans st a w h hm => by
    simp only [codeR, regR] at h
    cases draw with
    | false =>
      simp only [cond_false] at h
      rw [opsR_eq] at h
      cases hs : stepsD E ops ops.toList st with
      | none => rw [hs] at h; cases h
      | some st2 =>
        rw [hs] at h
        exact wp_region (wpOps_sound hE _ _ (range_ops ops) hm hs fun a' w' hm' => ⟨_, unlab_models hm', h⟩)
    | true =>
      simp only [cond_true] at h
      cases hf : fwd 0 ops.toList with
      | false => rw [hf] at h; cases h
      | true =>
        rw [hf] at h
        simp only [cond_true] at h
        obtain ⟨gs, st2, g1, g2, g3, g4⟩ := opsRD_runs ops.toList [] st (fun k o hk => by simpa using hk) h
        obtain ⟨r, b1, b2⟩ := bef_spec ops.toList []
        have hm0 : Models P w0 st a { w with drawn := w.drawn + 1 } := by
          obtain ⟨conc, hmod⟩ := hm
          exact ⟨conc, hmod.grow (Keeps.drew w)⟩
        let F : Nat → FP := fun i => gs.getD i ⟨[], []⟩
        have hruns := g3 F (fun k g hg => by simp [F, hg])
        refine wp_region_any hP ?_
        refine wpAny_runs hE (F := F) (B := fun i => (bef ops.toList []).getD i 0) (st2 := st2) ?_ ?_ ?_ (fun a' w' hm' => ⟨_, unlab_models hm', g2⟩) ops.size _ (List.range ops.size) (by simp) (List.pairwise_lt_range) (by simp) ?_ ?_ hm0 ?_
        · intro i o ho j hj
          rw [b1, List.nil_append] at hj
          exact b2 i o (by simpa using ho) j hj
        · intro i o ho
          have := fwd_spec ops.toList 0 hf i o (by simpa using ho)
          simpa using this
        · intro i j hi hj
          have hi' : i < gs.length := by rw [g1]; simpa using hi
          have hj' : j < gs.length := by omega
          have := g4 i j gs[j] gs[i] (by simp) hj (by simp [hi']) (by simp [hj'])
          simpa [F, hi', hj'] using this
        · intro i
          simp
          intro hi
          simp [Array.getD, hi]
        · intro i hi hn
          exact absurd (by simpa using hi) hn
        · rw [List.range_eq_range']
          simpa using hruns
  | .rangeFunc .., O, _ => fun K ans st a w h hm => by cases h
  | .scope _, O, _ => fun K ans st a w h hm => by cases h
  | .label _, O, _ => fun K ans st a w h hm => by cases h
  | .goto _, O, _ => fun K ans st a w h hm => by cases h
  | .refuse _, O, _ => fun K ans st a w h hm => by cases h

end Go.Abs
