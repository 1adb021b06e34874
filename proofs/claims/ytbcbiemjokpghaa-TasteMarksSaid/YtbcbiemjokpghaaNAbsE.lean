/- Values, cells, arguments: more of what is read. -/
import Derived.Test.YtbcbiemjokpghaaNAbsD
set_option linter.unusedSimpArgs false
set_option linter.unusedVariables false
namespace Go.Abs
open Go
variable {P : Program} {E : Env} {w0 : Start} {w : World} {conc : Conc} {st : ASt} {a : Act}

theorem peek_spec (hE : EnvOK P E) (h : Mod P w0 conc st a w) {t : Ty} {s : SVal} {v : Value} {d : t.den × W} (hr : (peek E t s).run st = some d) (hv : SRel P w conc (okOf conc) s v) :
    ∃ vs, v = t.val vs ∧ Peeked P conc st w t d.1 vs d.2 := by
  cases s with
  | v b => exact peekA_spec hE h hr hv
  | comp l =>
    simp only [peek] at hr
    obtain ⟨h1, h2⟩ := cond_some hr
    obtain ⟨x, g1, g2⟩ := RM.bind_some h2
    obtain ⟨vs, e1, e2, e3⟩ := hv
    obtain ⟨us, ws, f1, f2, f3⟩ := implode_spec hE h t g1 e3 e2
    split at g2
    · rename_i hnil
      cases g2
      rw [hnil] at f3
      cases ws with
      | nil => exact ⟨us, by rw [e1, f1, List.append_nil]; simp [Ty.val, h1], f2⟩
      | cons _ _ => exact f3.elim
    · cases g2
  | tup l => cases hr

/-- Read for the time of a call. -/
theorem Peeked.any {t : Ty} {x : t.den} {vs : List Value} {l : W} (h : Peeked P conc st w t x vs l) : Rep P t w (fun _ => True) vs x :=
  (h (ids l) fun _ hi => hi).2.mono t ⟨Nat.le_refl _, fun _ _ _ => rfl⟩ fun _ _ _ => trivial

theorem explode_one {t : Ty} (ht : t.isPair = false) (hs : t.sz = 1) {ok : Nat → Prop} {vs : List Value} {d : t.den} (h : Rep P t w ok vs d) : All2 (VRel P w conc ok) [.pure t d] vs := by
  have hl := h.len
  rw [hs] at hl
  match vs, hl with
  | [v], _ => exact ⟨⟨[v], by simp [Ty.val, ht], h⟩, trivial⟩

theorem explode_rel {ok : Nat → Prop} : (t : Ty) → {vs : List Value} → {d : t.den} → Rep P t w ok vs d → All2 (VRel P w conc ok) (explode t d) vs
  | .unit, vs, d, h => by simp only [Rep] at h; subst h; trivial
  | .pair x y, vs, (d, d'), h => by
    rw [← List.take_append_drop x.sz vs]
    exact (explode_rel x h.1).append (explode_rel y h.2)
  | .int k, vs, d, h => explode_one rfl rfl h
  | .bool, vs, d, h => explode_one rfl rfl h
  | .str, vs, d, h => explode_one rfl rfl h
  | .slice e, vs, d, h => explode_one rfl rfl h
  | .fn1 p r, vs, d, h => explode_one rfl rfl h
  | .fn2 p q r, vs, d, h => explode_one rfl rfl h
  | .seq p, vs, d, h => explode_one rfl rfl h
  | .seq2 p q, vs, d, h => explode_one rfl rfl h
  | .map p q, vs, d, h => explode_one rfl rfl h

theorem val_cells {t : Ty} {ok : Nat → Prop} {vs : List Value} {d : t.den} (ht : t ≠ .unit) (h : Rep P t w ok vs d) : (t.val vs).cells.toList = vs := by
  by_cases hp : t.isPair = true
  · simp [Ty.val, hp, Value.cells]
  · have hl := h.len
    have h1 := h.ones
    have hs : t.sz = 1 := by cases t <;> first | rfl | exact absurd rfl ht | simp [Ty.isPair] at hp
    rw [hs] at hl
    match vs, hl with
    | [v], _ =>
      have hv := h1 v (by simp)
      simp only [Ty.val, hp, Bool.false_eq_true, if_false, List.headD]
      cases v <;> first | rfl | cases hv

theorem one_cells {v : Value} (h : one v = true) : v.cells.toList = [v] := by cases v <;> first | rfl | cases h

/-- Neither data nor nothing. -/
def AVal.ref : AVal → Bool
  | .pure _ _ | .junk => false
  | _ => true

theorem vrel_one {ok : Nat → Prop} {b : AVal} {v : Value} (h : VRel P w conc ok b v) (hb : b.ref = true) : one v = true := by
  cases b with
  | pure t d => cases hb
  | junk => cases hb
  | nils => rw [show v = _ from h]; rfl
  | bptr id ver off => obtain ⟨_, _, _, _, _, h, _⟩ := h; exact h
  | pptr t d => obtain ⟨_, _, _, _, _, h, _⟩ := h; rw [h]; rfl
  | eptr id ver e i => obtain ⟨_, _, _, _, _, h, _⟩ := h; exact h
  | hand id ver => obtain ⟨_, _, _, _, _, h, _⟩ := h; exact h
  | fref f => rw [show v = _ from h]; rfl
  | yld => rw [show v = _ from h]; rfl

theorem cells_spec {s : SVal} {v : Value} {l : List AVal} {ok : Nat → Prop} (hr : s.cells.run st = some l) (hv : SRel P w conc ok s v) :
    ∃ vs, v.cells.toList = vs ∧ (∀ u ∈ vs, one u = true) ∧ All2 (VRel P w conc ok) l vs := by
  cases s with
  | v b =>
    by_cases hb : b.ref = true
    · have h1 := vrel_one hv hb
      have : l = [b] := by
        cases b <;> first | (cases hb; done) | (simp only [SVal.cells, RM.run] at hr; cases hr; rfl)
      subst this
      exact ⟨[v], one_cells h1, by simpa using h1, hv, trivial⟩
    · cases b with
      | pure t d =>
        simp only [SVal.cells] at hr
        obtain ⟨vs, e1, e2⟩ := hv
        cases hu : t.isUnit with
        | true => rw [hu] at hr; cases hr
        | false =>
          rw [hu] at hr
          cases hr
          exact ⟨vs, by rw [e1]; exact val_cells (fun e => by subst e; cases hu) e2, e2.ones, explode_rel t e2⟩
      | junk => cases hr
      | _ => exact absurd rfl hb
  | comp m =>
    cases hr
    obtain ⟨vs, e1, e2, e3⟩ := hv
    exact ⟨vs, by rw [e1]; rfl, e2, e3⟩
  | tup m => cases hr

end Go.Abs
