/- Maps: what is found in them, and how they are set. -/
import Derived.Test.YtbcbiemjokpghaaNAbsH
set_option linter.unusedSimpArgs false
set_option linter.unusedVariables false
namespace Go.Abs
open Go
variable {P : Program} {E : Env} {w0 : Start} {w : World} {conc : Conc} {st : ASt} {a : Act}

/-- The entries es read as the list l. -/
def EntsRep (P : Program) (w : World) (ok : Nat → Prop) (k v : Ty) (l : List (k.den × v.den)) (es : List MapEntry) : Prop :=
  es.length = l.length ∧ ∀ (i : Nat) (x : k.den × v.den) (e : MapEntry), l[i]? = some x → es[i]? = some e → (∃ ks, e.key = k.val ks ∧ Rep P k w ok ks x.1) ∧ ∃ us, e.val = v.val us ∧ Rep P v w ok us x.2

theorem EntsRep.cons {k v : Ty} {ok : Nat → Prop} {x : k.den × v.den} {l : List (k.den × v.den)} {e : MapEntry} {es : List MapEntry} (h : EntsRep P w ok k v (x :: l) (e :: es)) :
    ((∃ ks, e.key = k.val ks ∧ Rep P k w ok ks x.1) ∧ ∃ us, e.val = v.val us ∧ Rep P v w ok us x.2) ∧ EntsRep P w ok k v l es :=
  ⟨h.2 0 x e rfl rfl, by simpa using h.1, fun i y f hy hf => h.2 (i + 1) y f (by simpa using hy) (by simpa using hf)⟩

theorem find_spec {q : IntKind} {u : Ty} {ok : Nat → Prop} (n : Int) : (l : List (Int × u.den)) → (es : List MapEntry) → (j : Nat) → EntsRep P w ok (.int q) u l es →
    (Instr.findNow (.int q) (.int q n) es j = some none ∧ mget l n = none ∧ ∀ y, mput l n y = l ++ [(n, y)]) ∨
    ∃ i e x, Instr.findNow (.int q) (.int q n) es j = some (some (j + i, e.val)) ∧ es[i]? = some e ∧ l[i]? = some (n, x) ∧ e.key = .int q n ∧ mget l n = some x ∧ ∀ y, mput l n y = l.set i (n, y)
  | [], es, j, h => by
    cases es with
    | nil => exact .inl ⟨rfl, rfl, fun _ => rfl⟩
    | cons _ _ => have := h.1; simp at this
  | p :: l, [], j, h => by have := h.1; simp at this
  | p :: l, e :: es, j, h => by
    obtain ⟨⟨⟨ks, k1, k2⟩, us, k3, k4⟩, hr⟩ := h.cons
    have k2 : ks = [.int q p.1] := k2
    subst k2
    have hkey : e.key = .int q p.1 := k1
    have hs : Instr.sameNow (.int q) (.int q n) e.key = some (n == p.1) := by rw [hkey]; simp [Instr.sameNow]
    by_cases hn : p.1 = n
    · subst hn
      refine .inr ⟨0, e, p.2, ?_, rfl, rfl, hkey, by simp [mget], fun y => by simp [mput]⟩
      simp [Instr.findNow, hs]
    · have h1 : (p.1 == n) = false := by simpa using hn
      have h2 : (n == p.1) = false := by simpa using fun e => hn e.symm
      rw [h2] at hs
      rcases find_spec n l es (j + 1) hr with ⟨g1, g2, g3⟩ | ⟨i, e', x, g1, g2, g3, g4, g5, g6⟩
      · refine .inl ⟨?_, ?_, fun y => ?_⟩
        · simp [Instr.findNow, hs, g1]
        · simp [mget, h1, g2]
        · simp [mput, h1, g3]
      · refine .inr ⟨i + 1, e', x, ?_, by simpa using g2, by simpa using g3, g4, ?_, fun y => ?_⟩
        · simp only [Instr.findNow, hs, g1]
          rw [show j + 1 + i = j + (i + 1) from by omega]
        · simp [mget, h1, g5]
        · simp [mput, h1, g6]

theorem checkKey_int {K : Nat} {k : IntKind} (h : P.underlying K = some (.int k)) (b : Bool) (n : Nat) (v : Value) : (Instr.checkKey b (n + 1) K v).run P w = .ok () w := by
  simp only [Instr.checkKey, Sem.run_bind, run_underlying h, Result.andThen_ok]
  rfl

theorem findKey_now {K : Nat} {D : TypeDesc} (h : P.underlying K = some D) {k : Value} {es : List MapEntry} {r : Option (Nat × Value)} (hf : Instr.findNow D k es 0 = some r) : (Instr.findKey K k es).run P w = .ok r w := by
  simp only [Instr.findKey, Sem.run_bind, run_underlying h, Result.andThen_ok, hf]
  rfl

theorem getObj_run {r : Nat} {es : Array MapEntry} {clock : Nat} (hb : w.heap[r]? = some (.map es clock)) : (getObj r).run P w = .ok (.map es clock) w := by simp [getObj, Sem.run, hb]

theorem mapOf_spec (h : Mod P w0 conc st a w) {q : IntKind} {u : Ty} {b : AVal} {v : Value} {l : List (Int × u.den)} (hr : (mapOf q u b).run st = some l) (hv : VRel P w conc (okOf conc) b v) :
    ∃ m es clock, v = .map (some m) ∧ w.heap[m]? = some (.map es clock) ∧ EntsRep P w (okOf conc) (.int q) u l es.toList := by
  have ofRep : ∀ {c : Value} {l : List (Int × u.den)}, Rep P (.map (.int q) u) w (okOf conc) [c] l → ∃ m es clock, c = .map (some m) ∧ w.heap[m]? = some (.map es clock) ∧ EntsRep P w (okOf conc) (.int q) u l es.toList := by
    rintro c l ⟨m, es, clock, e1, _, e3, e4, e5⟩
    cases e1
    exact ⟨m, es, clock, rfl, e3, by simpa using e4, fun i x e hx he => e5 i x e hx (by simpa using he)⟩
  cases b <;> simp only [mapOf] at hr <;> try (cases hr; done)
  · rename_i t d
    have hc : castTy (t := t) (t' := .map (.int q) u) d = some l := by
      cases hc : castTy (t := t) (t' := .map (.int q) u) d with
      | none => rw [hc] at hr; cases hr
      | some z => rw [hc] at hr; cases hr; rfl
    obtain ⟨rfl, rfl⟩ := castTy_some hc
    obtain ⟨vs, e1, e2⟩ := hv
    have hl := e2.len
    match vs, hl with
    | [c], _ =>
      have : v = c := by rw [e1]; rfl
      subst this
      exact ofRep e2
  · rename_i id ver
    simp only [RM.run] at hr
    split at hr
    · rename_i cv k' u' l' ho
      obtain ⟨h1, h2⟩ := cond_some hr
      have := nbeq_true h1
      subst this
      have hc : castTy (t := .map k' u') (t' := .map (.int q) u) l' = some l := by
        cases hc : castTy (t := .map k' u') (t' := .map (.int q) u) l' with
        | none => rw [hc] at h2; cases h2
        | some z => rw [hc] at h2; cases h2; rfl
      obtain ⟨he, hl⟩ := castTy_some hc
      cases he
      subst hl
      obtain ⟨c, ow, g1, g2⟩ := obj_rel h ho
      obtain ⟨cv', c', ow', k1, _, _, k3⟩ := hv
      rw [g1] at k1; cases k1
      have hvc := k3 rfl
      subst hvc
      obtain ⟨_, m, es, clock, e1, e3, e4, e5⟩ := g2
      exact ⟨m, es, clock, e1, e3, by simpa using e4, fun i x e hx he => e5 i x e hx (by simpa using he)⟩
    · rename_i cv k' u' l' ho
      obtain ⟨h1, h2⟩ := cond_some hr
      have := nbeq_true h1
      subst this
      have hc : castTy (t := .map k' u') (t' := .map (.int q) u) l' = some l := by
        cases hc : castTy (t := .map k' u') (t' := .map (.int q) u) l' with
        | none => rw [hc] at h2; cases h2
        | some z => rw [hc] at h2; cases h2; rfl
      obtain ⟨he, hl⟩ := castTy_some hc
      cases he
      subst hl
      obtain ⟨c, ow, g1, g2⟩ := obj_rel h ho
      obtain ⟨cv', c', ow', k1, _, _, k3⟩ := hv
      rw [g1] at k1; cases k1
      have hvc := k3 rfl
      subst hvc
      exact ofRep g2.2
    · cases hr

theorem rdK_sound (h : Mod P w0 conc st a w) {L : List (Nat × Bool)} (hl : labs a.tmps L) {q : IntKind} {x : Operand} {n : Int} (hr : (rdK q L x).run st = some n) : a.eval x = .int q n := by
  obtain ⟨b, h1, h2⟩ := RM.bind_some hr
  have hv := rdA_rel h hl h1
  split at h2
  · obtain ⟨e, h3⟩ := ite_some h2
    subst e
    cases h3
    obtain ⟨vs, e1, e2⟩ := hv
    exact rep_int e1 e2
  · cases h2

theorem map_desc (hE : EnvOK P E) {T : Nat} {q : IntKind} {u : Ty} (hT : E.ty T = some (.map (.int q) u)) :
    ∃ K V, P.underlying T = some (.map K V) ∧ P.underlying K = some (.int q) ∧ ElOK P V u := by
  obtain ⟨te, hte, hok⟩ := hE.tyOK hT
  have hd := hok.desc
  rw [hte] at hd
  obtain ⟨K, V, h1, h2, h3⟩ := hd
  exact ⟨K, V, h1, h2, h3⟩

theorem lookup_sound (hE : EnvOK P E) (h : Mod P w0 conc st a w) {T : Nat} {q : IntKind} {u : Ty} (hT : E.ty T = some (.map (.int q) u)) (hu : u.noFn = true) {b : AVal} {v : Value} {l : List (Int × u.den)} (hb : VRel P w conc (okOf conc) b v)
    (hl : (mapOf q u b).run st = some l) (n : Int) (ok : Bool) : ∃ r, (Instr.lookup T v (.int q n) ok).run P w = .ok r w ∧ SRel P w conc (okOf conc) (lookS u ok (mget l n)) r := by
  obtain ⟨K, V, h1, h2, inf, h3, h4, h5, h6, h7⟩ := map_desc hE hT
  obtain ⟨m, es, clock, rfl, e2, e3⟩ := mapOf_spec h hl hb
  have fin : ∀ (d : u.den) (us : List Value) (t : Bool), Rep P u w (okOf conc) us d → (mget l n).getD u.dflt = d → (mget l n).isSome = t →
      SRel P w conc (okOf conc) (lookS u ok (mget l n)) (if ok then .tuple #[u.val us, .bool t] else u.val us) := by
    intro d us t hr hd ht
    unfold lookS
    rw [hd, ht]
    cases ok with
    | true => exact ⟨[u.val us, .bool t], rfl, ⟨us, rfl, hr⟩, vrel_bool (conc := conc) t, trivial⟩
    | false => exact ⟨us, rfl, hr⟩
  rcases find_spec n l es.toList 0 e3 with ⟨g1, g2, _⟩ | ⟨i, e, x, g1, g2, g3, g4, g5, _⟩
  · refine ⟨if ok then .tuple #[u.val (zeroVals u), .bool false] else u.val (zeroVals u), ?_, fin u.dflt _ _ (zero_rep u hu) (by rw [g2]; rfl) (by rw [g2]; rfl)⟩
    have hz : (zeroValue V).run P w = .ok (u.val (zeroVals u)) w := by simp [zeroValue, typeInfo, h3, h6]
    simp only [Instr.lookup, Sem.run_bind, run_underlying h1, Result.andThen_ok, getObj_run e2, checkKey_int h2, findKey_now h2 g1, hz, Sem.run_pure]
  · obtain ⟨_, us, k3, k4⟩ := e3.2 i _ e g3 g2
    refine ⟨if ok then .tuple #[u.val us, .bool true] else u.val us, ?_, fin x _ _ k4 (by rw [g5]; rfl) (by rw [g5]; rfl)⟩
    simp only [Instr.lookup, Sem.run_bind, run_underlying h1, Result.andThen_ok, getObj_run e2, checkKey_int h2, findKey_now h2 g1, Sem.run_pure, k3]

end Go.Abs
