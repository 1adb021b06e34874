/- Operations that change objects: the means. -/
import Derived.Test.YtbcbiemjokpghaaNAbsI
set_option linter.unusedSimpArgs false
set_option linter.unusedVariables false
namespace Go.Abs
open Go
variable {P : Program} {E : Env} {w0 : Start} {w : World} {conc : Conc} {st : ASt} {a : Act}

/-- From a state of which one operation is to be carried out, it leads to another one. -/
def OpOK (P : Program) (w0 : Start) (o : Oper) (a : Act) (w : World) (st' : ASt) : Prop :=
  ∀ (next : Act → World → Prop) (Q : Exit → Act → World → Prop), (∀ a' w', Models P w0 st' a' w' → next a' w') → o.wp P a w next Q

theorem OpOK.value {o : Oper} {st' : ASt} {v : Value} {w' : World} (hr : (execOp a.eval o).run P w = .ok (.value v) w') (h : Models P w0 st' (a.put o.dst v) w') : OpOK P w0 o a w st' := by
  intro next Q hn
  unfold Oper.wp
  rw [hr]
  exact hn _ _ h

theorem OpOK.skip {o : Oper} {st' : ASt} {w' : World} (hr : (execOp a.eval o).run P w = .ok .skip w') (h : Models P w0 st' (a.put o.dst undef) w') : OpOK P w0 o a w st' := by
  intro next Q hn
  unfold Oper.wp
  rw [hr]
  exact hn _ _ h

theorem OpOK.enter {o : Oper} {st' : ASt} {f : Nat} {args : Array Value} {w' : World} {R : Value → World → Prop} (hr : (execOp a.eval o).run P w = .ok (.enter f args) w')
    (hc : Calls P f args w' fun e w'' => ∃ v, e = .returned v ∧ R v w'') (h : ∀ v w'', R v w'' → Models P w0 st' (a.put o.dst v) w'') : OpOK P w0 o a w st' := by
  intro next Q hn
  unfold Oper.wp
  rw [hr]
  refine Calls.mono hc ?_
  rintro e w'' ⟨v, rfl, hv⟩
  exact hn _ _ (h v w'' hv)

theorem applyU_slot {m : Option Nat} {d : Option Nat} {L : List (Nat × Bool)} {g : Bool} {s : SVal} {W0 : W} {st' : ASt} (h : applyU st m (.slot d L g s W0) = some st') :
    (∃ d', d = some d' ∧ st.may d' = true ∧ (∀ q, m = some q → d' ≠ q) ∧
      st' = { N := st.N, marks := moreMarks m st.marks, slots := Map.set st.slots d' ⟨L, g, s⟩, heap := setObjs st.heap W0, fixed := st.fixed }) ∨
    (d = none ∧ st' = { N := st.N, marks := moreMarks m st.marks, slots := st.slots, heap := setObjs st.heap W0, fixed := st.fixed }) := by
  unfold applyU Upd.slot at h
  cases d with
  | none => right; exact ⟨rfl, by cases h; rfl⟩
  | some d' =>
    left
    dsimp only at h
    cases hb : (st.may d' && !isMark m d') with
    | false => rw [hb] at h; cases h
    | true =>
      rw [hb] at h
      simp only [Bool.and_eq_true] at hb
      refine ⟨d', rfl, hb.1, ?_, by cases h; rfl⟩
      intro q hq e
      subst hq
      have := hb.2
      simp [isMark, nbeq, e] at this

theorem applyU_set {d : Nat} {sl : Slot} {W0 : W} {st' : ASt} (h : applyU st none ⟨some (d, sl), W0⟩ = some st') :
    st.may d = true ∧ st' = { N := st.N, marks := st.marks, slots := Map.set st.slots d sl, heap := setObjs st.heap W0, fixed := st.fixed } := by
  have := applyU_slot (st := st) (m := none) (d := some d) (L := sl.L) (g := sl.g) (s := sl.s) (W0 := W0) (st' := st') h
  rcases this with ⟨d', e, h1, _, h2⟩ | ⟨e, _⟩
  · cases e; exact ⟨h1, h2⟩
  · cases e

/-- A slot is written, and objects were. -/
theorem slot_done {w1 : World} {conc1 : Conc} {W0 : W} {d : Option Nat} {s : SVal} {st' : ASt} {v : Value} (h1 : Mod P w0 conc1 { st with heap := setObjs st.heap W0 } a w1)
    (hap : applyU st none (.slot d [] true s W0) = some st') (hv : SRel P w1 conc1 (okOf conc1) s v) : Models P w0 st' (a.put d v) w1 := by
  refine ⟨conc1, ?_⟩
  rcases applyU_slot hap with ⟨d', rfl, g1, _, rfl⟩ | ⟨rfl, rfl⟩
  · exact h1.put (d := d') (sl := ⟨[], true, s⟩) (v := v) (ms := st.marks) g1 (fun _ h => h) (fun p hp => by simp at hp) ⟨fun _ => ⟨rfl, hv⟩, fun hn => absurd (labs_nil _) hn⟩
  · exact h1

/-- Objects that are written no more. -/
theorem frz_done (h : Mod P w0 conc st a w) {W0 : W} (hW : FrzW P conc st w (ids W0) W0) : ∃ conc1, conc1 = frzL conc (ids W0) ∧ Mod P w0 conc1 { st with heap := setObjs st.heap W0 } a w ∧ CLe conc conc1 ∧ Sub w (okOf conc) (okOf conc1) :=
  ⟨_, rfl, h.freeze hW, frzL_le _ _, frzL_sub w _ _⟩

theorem ver_kept {W0 : W} {F : List Nat} (hW : FrzW P conc st w F W0) (d : Nat) : (Map.get (setObjs st.heap W0) d).map (·.1) = (Map.get st.heap d).map (·.1) := by
  rcases get_setObjs st.heap W0 d with ⟨h1, _⟩ | ⟨o, h1, h2⟩
  · rw [h1]
  · obtain ⟨cv, o⟩ := o
    obtain ⟨⟨o0, h3⟩, _⟩ := hW d cv o h2
    rw [h1, h3]; rfl

theorem Mod.new (h : Mod P w0 conc st a w) {id ver : Nat} {c : Value} {o : AObj} {w' : World} (hk : Keeps w w') (hver : ∀ cv c0 ow, conc id = some (cv, c0, ow) → cv < ver)
    (hnew : ∀ b, blockOf c = some b → w.heap.size ≤ b ∧ b < w'.heap.size)
    (hO : ∀ conc', CLe conc conc' → Sub w (okOf conc) (okOf conc') → (∀ b, w.heap.size ≤ b → blockOf c ≠ some b → okOf conc' b) → ORel P w' conc' (okOf conc') c true o) :
    ∃ conc', Mod P w0 conc' { st with heap := Map.set st.heap id (ver, o) } a w' ∧ conc' id = some (ver, c, true) ∧ CLe conc conc' ∧ Sub w (okOf conc) (okOf conc') := by
  obtain ⟨conc', h1, h2, h3, _, h4⟩ := h.obj (id := id) (ver := ver) (c := c) (o := o) (w' := w') (fun cv c0 ow hc => .inl (hver cv c0 ow hc)) hk.os hk.tape hk.output hk.size
    (fun b hb _ => hk.block b hb) (fun b hb => ⟨.inl (hnew b hb).1, (hnew b hb).2⟩) (fun conc' k1 _ _ k2 k3 => hO conc' k1 k2 k3)
  exact ⟨conc', h1, h2, h3, h4⟩

/-- A new object in slot d, behind objects that are written no more. -/
theorem new_done (h : Mod P w0 conc st a w) {W0 : W} (hW : FrzW P conc st w (ids W0) W0) {d : Nat} {o : AObj} {f : Nat → AVal} {u : Upd} {st' : ASt} {c : Value} {w' : World}
    (hr : (newObj d o f W0).run st = some u) (hap : applyU st none u = some st') (hk : Keeps w w') (hnew : ∀ b, blockOf c = some b → w.heap.size ≤ b ∧ b < w'.heap.size)
    (hO : ∀ conc', CLe conc conc' → Sub w (okOf (frzL conc (ids W0))) (okOf conc') → (∀ b, w.heap.size ≤ b → blockOf c ≠ some b → okOf conc' b) → ORel P w' conc' (okOf conc') c true o)
    (hf : ∀ conc' ver, conc' d = some (ver, c, true) → VRel P w' conc' (okOf conc') (f ver) c) : Models P w0 st' (a.put (some d) c) w' := by
  obtain ⟨conc1, rfl, h1, h2, h3⟩ := frz_done h hW
  have key : ∀ ver, (∀ cv c0 ow, frzL conc (ids W0) d = some (cv, c0, ow) → cv < ver) → u = ⟨some (d, ⟨[], true, .v (f ver)⟩), W0 ++ [(d, (ver, o))]⟩ → Models P w0 st' (a.put (some d) c) w' := by
    intro ver hver hu
    subst hu
    obtain ⟨conc2, k1, k2, k3, k4⟩ := h1.new (id := d) (ver := ver) (c := c) (o := o) (w' := w') hk hver hnew fun conc' g1 g2 g3 => hO conc' ⟨g1.1.trans h2.1, fun id cv c0 ow hc => by
      obtain ⟨cv', c', ow', q1, q2⟩ := h2.2 id cv c0 ow hc
      obtain ⟨cv2, c2, ow2, q3, q4⟩ := g1.2 id cv' c' ow' q1
      refine ⟨cv2, c2, ow2, q3, ?_⟩
      rcases q2 with q2 | ⟨rfl, rfl⟩ <;> rcases q4 with q4 | ⟨rfl, rfl⟩
      · exact .inl (by omega)
      · exact .inl q2
      · exact .inl q4
      · exact .inr ⟨rfl, rfl⟩⟩ g2 g3
    have hs := slot_done (st := st) (W0 := W0 ++ [(d, (ver, o))]) (d := some d) (s := .v (f ver)) (st' := st') (v := c) (conc1 := conc2) (w1 := w') (a := a) (w0 := w0) (P := P)
    refine hs ?_ ?_ (hf conc2 ver k2)
    · rw [setObjs_append]; exact k1
    · exact hap
  simp only [newObj, RM.run] at hr
  have hv := ver_kept hW d
  cases hg : Map.get st.heap d with
  | none =>
    rw [hg] at hr hv
    cases hr
    refine key 0 (fun cv c0 ow hc => ?_) rfl
    have : frzL conc (ids W0) d = none := h1.dead d (by
      cases hq : Map.get (setObjs st.heap W0) d with
      | none => rfl
      | some q => rw [hq] at hv; cases hv)
    rw [this] at hc; cases hc
  | some q =>
    obtain ⟨cv0, o0⟩ := q
    rw [hg] at hr hv
    cases hr
    refine key (cv0 + 1) (fun cv c0 ow hc => ?_) rfl
    cases hq : Map.get (setObjs st.heap W0) d with
    | none => rw [hq] at hv; cases hv
    | some q =>
      obtain ⟨cv1, o1⟩ := q
      rw [hq] at hv
      simp at hv
      obtain ⟨c', ow', g1, _⟩ := h1.heap d cv1 o1 hq
      rw [g1] at hc
      cases hc
      omega

end Go.Abs
