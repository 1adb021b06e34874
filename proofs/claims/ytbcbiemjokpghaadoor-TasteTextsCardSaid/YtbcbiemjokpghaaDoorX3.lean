/- Parts of one proof, joined: Regions whose order is drawn: whatever the order, the outcome is that of the text's order. Templates: states of a given make, as data; any state that is of the make is one of them. Starts that move; yields; loops; code. Ranges over functions. Ranges over functions, the whole statement. A function's contract is what the evaluator makes of its body. Functions that change a variable of the caller's own: their contracts from the evaluator. Data that are compared, and keys of maps: by a checker of their types. The evaluator's tables are checked against the program's by evaluation. What a function's text is put together from. -/
import Derived.LoopNIn
import Derived.RangeFuncSeq
import Derived.RangeFuncIn
import Derived.RangeFuncRecord
import Derived.ChangeKeysEq
import Derived.Test.YtbcbiemjokpghaaDoorX2
set_option linter.unusedSimpArgs false
set_option linter.unusedVariables false
namespace Go.Abs
open Go
variable {P : Program} {E : Env} {w0 : Start} {w : World} {st : ASt} {a : Act}

/-- States that say the same. -/
structure Eqv (st st' : ASt) : Prop where
  N : st'.N = st.N
  marks : ∀ m, m ∈ st'.marks ↔ m ∈ st.marks
  slots : ∀ d, Map.get st'.slots d = Map.get st.slots d
  heap : ∀ id, Map.get st'.heap id = Map.get st.heap id
  fixed : st'.fixed = st.fixed

theorem Eqv.refl (st : ASt) : Eqv st st := ⟨rfl, fun _ => Iff.rfl, fun _ => rfl, fun _ => rfl, rfl⟩
theorem Eqv.symm {st st' : ASt} (h : Eqv st st') : Eqv st' st := ⟨h.N.symm, fun m => (h.marks m).symm, fun d => (h.slots d).symm, fun d => (h.heap d).symm, h.fixed.symm⟩
theorem Eqv.trans {a b c : ASt} (h : Eqv a b) (h' : Eqv b c) : Eqv a c := ⟨h'.N.trans h.N, fun m => (h'.marks m).trans (h.marks m), fun d => (h'.slots d).trans (h.slots d), fun d => (h'.heap d).trans (h.heap d), h'.fixed.trans h.fixed⟩

theorem Eqv.models {st st' : ASt} (h : Eqv st st') (hm : Models P w0 st a w) : Models P w0 st' a w := by
  obtain ⟨conc, m⟩ := hm
  exact ⟨conc, { defers := m.defers, size := by rw [m.size, h.N], marks := fun d sl hd p hp => (h.marks _).2 (m.marks d sl (by rw [← h.slots]; exact hd) p hp), slots := fun d sl hd => m.slots d sl (by rw [← h.slots]; exact hd), heap := fun id ver o ho => m.heap id ver o (by rw [← h.heap]; exact ho), dead := fun id hd => m.dead id (by rw [← h.heap]; exact hd), inj := m.inj, base := m.base, keeps := m.keeps, cB := m.cB, cY := m.cY, okS := m.okS, fixed := fun s hs => m.fixed s (by rw [← h.fixed]; exact hs) }⟩

theorem keys_local {β : Type} (m : RM β) : ∀ {st st' : ASt}, (∀ d, (d, true) ∈ m.keys st → Map.get st'.slots d = Map.get st.slots d) → (∀ d, (d, false) ∈ m.keys st → Map.get st'.heap d = Map.get st.heap d) →
    m.run st' = m.run st ∧ m.keys st' = m.keys st := by
  induction m with
  | ret b => intros; exact ⟨rfl, rfl⟩
  | fail => intros; exact ⟨rfl, rfl⟩
  | slot d f ih =>
    intro st st' h1 h2
    have hd := h1 d (by simp [RM.keys])
    have := ih (Map.get st.slots d) (st := st) (st' := st') (fun k hk => h1 k (by simp only [RM.keys]; exact List.mem_cons_of_mem _ hk)) (fun k hk => h2 k (by simp only [RM.keys]; exact List.mem_cons_of_mem _ hk))
    simp only [RM.run, RM.keys, hd]
    exact ⟨this.1, by rw [this.2]⟩
  | obj d f ih =>
    intro st st' h1 h2
    have hd := h2 d (by simp [RM.keys])
    have := ih (Map.get st.heap d) (st := st) (st' := st') (fun k hk => h1 k (by simp only [RM.keys]; exact List.mem_cons_of_mem _ hk)) (fun k hk => h2 k (by simp only [RM.keys]; exact List.mem_cons_of_mem _ hk))
    simp only [RM.run, RM.keys, hd]
    exact ⟨this.1, by rw [this.2]⟩
  | opt γ m f ih =>
    intro st st' h1 h2
    cases m with
    | none => exact ⟨rfl, rfl⟩
    | some x => exact ih x h1 h2

theorem runKK_eq {R β : Type} (m : RM β) (st : ASt) : ∀ K : β → List Key → Option R, m.runKK st K = (m.run st).bind fun x => K x (m.keys st) := by
  induction m with
  | ret b => intro K; rfl
  | fail => intro K; rfl
  | slot d f ih => intro K; simp only [RM.runKK, RM.run, RM.keys, ih]
  | obj id f ih => intro K; simp only [RM.runKK, RM.run, RM.keys, ih]
  | opt γ m f ih =>
    intro K
    cases m with
    | none => rfl
    | some x => simp only [RM.runKK, RM.run, RM.keys, Option.bind_some, ih]

/-- The records of operations, as they are carried out one behind the other. -/
def Runs (E : Env) (ops : Array Oper) (F : Nat → FP) : List Nat → ASt → ASt → Prop
  | [], st, st' => Eqv st st'
  | i :: l, st, st' => ∃ o u st1, ops[i]? = some o ∧ (opRM E ops o).run st = some u ∧ (opRM E ops o).keys st = (F i).r ∧ u.keys = (F i).w ∧ applyU st (guardSlot ops o) u = some st1 ∧ Runs E ops F l st1 st'

theorem get_setObjs_not {l : W} {id : Nat} (h : id ∉ ids l) (m : List (Nat × (Nat × AObj))) : Map.get (setObjs m l) id = Map.get m id := by
  rcases get_setObjs m l id with ⟨h1, _⟩ | ⟨o, _, h2⟩
  · exact h1
  · exact absurd (List.mem_map.2 ⟨_, h2, rfl⟩) h

theorem get_setObjs_eq {l : W} {m m' : List (Nat × (Nat × AObj))} {id : Nat} (h : Map.get m' id = Map.get m id) : Map.get (setObjs m' l) id = Map.get (setObjs m l) id := by
  induction l generalizing m m' with
  | nil => exact h
  | cons p l ih =>
    obtain ⟨j, o⟩ := p
    exact ih (by simp only [Map.get_set, h])

theorem applyU_get {m : Option Nat} {u : Upd} {st1 : ASt} (h : applyU st m u = some st1) : st1.N = st.N ∧ st1.marks = moreMarks m st.marks ∧
    (∀ d, (d, true) ∉ u.keys → Map.get st1.slots d = Map.get st.slots d) ∧ (∀ d, (d, false) ∉ u.keys → Map.get st1.heap d = Map.get st.heap d) ∧ st1.heap = setObjs st.heap u.objs ∧
    (∀ d sl, u.dst = some (d, sl) → st.may d = true ∧ isMark m d = false ∧ st1.slots = Map.set st.slots d sl) ∧ (u.dst = none → st1.slots = st.slots) ∧ st1.fixed = st.fixed := by
  unfold applyU at h
  obtain ⟨dst, objs⟩ := u
  have hheap : ∀ d, (d, false) ∉ (Upd.keys ⟨dst, objs⟩) → Map.get (setObjs st.heap objs) d = Map.get st.heap d := by
    intro d hd
    refine get_setObjs_not (fun hm => hd ?_) _
    unfold Upd.keys
    refine List.mem_append_right _ ?_
    obtain ⟨p, hp, he⟩ := List.mem_map.1 hm
    exact List.mem_map.2 ⟨p, hp, by rw [he]⟩
  cases dst with
  | none =>
    cases h
    exact ⟨rfl, rfl, fun _ _ => rfl, hheap, rfl, fun _ _ h => by simp at h, fun _ => rfl, rfl⟩
  | some p =>
    obtain ⟨d, sl⟩ := p
    dsimp only at h
    cases hb : (st.may d && !isMark m d) with
    | false => rw [hb] at h; cases h
    | true =>
      rw [hb] at h
      cases h
      simp only [Bool.and_eq_true, Bool.not_eq_true'] at hb
      refine ⟨rfl, rfl, fun k hk => ?_, hheap, rfl, fun k s hks => ?_, fun h => by simp at h, rfl⟩
      · rw [Map.get_set, if_neg]
        intro e
        subst e
        exact hk (by unfold Upd.keys; simp)
      · simp only [Option.some.injEq, Prod.mk.injEq] at hks
        obtain ⟨rfl, rfl⟩ := hks
        exact ⟨hb.1, hb.2, rfl⟩

/-- An update of a state that says the same. -/
theorem applyU_eqv {m : Option Nat} {u : Upd} {st1 sta : ASt} (h : applyU st m u = some st1) (he : Eqv st sta) : ∃ sta1, applyU sta m u = some sta1 ∧ Eqv st1 sta1 := by
  obtain ⟨dst, objs⟩ := u
  have hm : ∀ q, q ∈ moreMarks m sta.marks ↔ q ∈ moreMarks m st.marks := by
    intro q
    cases m with
    | none => exact he.marks q
    | some s => simp only [moreMarks, List.mem_cons, he.marks]
  unfold applyU at h ⊢
  cases dst with
  | none =>
    cases h
    exact ⟨_, rfl, he.N, hm, he.slots, fun id => get_setObjs_eq (he.heap id), he.fixed⟩
  | some p =>
    obtain ⟨d, sl⟩ := p
    dsimp only at h ⊢
    have hmay : sta.may d = st.may d := by
      rw [Bool.eq_iff_iff, may_iff, may_iff, he.N, he.marks, he.fixed]
    rw [hmay]
    cases hb : (st.may d && !isMark m d) with
    | false => rw [hb] at h; cases h
    | true =>
      rw [hb] at h
      cases h
      exact ⟨_, rfl, he.N, hm, fun k => by simp only [Map.get_set, he.slots], fun id => get_setObjs_eq (he.heap id), he.fixed⟩

theorem Runs.eqv {ops : Array Oper} {F : Nat → FP} : (l : List Nat) → {st st' sta : ASt} → Runs E ops F l st st' → Eqv st sta → Runs E ops F l sta st'
  | [], st, st', sta, h, he => he.symm.trans h
  | i :: l, st, st', sta, ⟨o, u, st1, h1, h2, h3, h4, h5, h6⟩, he => by
    have hk := keys_local (opRM E ops o) (st := st) (st' := sta) (fun d _ => he.slots d) (fun d _ => he.heap d)
    obtain ⟨sta1, k1, k2⟩ := applyU_eqv h5 he
    exact ⟨o, u, sta1, h1, hk.1.trans h2, hk.2.trans h3, h4, k1, Runs.eqv l h6 k2⟩

theorem guard_key {ops : Array Oper} {o : Oper} {u : Upd} {s : Nat} (hr : (opRM E ops o).run st = some u) (hs : guardSlot ops o = some s) : (s, true) ∈ (opRM E ops o).keys st := by
  unfold guardSlot at hs
  unfold opRM at hr ⊢
  cases hg : o.guard with
  | none => rw [hg] at hs; cases hs
  | some p =>
    obtain ⟨j, want⟩ := p
    rw [hg] at hs hr
    dsimp only at hs hr ⊢
    rw [hs] at hr ⊢
    simp [guardOp, RM.keys]

theorem disj_not {l m : List Key} (h : disj l m = true) {k : Key} (hk : k ∈ l) : k ∉ m := by
  intro hm
  have := List.all_eq_true.1 h k hk
  simp only [Bool.not_eq_true', List.any_eq_false] at this
  exact this k hm (by simp [keyEq, nbeq])

/-- Two neighbours that do not touch each other, exchanged. -/
theorem Runs.swap {ops : Array Oper} {F : Nat → FP} {i j : Nat} {l : List Nat} {st st' : ASt} (h : Runs E ops F (i :: j :: l) st st') (hij : indep (F i) (F j) = true) : Runs E ops F (j :: i :: l) st st' := by
  obtain ⟨o, u, st1, h1, h2, h3, h4, h5, o', u', st2, g1, g2, g3, g4, g5, h6⟩ := h
  simp only [indep, Bool.and_eq_true] at hij
  obtain ⟨⟨d1, d2⟩, d3⟩ := hij
  obtain ⟨p1, p2, p3, p4, p5, p6, p7, p8⟩ := applyU_get h5
  -- the second one, first
  have hk := keys_local (opRM E ops o') (st := st1) (st' := st) (fun d hd => (p3 d (fun hm => by rw [g3] at hd; rw [h4] at hm; exact disj_not d1 hm hd)).symm)
    (fun d hd => (p4 d (fun hm => by rw [g3] at hd; rw [h4] at hm; exact disj_not d1 hm hd)).symm)
  have r2 : (opRM E ops o').run st = some u' := hk.1.trans g2
  have k2 : (opRM E ops o').keys st = (F j).r := hk.2.trans g3
  obtain ⟨q1, q2, q3, q4, q5, q6, q7, q8⟩ := applyU_get g5
  have hst : ∃ sta, applyU st (guardSlot ops o') u' = some sta := by
    unfold applyU
    cases hd : u'.dst with
    | none => exact ⟨_, rfl⟩
    | some p =>
      obtain ⟨d, sl⟩ := p
      obtain ⟨m1, m2, _⟩ := q6 d sl hd
      have : st.may d = true := by
        obtain ⟨m3, m4, m5⟩ := may_iff.1 m1
        refine may_iff.2 ⟨by rw [← p1]; exact m3, fun hm => m4 ?_, by rw [← p8]; exact m5⟩
        rw [p2]
        cases guardSlot ops o <;> simp [moreMarks, hm]
      dsimp only
      rw [this, m2]
      exact ⟨_, rfl⟩
  obtain ⟨sta, hsta⟩ := hst
  obtain ⟨s1, s2, s3, s4, s5, s6, s7, s8⟩ := applyU_get hsta
  have hk' := keys_local (opRM E ops o) (st := st) (st' := sta) (fun d hd => s3 d (fun hm => by rw [h3] at hd; rw [g4] at hm; exact disj_not d2 hm hd))
    (fun d hd => s4 d (fun hm => by rw [h3] at hd; rw [g4] at hm; exact disj_not d2 hm hd))
  have hstb : ∃ stb, applyU sta (guardSlot ops o) u = some stb := by
    unfold applyU
    cases hd : u.dst with
    | none => exact ⟨_, rfl⟩
    | some p =>
      obtain ⟨d, sl⟩ := p
      obtain ⟨m1, m2, _⟩ := p6 d sl hd
      have : sta.may d = true := by
        obtain ⟨m3, m4, m5⟩ := may_iff.1 m1
        refine may_iff.2 ⟨by rw [s1]; exact m3, fun hm => ?_, by rw [s8]; exact m5⟩
        rw [s2] at hm
        cases hgs : guardSlot ops o' with
        | none => rw [hgs] at hm; exact m4 hm
        | some s =>
          rw [hgs] at hm
          rcases List.mem_cons.1 hm with e | hm
          · have hkey := guard_key g2 hgs
            rw [g3] at hkey
            refine disj_not d1 (k := (d, true)) ?_ (by rw [e]; exact hkey)
            rw [← h4]; unfold Upd.keys; rw [hd]; simp
          · exact m4 hm
      dsimp only
      rw [this, m2]
      exact ⟨_, rfl⟩
  obtain ⟨stb, hstb⟩ := hstb
  obtain ⟨t1, t2, t3, t4, t5, t6, t7, t8⟩ := applyU_get hstb
  have heq : Eqv st2 stb := by
    refine ⟨by rw [t1, s1, q1, p1], fun m => ?_, fun d => ?_, fun id => ?_, by rw [t8, s8, q8, p8]⟩
    · rw [t2, s2, q2, p2]
      cases guardSlot ops o <;> cases guardSlot ops o' <;> simp only [moreMarks, List.mem_cons]
      constructor
      · rintro (h | h | h)
        · exact .inr (.inl h)
        · exact .inl h
        · exact .inr (.inr h)
      · rintro (h | h | h)
        · exact .inr (.inl h)
        · exact .inl h
        · exact .inr (.inr h)
    · by_cases hd : (d, true) ∈ u.keys
      · have hd' : (d, true) ∉ u'.keys := by rw [g4]; exact disj_not d3 (by rw [← h4]; exact hd)
        rw [q3 d hd']
        cases hu : u.dst with
        | none => rw [t7 hu, p7 hu, s3 d hd']
        | some p =>
          obtain ⟨e, sl⟩ := p
          rw [(t6 e sl hu).2.2, (p6 e sl hu).2.2, Map.get_set, Map.get_set, s3 d hd']
      · rw [t3 d hd]
        by_cases hd' : (d, true) ∈ u'.keys
        · cases hu : u'.dst with
          | none => rw [s7 hu, q7 hu, p3 d hd]
          | some p =>
            obtain ⟨e, sl⟩ := p
            rw [(s6 e sl hu).2.2, (q6 e sl hu).2.2, Map.get_set, Map.get_set, p3 d hd]
        · rw [s3 d hd', q3 d hd', p3 d hd]
    · by_cases hd : (id, false) ∈ u.keys
      · have hd' : (id, false) ∉ u'.keys := by rw [g4]; exact disj_not d3 (by rw [← h4]; exact hd)
        rw [q4 id hd', t5, p5]
        exact get_setObjs_eq (s4 id hd')
      · rw [t4 id hd, s5, q5]
        exact (get_setObjs_eq (p4 id hd)).symm
  exact ⟨o', u', sta, g1, r2, k2, g4, hsta, o, u, stb, h1, hk'.1.trans h2, hk'.2.trans h3, h4, hstb, Runs.eqv l h6 heq⟩

theorem Runs.bubble {ops : Array Oper} {F : Nat → FP} {i : Nat} {q : List Nat} : (p : List Nat) → {st st' : ASt} → Runs E ops F (p ++ i :: q) st st' → (∀ j ∈ p, indep (F j) (F i) = true) → Runs E ops F (i :: (p ++ q)) st st'
  | [], st, st', h, _ => h
  | j :: p, st, st', ⟨o, u, st1, h1, h2, h3, h4, h5, h6⟩, hi => by
    have := Runs.bubble p h6 fun k hk => hi k (List.mem_cons_of_mem _ hk)
    exact Runs.swap (i := j) (j := i) (l := p ++ q) ⟨o, u, st1, h1, h2, h3, h4, h5, this⟩ (hi j List.mem_cons_self)

theorem indepTo_spec {bits : Nat} {g : FP} : ∀ (fs : List FP) (i : Nat), indepTo bits g i fs = true → ∀ k f, fs[k]? = some f → Nat.testBit bits (i + k) = true ∨ indep f g = true
  | [], i, h, k, f, hf => by simp at hf
  | f0 :: r, i, h, k, f, hf => by
    simp only [indepTo, Bool.and_eq_true, Bool.or_eq_true] at h
    cases k with
    | zero =>
      simp only [List.getElem?_cons_zero, Option.some.injEq] at hf
      subst hf
      exact h.1
    | succ k =>
      simp only [List.getElem?_cons_succ] at hf
      have := indepTo_spec r (i + 1) h.2 k f hf
      rw [show i + 1 + k = i + (k + 1) from by omega] at this
      exact this

theorem opsRD_runs {R : Type} {ops : Array Oper} {bs : List Nat} {K : ASt → Option R} {r : R} : ∀ (l : List Oper) (fs : List FP) (st : ASt), (∀ k o, l[k]? = some o → ops[fs.length + k]? = some o) →
    opsRD E ops bs l fs st K = some r → ∃ gs st', gs.length = l.length ∧ K st' = some r ∧
      (∀ F : Nat → FP, (∀ k g, gs[k]? = some g → F (fs.length + k) = g) → Runs E ops F (List.range' fs.length l.length) st st') ∧
      (∀ i j f g, fs.length ≤ i → j < i → (fs ++ gs)[i]? = some g → (fs ++ gs)[j]? = some f → Nat.testBit (bs.getD i 0) j = true ∨ indep f g = true)
  | [], fs, st, hl, h => by
    refine ⟨[], st, rfl, h, fun F hF => Eqv.refl st, ?_⟩
    intro i j f g h1 h2 h3 h4
    rw [List.append_nil, List.getElem?_eq_none h1] at h3
    cases h3
  | o :: l, fs, st, hl, h => by
    rw [opsRD, runKK_eq] at h
    cases hr : (opRM E ops o).run st with
    | none => rw [hr] at h; cases h
    | some u =>
      rw [hr] at h
      simp only [Option.bind_some] at h
      cases hap : applyU st (guardSlot ops o) u with
      | none => rw [hap] at h; cases h
      | some st1 =>
        rw [hap] at h
        dsimp only at h
        cases hi : indepTo (bs.getD fs.length 0) ⟨(opRM E ops o).keys st, u.keys⟩ 0 fs with
        | false => rw [hi] at h; cases h
        | true =>
          rw [hi] at h
          simp only [cond_true] at h
          obtain ⟨gs, st', g1, g2, g3, g4⟩ := opsRD_runs l (fs ++ [⟨(opRM E ops o).keys st, u.keys⟩]) st1 (fun k o' ho => by
            have := hl (k + 1) o' (by simpa using ho)
            rw [List.length_append, List.length_singleton, show fs.length + 1 + k = fs.length + (k + 1) from by omega]
            exact this) h
          refine ⟨⟨(opRM E ops o).keys st, u.keys⟩ :: gs, st', by simp [g1], g2, fun F hF => ?_, ?_⟩
          · have h0 : F fs.length = ⟨(opRM E ops o).keys st, u.keys⟩ := hF 0 _ rfl
            rw [List.length_cons, List.range'_succ]
            refine ⟨o, u, st1, by simpa using hl 0 o rfl, hr, by rw [h0], by rw [h0], hap, ?_⟩
            have := g3 F (fun k g hg => by
              rw [List.length_append, List.length_singleton, show fs.length + 1 + k = fs.length + (k + 1) from by omega]
              exact hF (k + 1) g (by simpa using hg))
            simpa using this
          · intro i j f g h1 h2 h3 h4
            rw [show fs ++ ⟨(opRM E ops o).keys st, u.keys⟩ :: gs = (fs ++ [⟨(opRM E ops o).keys st, u.keys⟩]) ++ gs from by simp] at h3 h4
            by_cases he : i = fs.length
            · subst he
              rw [List.getElem?_append_left (by simp), List.getElem?_append_right (by omega)] at h3
              simp only [Nat.sub_self, List.getElem?_cons_zero, Option.some.injEq] at h3
              rw [List.getElem?_append_left (by simp; omega), List.getElem?_append_left h2] at h4
              have := indepTo_spec fs 0 hi j f h4
              rw [Nat.zero_add, h3] at this
              exact this
            · exact g4 i j f g (by simp; omega) h2 h3 h4

theorem bitsE_spec {acc : List Nat} {j : Nat} : ∀ (es : List Edge) (s : Nat), Nat.testBit (bitsE es acc s) j = true → Nat.testBit s j = true ∨ ∃ e ∈ es, Region.binds .any e = true ∧ (e.on = j ∨ Nat.testBit (acc.getD e.on 0) j = true)
  | [], s, h => .inl h
  | e :: r, s, h => by
    rw [bitsE] at h
    rcases bitsE_spec r _ h with h | ⟨e', h1, h2, h3⟩
    · cases hb : Region.binds .any e with
      | false => rw [hb] at h; exact .inl h
      | true =>
        rw [hb] at h
        simp only [cond_true, Nat.testBit_or, Bool.or_eq_true, Nat.testBit_two_pow, decide_eq_true_eq] at h
        rcases h with (h | h) | h
        · exact .inl h
        · exact .inr ⟨e, List.mem_cons_self, hb, .inl h⟩
        · exact .inr ⟨e, List.mem_cons_self, hb, .inr h⟩
    · exact .inr ⟨e', List.mem_cons_of_mem _ h1, h2, h3⟩

theorem bef_spec : ∀ (l : List Oper) (acc : List Nat), ∃ r, bef l acc = acc ++ r ∧ ∀ k o, l[k]? = some o → ∀ j, Nat.testBit (r.getD k 0) j = true → ∃ e ∈ o.after.toList, Region.binds .any e = true ∧ (e.on = j ∨ Nat.testBit ((bef l acc).getD e.on 0) j = true)
  | [], acc => ⟨[], by simp [bef], fun k o h => by simp at h⟩
  | o :: l, acc => by
    obtain ⟨r, h1, h2⟩ := bef_spec l (acc ++ [bitsE o.after.toList acc 0])
    have hb : bef (o :: l) acc = bef l (acc ++ [bitsE o.after.toList acc 0]) := by rw [bef, CheckFast.force_eq]
    refine ⟨bitsE o.after.toList acc 0 :: r, by rw [hb, h1]; simp, ?_⟩
    intro k o' ho j hj
    rw [hb]
    cases k with
    | zero =>
      simp only [List.getElem?_cons_zero, Option.some.injEq] at ho
      subst ho
      rw [List.getD_cons_zero] at hj
      rcases bitsE_spec _ _ hj with h | ⟨e, e1, e2, e3⟩
      · simp at h
      · refine ⟨e, e1, e2, e3.imp id fun h => ?_⟩
        by_cases hlt : e.on < acc.length
        · rw [h1, List.append_assoc, List.getD_eq_getElem?_getD, List.getElem?_append_left hlt, ← List.getD_eq_getElem?_getD]; exact h
        · rw [List.getD_eq_getElem?_getD, List.getElem?_eq_none (by omega)] at h
          simp at h
    | succ k =>
      exact h2 k o' (by simpa using ho) j (by simpa using hj)

theorem fwd_spec : ∀ (l : List Oper) (i : Nat), fwd i l = true → ∀ k o, l[k]? = some o → ∀ e ∈ o.after.toList, Region.binds .any e = true → e.on < i + k
  | [], i, h, k, o, ho => by simp at ho
  | o0 :: r, i, h, k, o, ho => by
    simp only [fwd, Bool.and_eq_true] at h
    cases k with
    | zero =>
      simp only [List.getElem?_cons_zero, Option.some.injEq] at ho
      subst ho
      intro e he hb
      have := List.all_eq_true.1 h.1 e he
      rw [hb] at this
      simpa using this
    | succ k =>
      have := fwd_spec r (i + 1) h.2 k o (by simpa using ho)
      intro e he hb
      have := this e he hb
      omega

theorem wpAny_runs (hE : EnvOK P E) {rd : Option Nat} {nn : Nat} {ops : Array Oper} {F : Nat → FP} {B : Nat → Nat} {Q : Exit → Act → World → Prop} {st2 : ASt}
    (hB : ∀ i o, ops[i]? = some o → ∀ j, Nat.testBit (B i) j = true → ∃ e ∈ o.after.toList, Region.binds .any e = true ∧ (e.on = j ∨ Nat.testBit (B e.on) j = true))
    (hfw : ∀ i o, ops[i]? = some o → ∀ e ∈ o.after.toList, Region.binds .any e = true → e.on < i)
    (hI : ∀ i j, i < ops.size → j < i → Nat.testBit (B i) j = true ∨ indep (F j) (F i) = true) (hq : ∀ a' w', Models P w0 st2 a' w' → Q .normal a' w') :
    ∀ (n : Nat) (listed : Array Bool) (l : List Nat) {st : ASt} {a : Act} {w : World}, l.length = n → l.Pairwise (· < ·) → listed.size = ops.size → (∀ i, i ∈ l ↔ i < ops.size ∧ listed.getD i true = false) →
      (∀ i, i < ops.size → i ∉ l → ∀ j, Nat.testBit (B i) j = true → j ∉ l) → Models P w0 st a w → Runs E ops F l st st2 → wpAnyIn (Fr rd) nn P .any ops Q n listed a w := by
  have ready_iff : ∀ (listed : Array Bool) i, i ∈ Region.ready .any ops listed ↔ i < ops.size ∧ listed.getD i true = false ∧ ∃ o, ops[i]? = some o ∧ ∀ e ∈ o.after.toList, Region.binds .any e = true → listed.getD e.on false = true := by
    intro listed i
    unfold Region.ready
    simp only [List.mem_filter, List.mem_range, Bool.and_eq_true, Bool.not_eq_true']
    constructor
    · rintro ⟨h1, h2, h3⟩
      refine ⟨h1, h2, ops[i], by simp [h1], ?_⟩
      simp only [h1, getElem?_pos, Option.map_some, Option.getD_some, Array.all_eq_true_iff_forall_mem] at h3
      intro e he hb
      have := h3 e (by simpa using he)
      rw [hb] at this
      simpa using this
    · rintro ⟨h1, h2, o, h3, h4⟩
      refine ⟨h1, h2, ?_⟩
      rw [h3]
      simp only [Option.map_some, Option.getD_some, Array.all_eq_true_iff_forall_mem]
      intro e he
      cases hb : Region.binds .any e with
      | false => rfl
      | true => simpa using h4 e (by simpa using he) hb
  have listed_of : ∀ (listed : Array Bool) (l : List Nat), listed.size = ops.size → (∀ i, i ∈ l ↔ i < ops.size ∧ listed.getD i true = false) → ∀ i, i < ops.size → (listed.getD i false = true ↔ i ∉ l) := by
    intro listed l hs hl i hi
    rw [hl]
    simp only [hi, true_and]
    simp [Array.getD, hs, hi]
  intro n
  induction n with
  | zero =>
    intro listed l st a w hn hp hs hl hc hm hr
    have : l = [] := List.eq_nil_of_length_eq_zero hn
    subst this
    refine ⟨?_, hq a w (Eqv.models hr hm)⟩
    refine List.eq_nil_iff_forall_not_mem.2 fun i hi => ?_
    obtain ⟨h1, h2, _⟩ := (ready_iff _ _).1 hi
    exact absurd ((hl i).2 ⟨h1, h2⟩) (by simp)
  | succ n ih =>
    intro listed l st a w hn hp hs hl hc hm hr
    constructor
    · intro hnil
      cases l with
      | nil => simp at hn
      | cons h0 t =>
        obtain ⟨g1, g2⟩ := (hl h0).1 List.mem_cons_self
        have : h0 ∈ Region.ready .any ops listed := by
          refine (ready_iff _ _).2 ⟨g1, g2, ops[h0], by simp [g1], fun e he hb => ?_⟩
          have hlt := hfw h0 _ (by simp [g1]) e he hb
          refine (listed_of listed _ hs hl e.on (by omega)).2 fun hmem => ?_
          rcases List.mem_cons.1 hmem with e1 | e1
          · omega
          · have := (List.pairwise_cons.1 hp).1 _ e1
            omega
        rw [hnil] at this
        cases this
    · intro i hi
      obtain ⟨h1, h2, o, h3, h4⟩ := (ready_iff _ _).1 hi
      have hil : i ∈ l := (hl i).2 ⟨h1, h2⟩
      obtain ⟨p, q, rfl⟩ := List.append_of_mem hil
      -- what stands ahead has been listed
      have hahead : ∀ j, Nat.testBit (B i) j = true → j ∉ p ++ i :: q := by
        intro j hj
        obtain ⟨e, e1, e2, e3⟩ := hB i o h3 j hj
        have hel := h4 e e1 e2
        have hlt := hfw i o h3 e e1 e2
        have hen := (listed_of listed _ hs hl e.on (by omega)).1 hel
        rcases e3 with rfl | e3
        · exact hen
        · exact hc e.on (by omega) hen j e3
      have hpw := List.pairwise_append.1 hp
      have hpi : ∀ j ∈ p, j < i := fun j hj => hpw.2.2 j hj i List.mem_cons_self
      have hruns := Runs.bubble p hr fun j hj => (hI i j h1 (hpi j hj)).resolve_left fun hb => hahead j hb (by simp [hj])
      obtain ⟨o', u, st1, r1, r2, r3, r4, r5, r6⟩ := hruns
      have ho : o' = o := by rw [h3] at r1; exact (Option.some.inj r1).symm
      subst ho
      have hstep := opRM_sound hE hm r2 r5
      have hnotin : i ∉ p ++ q := by
        intro hm
        rcases List.mem_append.1 hm with hm | hm
        · exact absurd (hpi i hm) (by omega)
        · have := (List.pairwise_cons.1 hpw.2.1).1 i hm
          omega
      have next : ∀ a' w', Models P w0 st1 a' w' → wpAnyIn (Fr rd) nn P .any ops Q n (listed.setIfInBounds i true) a' w' := by
        intro a' w' hm'
        refine ih _ (p ++ q) (by simp at hn ⊢; omega) ?_ (by simp [hs]) ?_ ?_ hm' r6
        · exact List.pairwise_append.2 ⟨hpw.1, (List.pairwise_cons.1 hpw.2.1).2, fun x hx y hy => hpw.2.2 x hx y (List.mem_cons_of_mem _ hy)⟩
        · intro k
          have hk := hl k
          by_cases hki : k = i
          · subst hki
            constructor
            · intro h; exact absurd h hnotin
            · rintro ⟨_, h⟩
              simp [Array.getD, hs, h1] at h
          · have : (k ∈ p ++ q) ↔ (k ∈ p ++ i :: q) := by simp [hki]
            rw [this, hk]
            by_cases hks : k < ops.size
            · simp [Array.getD, hs, hks, Array.getElem_setIfInBounds, Ne.symm hki]
            · simp [hks]
        · intro k hk hkn j hj
          by_cases hki : k = i
          · subst hki
            intro hm
            exact hahead j hj (by rcases List.mem_append.1 hm with h | h <;> simp [h])
          · intro hm
            refine hc k hk (fun hmem => hkn ?_) j hj (by rcases List.mem_append.1 hm with h | h <;> simp [h])
            rcases List.mem_append.1 hmem with h | h
            · exact List.mem_append_left _ h
            · rcases List.mem_cons.1 h with e | h
              · exact absurd e hki
              · exact List.mem_append_right _ h
      unfold wpOpIn
      rw [h3]
      dsimp only
      cases hw : Region.wanted o' (yielded ops a.tmps) with
      | true =>
        simp only [if_true]
        exact op_in (no_defer r2) (hstep.1 hw _ Q fun a' w' hm' => next a' w' hm')
      | false =>
        simp only [Bool.false_eq_true, if_false]
        exact ⟨fun _ _ => trivial, next _ _ (hstep.2 hw)⟩

end Go.Abs

set_option linter.unusedSimpArgs false
set_option linter.unusedVariables false
namespace Go.Abs
open Go

structure Dyn where
  t : Ty
  d : t.den

/-- A cell's make. hole: data. pp: a pointer to data. hand, bptr: of an object of the call's own. -/
inductive CellT where
  | hole (t : Ty)
  | pp (t : Ty)
  | hand (id : Nat)
  | nhand (id : Nat)
  | bptr (id off : Nat)
  | oclo (f : Nat) (t : Ty) (id : Nat)
  | nils
  | fref (f : Nat)
  | yld

inductive SlotT where
  | v (c : CellT)
  | comp (l : List CellT)

inductive ObjT where
  | buf (e : Ty)
  | box (t : Ty) (l : List CellT)
  | map (k v : Ty)
  | nbuf (e : Ty)
  | cbuf (a u e : Ty) (s j : Nat)

structure Templ where
  N : Nat
  tys : List Ty
  slots : List (Nat × SlotT)
  objs : List (Nat × ObjT)
  fx : List Nat

/-- What a scan finds: data, from which object each object of the make comes (none: a slice without memory), and what is to be written no more. -/
structure Sc where
  ds : List Dyn
  srcs : List (Nat × Option Nat)
  ws : W

def Sc.add (x y : Sc) : Sc := ⟨x.ds ++ y.ds, x.srcs ++ y.srcs, x.ws ++ y.ws⟩
def Sc.nil : Sc := ⟨[], [], []⟩

def decCell (E : Env) : CellT → AVal → RM Sc
  | .hole t, a => (peekA E t a).bind fun x => .ret ⟨[⟨t, x.1⟩], [], x.2⟩
  | .pp t, a => (capA E t a).bind fun x => .ret ⟨[⟨t, x.1⟩], [], x.2⟩
  | .hand i, .hand id ver => .obj id fun
    | some (cv, .buf _ _) => bif Nat.beq cv ver then .ret ⟨[], [(i, some id)], []⟩ else .fail
    | some (cv, .map _ _ _) => bif Nat.beq cv ver then .ret ⟨[], [(i, some id)], []⟩ else .fail
    | some (cv, .cbuf _ _ _ _ _ _ _) => bif Nat.beq cv ver then .ret ⟨[], [(i, some id)], []⟩ else .fail
    | _ => .fail
  | .hand i, .nils => .ret ⟨[], [(i, none)], []⟩
  | .nhand i, .nhand id ver => .obj id fun
    | some (cv, .nbuf _ _) => bif Nat.beq cv ver then .ret ⟨[], [(i, some id)], []⟩ else .fail
    | _ => .fail
  | .bptr i off, .bptr id ver off' => .obj id fun
    | some (cv, .box _ _) => bif Nat.beq cv ver && Nat.beq off off' then .ret ⟨[], [(i, some id)], []⟩ else .fail
    | _ => .fail
  | .oclo f t i, .oclo f' t' d id ver => .obj id fun
    | some (cv, .box _ _) => bif Nat.beq f f' && Nat.beq cv ver then (match castTy (t := t') (t' := t) d with
      | some x => .ret ⟨[⟨t, x⟩], [(i, some id)], []⟩
      | none => .fail) else .fail
    | _ => .fail
  | .nils, .nils => .ret .nil
  | .fref f, .fref f' => bif Nat.beq f f' then .ret .nil else .fail
  | .yld, .yld => .ret .nil
  | _, _ => .fail

def decCells (E : Env) : List CellT → List AVal → RM Sc
  | [], [] => .ret .nil
  | c :: l, a :: m => (decCell E c a).bind fun x => (decCells E l m).bind fun y => .ret (x.add y)
  | _, _ => .fail

def decSlot (E : Env) : SlotT → SVal → RM Sc
  | .v (.hole t), s => (peek E t s).bind fun x => .ret ⟨[⟨t, x.1⟩], [], x.2⟩
  | .v c, .v a => decCell E c a
  | .comp l, .comp m => decCells E l m
  | .comp l, .v (.pure t d) => bif t.isPair then decCells E l (explode t d) else .fail
  | _, _ => .fail

def decSlots (E : Env) : List (Nat × SlotT) → RM Sc
  | [] => .ret .nil
  | (d, t) :: r => .slot d fun
    | some ⟨[], _, s⟩ => (decSlot E t s).bind fun x => (decSlots E r).bind fun y => .ret (x.add y)
    | _ => .fail

/-- The field of element n that may be opened: nil. -/
def nilAt {α β γ : Type} (l : List (α × Option β × γ)) (n : Int) : Option Unit := match geti l n with
  | some (_, none, _) => some ()
  | _ => none

def decObj (E : Env) (srcs : List (Nat × Option Nat)) (i : Nat) : ObjT → RM Sc
  | .buf e => match Map.get srcs i with
    | some none => .ret ⟨[⟨.slice e, ([] : List e.den)⟩], [], []⟩
    | some (some id) => .obj id fun
      | some (_, .buf e' l) => bif decide (e' = e) then .ret ⟨[⟨.slice e', l⟩], [], []⟩ else .fail
      | some (_, .cbuf ta tu te l n j v) => bif decide (cellTy ta tu te = e) then .obj j fun
        | some (cj, .buf u' lj) => bif Nat.beq cj v then (if h : u' = tu then
            .ret ⟨[⟨.slice (cellTy ta tu te), closeL l n (h ▸ lj)⟩], [], [(j, (cj, .fbuf u' lj))]⟩ else .fail) else .fail
        | _ => .fail else .fail
      | _ => .fail
    | none => .fail
  | .box t l => match Map.get srcs i with
    | some (some id) => .obj id fun
      | some (_, .box u cells) => bif decide (u = t) then decCells E l cells else .fail
      | _ => .fail
    | _ => .fail
  | .map k v => match Map.get srcs i with
    | some (some id) => .obj id fun
      | some (_, .map k' v' l) => bif decide (k' = k ∧ v' = v) then .ret ⟨[⟨.map k' v', l⟩], [], []⟩ else .fail
      | _ => .fail
    | _ => .fail
  | .nbuf e => match Map.get srcs i with
    | some (some id) => .obj id fun
      | some (_, .nbuf e' l) => bif decide (e' = e) then .ret ⟨[⟨.slice (.slice e'), l⟩], [], []⟩ else .fail
      | _ => .fail
    | _ => .fail
  | .cbuf ta tu te s j => match Map.get srcs i with
    | some (some id) => .obj id fun
      | some (_, .cbuf ta' tu' te' l n jj v) => bif decide (ta' = ta ∧ tu' = tu ∧ te' = te) then .obj jj fun
        | some (cj, .buf _ _) => bif Nat.beq cj v then .ret ⟨[⟨.slice (cellTy ta' tu' te'), l⟩, ⟨.int .i64, n⟩], [(j, some jj)], []⟩ else .fail
        | _ => .fail else .fail
      | some (_, .buf e' l) => match castTy (t := .slice e') (t' := .slice (cellTy ta tu te)) l with
        | some l => (rdInt [] (.tmp s)).bind fun n =>
          .opt Unit (nilAt (α := ta.den) (β := List tu.den) (γ := te.den) l n) fun _ => .ret ⟨[⟨.slice (cellTy ta tu te), l⟩, ⟨.int .i64, n⟩], [(j, none)], []⟩
        | none => .fail
      | _ => .fail
    | _ => .fail

def decObjs (E : Env) : List (Nat × Option Nat) → List (Nat × ObjT) → RM Sc
  | _, [] => .ret .nil
  | srcs, (i, t) :: r => (decObj E srcs i t).bind fun x => (decObjs E (srcs ++ x.srcs) r).bind fun y => .ret (x.add y)

def decAll (E : Env) (T : Templ) : RM Sc := (decSlots E T.slots).bind fun x => (decObjs E x.srcs T.objs).bind fun y => .ret (x.add y)

def srcOK (p q : Nat × Option Nat) : Bool :=
  bif Nat.beq p.1 q.1 then (match p.2, q.2 with
    | none, none => true
    | some a, some b => Nat.beq a b
    | _, _ => false)
  else (match p.2, q.2 with
    | some a, some b => !Nat.beq a b
    | _, _ => true)

def okSc (T : Templ) (S : Sc) : Bool :=
  (S.srcs.all fun p => S.srcs.all (srcOK p)) && (S.srcs.all fun p => match Map.get T.objs p.1 with | some _ => true | none => false) &&
  S.srcs.all fun p => match p.2 with | some id => !S.ws.any fun q => Nat.beq q.1 id | none => true

@[reducible] def denU : List Ty → Type
  | [] => Unit
  | t :: ts => t.den × denU ts

def toU : (ts : List Ty) → List Dyn → Option (denU ts)
  | [], [] => some ()
  | t :: ts, d :: ds => match castTy (t := d.t) (t' := t) d.d, toU ts ds with
    | some x, some r => some (x, r)
    | _, _ => none
  | _, _ => none

def ofU : (ts : List Ty) → denU ts → List Dyn
  | [], _ => []
  | t :: ts, (x, r) => ⟨t, x⟩ :: ofU ts r

def eqN : List Nat → List Nat → Bool
  | [], [] => true
  | a :: l, b :: m => Nat.beq a b && eqN l m
  | _, _ => false

theorem eqN_eq : {l m : List Nat} → eqN l m = true → l = m
  | [], [], _ => rfl
  | a :: l, b :: m, h => by
    simp only [eqN, Bool.and_eq_true] at h
    rw [nbeq_true h.1, eqN_eq h.2]
  | [], _ :: _, h => by cases h
  | _ :: _, [], h => by cases h

def dec (E : Env) (T : Templ) (st : ASt) : Option (denU T.tys) :=
  (decAll E T).runK st fun S => bif okSc T S && Nat.beq st.N T.N && eqN st.fixed T.fx then toU T.tys S.ds else none

def mkCell : CellT → List Dyn → Option (AVal × List Dyn)
  | .hole _, ⟨t, d⟩ :: r => some (.pure t d, r)
  | .pp _, ⟨t, d⟩ :: r => some (.pptr t d, r)
  | .hand i, r => some (.hand i 0, r)
  | .nhand i, r => some (.nhand i 0, r)
  | .bptr i off, r => some (.bptr i 0 off, r)
  | .oclo f _ i, ⟨t, d⟩ :: r => some (.oclo f t d i 0, r)
  | .nils, r => some (.nils, r)
  | .fref f, r => some (.fref f, r)
  | .yld, r => some (.yld, r)
  | _, [] => none

def mkCells : List CellT → List Dyn → Option (List AVal × List Dyn)
  | [], r => some ([], r)
  | c :: l, r => match mkCell c r with
    | some (a, r) => match mkCells l r with
      | some (m, r) => some (a :: m, r)
      | none => none
    | none => none

def mkSlot : SlotT → List Dyn → Option (SVal × List Dyn)
  | .v c, r => match mkCell c r with
    | some (a, r) => some (.v a, r)
    | none => none
  | .comp l, r => match mkCells l r with
    | some (m, r) => some (.comp m, r)
    | none => none

def mkSlots : List (Nat × SlotT) → List Dyn → Option (List (Nat × Slot) × List Dyn)
  | [], r => some ([], r)
  | (d, t) :: l, r => match mkSlot t r with
    | some (s, r) => match mkSlots l r with
      | some (m, r) => some ((d, ⟨[], true, s⟩) :: m, r)
      | none => none
    | none => none

def mkObj : ObjT → List Dyn → Option (AObj × List Dyn)
  | .buf _, ⟨.slice e, l⟩ :: r => some (.buf e l, r)
  | .box t l, r => match mkCells l r with
    | some (m, r) => some (.box t m, r)
    | none => none
  | .map _ _, ⟨.map k v, l⟩ :: r => some (.map k v l, r)
  | .nbuf _, ⟨.slice (.slice e), l⟩ :: r => some (.nbuf e l, r)
  | .cbuf _ _ _ _ j, ⟨.slice (.pair ta (.pair (.sliceN tu) te)), l⟩ :: ⟨.int _, n⟩ :: r => some (.cbuf ta tu te l n j 0, r)
  | _, _ => none

def mkObjs : List (Nat × ObjT) → List Dyn → Option (List (Nat × (Nat × AObj)) × List Dyn)
  | [], r => some ([], r)
  | (i, t) :: l, r => match mkObj t r with
    | some (o, r) => match mkObjs l r with
      | some (m, r) => some ((i, (0, o)) :: m, r)
      | none => none
    | none => none

def mk (T : Templ) (d : denU T.tys) : ASt :=
  match mkSlots T.slots (ofU T.tys d) with
  | some (s, r) => match mkObjs T.objs r with
    | some (h, _) => ⟨T.N, [], s, h, T.fx⟩
    | none => ⟨T.N, [], [], [], T.fx⟩
  | none => ⟨T.N, [], [], [], T.fx⟩

variable {P : Program} {E : Env} {w0 : Start} {w : World} {conc : Conc} {st : ASt} {a : Act}

theorem toU_some : (ts : List Ty) → {ds : List Dyn} → {d : denU ts} → toU ts ds = some d → ofU ts d = ds
  | [], [], d, h => rfl
  | [], _ :: _, d, h => by simp [toU] at h
  | t :: ts, [], d, h => by simp [toU] at h
  | t :: ts, ⟨u, y⟩ :: ds, d, h => by
    simp only [toU] at h
    split at h
    · rename_i x r hx hr
      cases h
      obtain ⟨e, he⟩ := castTy_some hx
      subst e
      subst he
      simp only [ofU, toU_some ts hr]
    · cases h

/-- The objects of the make, as they come from those of the state. -/
def Good (conc : Conc) (srcs : List (Nat × Option Nat)) (conc' : Conc) : Prop := ∀ i s, (i, s) ∈ srcs → match s with
  | none => conc' i = some (0, .slice none 0 0, true)
  | some id => ∃ cv c, conc id = some (cv, c, true) ∧ conc' i = some (0, c, true)

structure Conv (w : World) (conc : Conc) (S : Sc) (F : List Nat) (conc' : Conc) : Prop where
  ws : ∀ id ∈ ids S.ws, id ∈ F
  good : Good conc S.srcs conc'
  sub : Sub w (okOf (frzL conc F)) (okOf conc')
  yl : conc'.yl = conc.yl

theorem Conv.left {x y : Sc} {F : List Nat} {conc' : Conc} (h : Conv w conc (x.add y) F conc') : Conv w conc x F conc' :=
  ⟨fun id hi => h.ws id (by simp only [Sc.add, ids_append]; exact List.mem_append_left _ hi), fun i s hi => h.good i s (by simp only [Sc.add]; exact List.mem_append_left _ hi), h.sub, h.yl⟩
theorem Conv.right {x y : Sc} {F : List Nat} {conc' : Conc} (h : Conv w conc (x.add y) F conc') : Conv w conc y F conc' :=
  ⟨fun id hi => h.ws id (by simp only [Sc.add, ids_append]; exact List.mem_append_right _ hi), fun i s hi => h.good i s (by simp only [Sc.add]; exact List.mem_append_right _ hi), h.sub, h.yl⟩

theorem Rep.re {t : Ty} {d : t.den} {vs : List Value} {w : World} {ok ok' : Nat → Prop} (h : Rep P t w ok vs d) (hs : Sub w ok ok') : Rep P t w ok' vs d :=
  h.mono t ⟨Nat.le_refl _, fun _ _ _ => rfl⟩ hs

theorem subT {S : Sc} {F : List Nat} {conc' : Conc} (h : Conv w conc S F conc') : Sub w (okOf conc) (okOf conc') :=
  (frzL_sub w conc F).trans (Nat.le_refl _) h.sub

def CellConv (P : Program) (w : World) (conc : Conc) (c : CellT) (S : Sc) (v : Value) : Prop :=
  ∃ y, (∀ r, mkCell c (S.ds ++ r) = some (y, r)) ∧ ∀ F conc', Conv w conc S F conc' → VRel P w conc' (okOf conc') y v

theorem decCell_spec (hE : EnvOK P E) (h : Mod P w0 conc st a w) {c : CellT} {x : AVal} {v : Value} {S : Sc} (hr : (decCell E c x).run st = some S) (hv : VRel P w conc (okOf conc) x v) : CellConv P w conc c S v := by
  unfold decCell at hr
  split at hr
  · obtain ⟨d, h1, h2⟩ := RM.bind_some hr
    cases h2
    obtain ⟨us, e1, e2⟩ := peekA_spec hE h h1 hv
    exact ⟨_, fun r => rfl, fun F conc' hc => ⟨us, e1, (e2 F hc.ws).2.re hc.sub⟩⟩
  · obtain ⟨d, h1, h2⟩ := RM.bind_some hr
    cases h2
    refine ⟨_, fun r => rfl, fun F conc' hc => ?_⟩
    obtain ⟨b, off, cs, T, fr, g1, g2, g3, g4, g5⟩ := (capA_spec hE h h1 hv F hc.ws).2
    exact ⟨b, off, cs, T, fr, g1, hc.sub b g2 (Array.getElem?_eq_some_iff.1 g3).1, g3, g4, g5.re hc.sub⟩
  · rename_i i id ver
    simp only [RM.run] at hr
    split at hr
    · rename_i cv e l ho
      obtain ⟨g1, g2⟩ := cond_some hr
      have := nbeq_true g1
      subst this
      cases g2
      obtain ⟨c, ow, k1, k2⟩ := obj_rel h ho
      obtain ⟨cv', c', ow', m1, m2, mo, m3⟩ := hv
      rw [k1] at m1; cases m1
      obtain ⟨rfl, k2⟩ := k2
      refine ⟨_, fun r => rfl, fun F conc' hc => ?_⟩
      obtain ⟨cv2, c2, p1, p2⟩ := hc.good i (some id) (by simp)
      rw [k1] at p1; cases p1
      exact ⟨0, c, true, p2, Nat.le_refl _, mo, fun _ => m3 rfl⟩
    · rename_i cv k u l ho
      obtain ⟨g1, g2⟩ := cond_some hr
      have := nbeq_true g1
      subst this
      cases g2
      obtain ⟨c, ow, k1, k2⟩ := obj_rel h ho
      obtain ⟨cv', c', ow', m1, m2, mo, m3⟩ := hv
      rw [k1] at m1; cases m1
      obtain ⟨rfl, k2⟩ := k2
      refine ⟨_, fun r => rfl, fun F conc' hc => ?_⟩
      obtain ⟨cv2, c2, p1, p2⟩ := hc.good i (some id) (by simp)
      rw [k1] at p1; cases p1
      exact ⟨0, c, true, p2, Nat.le_refl _, mo, fun _ => m3 rfl⟩
    · rename_i cv ta tu te l n j v ho
      obtain ⟨g1, g2⟩ := cond_some hr
      have := nbeq_true g1
      subst this
      cases g2
      obtain ⟨c, ow, k1, k2⟩ := obj_rel h ho
      obtain ⟨cv', c', ow', m1, m2, mo, m3⟩ := hv
      rw [k1] at m1; cases m1
      obtain ⟨rfl, k2⟩ := k2
      refine ⟨_, fun r => rfl, fun F conc' hc => ?_⟩
      obtain ⟨cv2, c2, p1, p2⟩ := hc.good i (some id) (by simp)
      rw [k1] at p1; cases p1
      exact ⟨0, c, true, p2, Nat.le_refl _, mo, fun _ => m3 rfl⟩
    · cases hr
  · rename_i i
    cases hr
    refine ⟨_, fun r => rfl, fun F conc' hc => ?_⟩
    have := hc.good i none (by simp)
    have hv' : v = .slice none 0 0 := hv
    subst hv'
    exact ⟨0, _, true, this, Nat.le_refl _, rfl, fun _ => rfl⟩
  · rename_i i id ver
    simp only [RM.run] at hr
    split at hr
    · rename_i cv e l ho
      obtain ⟨g1, g2⟩ := cond_some hr
      have := nbeq_true g1
      subst this
      cases g2
      obtain ⟨c, ow, k1, k2⟩ := obj_rel h ho
      obtain ⟨cv', c', ow', m1, m2, mo, m3⟩ := hv
      rw [k1] at m1; cases m1
      obtain ⟨rfl, k2⟩ := k2
      refine ⟨_, fun r => rfl, fun F conc' hc => ?_⟩
      obtain ⟨cv2, c2, p1, p2⟩ := hc.good i (some id) (by simp)
      rw [k1] at p1; cases p1
      exact ⟨0, c, true, p2, Nat.le_refl _, mo, fun _ => m3 rfl⟩
    · cases hr
  · rename_i i off id ver off'
    simp only [RM.run] at hr
    split at hr
    · rename_i cv u cells ho
      obtain ⟨g1, g2⟩ := cond_some hr
      simp only [Bool.and_eq_true] at g1
      have e1 := nbeq_true g1.1
      have e2 := nbeq_true g1.2
      subst e1
      subst e2
      cases g2
      obtain ⟨c, ow, k1, k2⟩ := obj_rel h ho
      obtain ⟨cv', c', ow', m1, m2, mo, m3⟩ := hv
      rw [k1] at m1; cases m1
      obtain ⟨rfl, k2⟩ := k2
      refine ⟨_, fun r => rfl, fun F conc' hc => ?_⟩
      obtain ⟨cv2, c2, p1, p2⟩ := hc.good i (some id) (by simp)
      rw [k1] at p1; cases p1
      exact ⟨0, c, true, p2, Nat.le_refl _, mo, fun _ => m3 rfl⟩
    · cases hr
  · rename_i f t i f' t' d id ver
    simp only [RM.run] at hr
    split at hr
    · rename_i cv u cells ho
      obtain ⟨g1, g2⟩ := cond_some hr
      simp only [Bool.and_eq_true] at g1
      have e1 := nbeq_true g1.1
      have e2 := nbeq_true g1.2
      subst e1
      subst e2
      split at g2
      · rename_i x hx
        obtain ⟨e3, he⟩ := castTy_some hx
        subst e3
        subst he
        cases g2
        obtain ⟨c, ow, k1, k2⟩ := obj_rel h ho
        obtain ⟨cv', c', ow', q, p, m1, m2, m4, mo, m3, b, off, cs, T, fr, n1, n2, n3, n4, n5⟩ := hv
        rw [k1] at m1; cases m1
        obtain ⟨rfl, k2⟩ := k2
        refine ⟨_, fun r => rfl, fun F conc' hc => ?_⟩
        obtain ⟨cv2, c2, p1, p2⟩ := hc.good i (some id) (by simp)
        rw [k1] at p1; cases p1
        exact ⟨0, c, true, q, p, p2, Nat.le_refl _, m4, mo, fun _ => m3 rfl, b, off, cs, T, fr, n1, subT hc b n2 (Array.getElem?_eq_some_iff.1 n3).1, n3, n4, n5.re (subT hc)⟩
      · cases g2
    · cases hr
  · cases hr
    exact ⟨_, fun r => rfl, fun F conc' hc => hv⟩
  · obtain ⟨g1, g2⟩ := cond_some hr
    cases g2
    have := nbeq_true g1
    subst this
    exact ⟨_, fun r => rfl, fun F conc' hc => hv⟩
  · cases hr
    exact ⟨_, fun r => rfl, fun F conc' hc => by
      show v = _
      rw [hc.yl]
      exact hv⟩
  · cases hr

theorem decCells_spec (hE : EnvOK P E) (h : Mod P w0 conc st a w) : {cs : List CellT} → {xs : List AVal} → {vs : List Value} → {S : Sc} → (decCells E cs xs).run st = some S → All2 (VRel P w conc (okOf conc)) xs vs →
    ∃ ys, (∀ r, mkCells cs (S.ds ++ r) = some (ys, r)) ∧ ∀ F conc', Conv w conc S F conc' → All2 (VRel P w conc' (okOf conc')) ys vs
  | [], [], vs, S, hr, hv => by
    cases hr
    cases vs with
    | nil => exact ⟨[], fun r => rfl, fun _ _ _ => trivial⟩
    | cons _ _ => exact hv.elim
  | [], _ :: _, vs, S, hr, hv => by cases hr
  | _ :: _, [], vs, S, hr, hv => by cases hr
  | c :: cs, x :: xs, [], S, hr, hv => hv.elim
  | c :: cs, x :: xs, v :: vs, S, hr, hv => by
    rw [decCells] at hr
    obtain ⟨s1, h1, h2⟩ := RM.bind_some hr
    obtain ⟨s2, h3, h4⟩ := RM.bind_some h2
    cases h4
    obtain ⟨y, e1, e2⟩ := decCell_spec hE h h1 hv.1
    obtain ⟨ys, f1, f2⟩ := decCells_spec hE h h3 hv.2
    refine ⟨y :: ys, fun r => ?_, fun F conc' hc => ⟨e2 F conc' hc.left, f2 F conc' hc.right⟩⟩
    simp only [mkCells, Sc.add, List.append_assoc, e1, f1]

theorem decSlot_spec (hE : EnvOK P E) (h : Mod P w0 conc st a w) {t : SlotT} {s : SVal} {v : Value} {S : Sc} (hr : (decSlot E t s).run st = some S) (hv : SRel P w conc (okOf conc) s v) :
    ∃ y, (∀ r, mkSlot t (S.ds ++ r) = some (y, r)) ∧ ∀ F conc', Conv w conc S F conc' → SRel P w conc' (okOf conc') y v := by
  unfold decSlot at hr
  split at hr
  · obtain ⟨d, h1, h2⟩ := RM.bind_some hr
    cases h2
    obtain ⟨us, e1, e2⟩ := peek_spec hE h h1 hv
    exact ⟨.v (.pure _ d.1), fun r => rfl, fun F conc' hc => ⟨us, e1, (e2 F hc.ws).2.re hc.sub⟩⟩
  · obtain ⟨y, e1, e2⟩ := decCell_spec hE h hr hv
    exact ⟨.v y, fun r => by simp only [mkSlot, e1], e2⟩
  · obtain ⟨vs, e0, e1, e2⟩ := hv
    obtain ⟨ys, f1, f2⟩ := decCells_spec hE h hr e2
    exact ⟨.comp ys, fun r => by simp only [mkSlot, f1], fun F conc' hc => ⟨vs, e0, e1, f2 F conc' hc⟩⟩
  · obtain ⟨g1, g2⟩ := cond_some hr
    obtain ⟨vs, e0, e1⟩ := hv
    obtain ⟨ys, f1, f2⟩ := decCells_spec hE h g2 (explode_rel _ e1)
    exact ⟨.comp ys, fun r => by simp only [mkSlot, f1], fun F conc' hc => ⟨vs, by rw [e0, Ty.val, if_pos g1], e1.ones, f2 F conc' hc⟩⟩
  · cases hr

theorem decSlots_spec (hE : EnvOK P E) (h : Mod P w0 conc st a w) : {l : List (Nat × SlotT)} → {S : Sc} → (decSlots E l).run st = some S →
    ∃ ys, (∀ r, mkSlots l (S.ds ++ r) = some (ys, r)) ∧ ∀ F conc', Conv w conc S F conc' → ∀ d sl, (d, sl) ∈ ys → sl.L = [] ∧ sl.g = true ∧ ∃ v, a.tmps[d]? = some v ∧ SRel P w conc' (okOf conc') sl.s v
  | [], S, hr => by
    cases hr
    exact ⟨[], fun r => rfl, fun _ _ _ d sl hm => by cases hm⟩
  | (k, t) :: l, S, hr => by
    simp only [decSlots, RM.run] at hr
    split at hr
    · rename_i g s hg
      obtain ⟨s1, h1, h2⟩ := RM.bind_some hr
      obtain ⟨s2, h3, h4⟩ := RM.bind_some h2
      cases h4
      obtain ⟨v, hv1, hv2⟩ := h.slots k _ hg
      have hv3 := (hv2.yes (labs_nil _)).2
      obtain ⟨y, e1, e2⟩ := decSlot_spec hE h h1 hv3
      obtain ⟨ys, f1, f2⟩ := decSlots_spec hE h h3
      refine ⟨(k, ⟨[], true, y⟩) :: ys, fun r => ?_, fun F conc' hc d sl hm => ?_⟩
      · simp only [mkSlots, Sc.add, List.append_assoc, e1, f1]
      · rcases List.mem_cons.1 hm with e | hm
        · cases e
          exact ⟨rfl, rfl, v, hv1, e2 F conc' hc.left⟩
        · exact f2 F conc' hc.right d sl hm
    · cases hr

theorem Map.get_mem {α : Type} {m : List (Nat × α)} {k : Nat} {v : α} (h : Map.get m k = some v) : (k, v) ∈ m := by
  induction m with
  | nil => cases h
  | cons p r ih =>
    obtain ⟨q, u⟩ := p
    simp only [Map.get, nbeq] at h
    by_cases hq : q = k
    · subst hq
      simp at h
      subst h
      exact List.mem_cons_self
    · simp [hq] at h
      exact List.mem_cons_of_mem _ (ih h)

theorem Map.get_none {α : Type} {m : List (Nat × α)} {k : Nat} (h : Map.get m k = none) : ∀ v, (k, v) ∉ m := by
  induction m with
  | nil => intro v hv; cases hv
  | cons p r ih =>
    obtain ⟨q, u⟩ := p
    simp only [Map.get, nbeq] at h
    by_cases hq : q = k
    · simp [hq] at h
    · simp [hq] at h
      intro v hv
      rcases List.mem_cons.1 hv with e | hv
      · cases e; exact hq rfl
      · exact ih h v hv

theorem decObj_spec (hE : EnvOK P E) (h : Mod P w0 conc st a w) {srcs : List (Nat × Option Nat)} {i : Nat} {t : ObjT} {S : Sc} (hr : (decObj E srcs i t).run st = some S) :
    ∃ o, (∀ r, mkObj t (S.ds ++ r) = some (o, r)) ∧ ∀ F conc', Conv w conc S F conc' → Good conc srcs conc' → ∃ c, conc' i = some (0, c, true) ∧ ORel P w conc' (okOf conc') c true o := by
  unfold decObj at hr
  split at hr
  · rename_i e
    split at hr
    · rename_i hs
      cases hr
      refine ⟨.buf e [], fun r => rfl, fun F conc' hc hg => ⟨_, hg i none (Map.get_mem hs), rfl, .inl ⟨rfl, rfl⟩⟩⟩
    · rename_i id hs
      simp only [RM.run] at hr
      split at hr
      · rename_i cv e' l ho
        obtain ⟨g1, g2⟩ := cond_some hr
        cases g2
        refine ⟨.buf e' l, fun r => rfl, fun F conc' hc hg => ?_⟩
        obtain ⟨cv2, c2, p1, p2⟩ := hg i (some id) (Map.get_mem hs)
        obtain ⟨c, ow, k1, k2⟩ := obj_rel h ho
        rw [k1] at p1; cases p1
        refine ⟨_, p2, rfl, ?_⟩
        obtain ⟨_, k2 | ⟨b, off, cap, cs, T, q1, q2, q3, q4, q5, q6⟩⟩ := k2
        · exact .inl k2
        · exact .inr ⟨b, off, cap, cs, T, q1, q2, q3, q4, q5, fun j x hj => (q6 j x hj).re (subT hc)⟩
      · rename_i cv ta tu te l n j v ho
        obtain ⟨g1, g2⟩ := cond_some hr
        simp only [RM.run] at g2
        split at g2
        · rename_i cj u' lj hj
          obtain ⟨g3, g4⟩ := cond_some g2
          have := nbeq_true g3
          subst this
          split at g4
          · rename_i hu
            subst hu
            cases g4
            refine ⟨.buf (cellTy ta u' te) (closeL l n lj), fun r => rfl, fun F conc' hc hg => ?_⟩
            obtain ⟨cv2, c2, p1, p2⟩ := hg i (some id) (Map.get_mem hs)
            obtain ⟨c, ow, k1, k2⟩ := obj_rel h ho
            obtain ⟨cJ, owJ, m1, m2⟩ := obj_rel h hj
            rw [k1] at p1; cases p1
            obtain ⟨_, b, off, cap, cs, T, q1, q2, q3, q4, q5, q6⟩ := cbuf_elems h k1 k2 m1 m2 (F := F) (hc.ws j (by simp [ids]))
            have hlen : List.length (α := (cellTy ta u' te).den) (closeL l n lj) = l.length := closeL_len l n lj
            exact ⟨_, p2, rfl, .inr ⟨b, off, cap, cs, T, by rw [q1, hlen], q2, by rw [hlen]; exact q3, q4, q5, fun k x hk => (q6 k x hk).re hc.sub⟩⟩
          · cases g4
        · cases g2
      · cases hr
    · cases hr
  · rename_i t l
    split at hr
    · rename_i id hs
      simp only [RM.run] at hr
      split at hr
      · rename_i cv u cells ho
        obtain ⟨g1, g2⟩ := cond_some hr
        have hu : u = t := by simpa using g1
        subst hu
        obtain ⟨c, ow, k1, k2⟩ := obj_rel h ho
        obtain ⟨rfl, b, cs, T, q1, q2, q3, q4, q5⟩ := k2
        obtain ⟨ys, f1, f2⟩ := decCells_spec hE h g2 q5
        refine ⟨.box u ys, fun r => by simp only [mkObj, f1], fun F conc' hc hg => ?_⟩
        obtain ⟨cv2, c2, p1, p2⟩ := hg i (some id) (Map.get_mem hs)
        rw [k1] at p1; cases p1
        have hys := f2 F conc' hc
        exact ⟨_, p2, rfl, b, cs, T, q1, q2, by rw [hys.length, ← q5.length]; exact q3, q4, hys⟩
      · cases hr
    · cases hr
  · rename_i k u
    split at hr
    · rename_i id hs
      simp only [RM.run] at hr
      split at hr
      · rename_i cv k' u' l ho
        obtain ⟨g1, g2⟩ := cond_some hr
        cases g2
        refine ⟨.map k' u' l, fun r => rfl, fun F conc' hc hg => ?_⟩
        obtain ⟨cv2, c2, p1, p2⟩ := hg i (some id) (Map.get_mem hs)
        obtain ⟨c, ow, k1, k2⟩ := obj_rel h ho
        rw [k1] at p1; cases p1
        refine ⟨_, p2, rfl, ?_⟩
        obtain ⟨_, b, es, clock, q1, q2, q3, q4⟩ := k2
        refine ⟨b, es, clock, q1, q2, q3, fun j x e hj he => ?_⟩
        obtain ⟨⟨ks, r1, r2⟩, us, r3, r4⟩ := q4 j x e hj he
        exact ⟨⟨ks, r1, r2.re (subT hc)⟩, us, r3, r4.re (subT hc)⟩
      · cases hr
    · cases hr
  · rename_i e
    split at hr
    · rename_i id hs
      simp only [RM.run] at hr
      split at hr
      · rename_i cv e' l ho
        obtain ⟨g1, g2⟩ := cond_some hr
        cases g2
        refine ⟨.nbuf e' l, fun r => rfl, fun F conc' hc hg => ?_⟩
        obtain ⟨cv2, c2, p1, p2⟩ := hg i (some id) (Map.get_mem hs)
        obtain ⟨c, ow, k1, k2⟩ := obj_rel h ho
        rw [k1] at p1; cases p1
        obtain ⟨_, v, vs, q1, q2, q3, q4, q5⟩ := k2
        refine ⟨_, p2, rfl, v, vs, q1, q2, q3, fun j u li hj hl => ?_, q5⟩
        exact (q4 j u li hj hl).mono ⟨Nat.le_refl _, fun _ _ _ => rfl⟩ (subT hc) (fun _ _ => rfl)
      · cases hr
    · cases hr
  · rename_i ta tu te s j
    split at hr
    · rename_i id hs
      simp only [RM.run] at hr
      split at hr
      · rename_i cv ta' tu' te' l n jj v ho
        obtain ⟨g1, g2⟩ := cond_some hr
        have g1 := of_decide_eq_true g1
        obtain ⟨rfl, rfl, rfl⟩ := g1
        simp only [RM.run] at g2
        split at g2
        · rename_i cj u' lj hj
          obtain ⟨g3, g4⟩ := cond_some g2
          have := nbeq_true g3
          subst this
          cases g4
          refine ⟨.cbuf ta' tu' te' l n j 0, fun r => rfl, fun F conc' hc hg => ?_⟩
          obtain ⟨cv2, c2, p1, p2⟩ := hg i (some id) (Map.get_mem hs)
          obtain ⟨c, ow, k1, k2⟩ := obj_rel h ho
          obtain ⟨cJ, owJ, m1, m2⟩ := obj_rel h hj
          obtain ⟨rfl, m2⟩ := m2
          obtain ⟨cv3, c3, n1, n2⟩ := hc.good j (some jj) (by simp)
          rw [m1] at n1; cases n1
          rw [k1] at p1; cases p1
          obtain ⟨_, b, off, cap, cs, T, q1, q2, q3, q4, q5, q6⟩ := k2
          refine ⟨_, p2, rfl, b, off, cap, cs, T, q1, q2, q3, q4, q5, fun k x hk => ?_⟩
          obtain ⟨r1, r2, y, r3, r4, r5⟩ := q6 k x hk
          refine ⟨r1.re (subT hc), r2.re (subT hc), y, r3, fun hn => (r4 hn).re (subT hc), fun hn => ?_⟩
          obtain ⟨cv', c', ow', m1', m2', mo, m3⟩ := r5 hn
          rw [m1] at m1'; cases m1'
          exact ⟨0, _, true, n2, Nat.le_refl _, mo, fun _ => m3 rfl⟩
        · cases g2
      · rename_i cv e' l ho
        split at hr
        · rename_i l' hl
          obtain ⟨he, hl⟩ := castTy_some hl
          cases he
          subst hl
          obtain ⟨n, g1, g2⟩ := RM.bind_some hr
          obtain ⟨z, g3, g4⟩ := RM.opt_some g2
          cases g4
          refine ⟨.cbuf ta tu te l' n j 0, fun r => rfl, fun F conc' hc hg => ?_⟩
          obtain ⟨cv2, c2, p1, p2⟩ := hg i (some id) (Map.get_mem hs)
          obtain ⟨c, ow, k1, k2⟩ := obj_rel h ho
          have n2 : conc' j = some (0, .slice none 0 0, true) := hc.good j none (by simp)
          rw [k1] at p1; cases p1
          obtain ⟨x1, x3, hx, hn0⟩ : ∃ (x1 : ta.den) (x3 : te.den), l'[n.toNat]? = some (x1, none, x3) ∧ 0 ≤ n := by
            unfold nilAt geti at g3
            split at g3
            · rename_i x1 x3 hx
              split at hx
              · rename_i h0
                exact ⟨x1, x3, hx, h0⟩
              · cases hx
            · cases g3
          obtain ⟨_, ⟨q1, q2⟩ | ⟨b, off, cap, cs, T, q1, q2, q3, q4, q5, q6⟩⟩ := k2
          · rw [q2] at hx
            simp at hx
          · have hS : (cellTy ta tu te).sz = ta.sz + (1 + te.sz) := rfl
            refine ⟨_, p2, rfl, b, off, cap, cs, T, q1, q2, q3, q4, q5, fun k x hk => ?_⟩
            have hr := q6 k x hk
            have hkl := (List.getElem?_eq_some_iff.1 hk).1
            have hmul : (k + 1) * (cellTy ta tu te).sz ≤ cap * (cellTy ta tu te).sz := Nat.mul_le_mul_right _ (by omega)
            rw [Nat.succ_mul] at hmul
            have hlt : off + k * (cellTy ta tu te).sz + ta.sz < cs.size := by omega
            obtain ⟨r1, r2, r3⟩ : Rep P ta w (okOf conc) ((chunk cs.toList (off + k * (cellTy ta tu te).sz) (cellTy ta tu te).sz).take ta.sz) x.1 ∧ Rep P (.sliceN tu) w (okOf conc) (((chunk cs.toList (off + k * (cellTy ta tu te).sz) (cellTy ta tu te).sz).drop ta.sz).take 1) x.2.1 ∧ Rep P te w (okOf conc) (((chunk cs.toList (off + k * (cellTy ta tu te).sz) (cellTy ta tu te).sz).drop ta.sz).drop 1) x.2.2 := hr
            have c1 : (chunk cs.toList (off + k * (cellTy ta tu te).sz) (cellTy ta tu te).sz).take ta.sz = chunk cs.toList (off + k * (cellTy ta tu te).sz) ta.sz := by
              unfold chunk
              rw [List.take_take, Nat.min_eq_left (by omega)]
            have c2 : (chunk cs.toList (off + k * (cellTy ta tu te).sz) (cellTy ta tu te).sz).drop ta.sz = cs[off + k * (cellTy ta tu te).sz + ta.sz] :: chunk cs.toList (off + k * (cellTy ta tu te).sz + ta.sz + 1) te.sz := by
              unfold chunk
              rw [List.drop_take, List.drop_drop]
              rw [List.drop_eq_getElem_cons (by rw [Array.length_toList]; exact hlt)]
              rw [show (cellTy ta tu te).sz - ta.sz = te.sz + 1 from by omega, List.take_succ_cons, Array.getElem_toList]
            rw [c1] at r1
            rw [c2] at r2 r3
            refine ⟨r1.re (subT hc), Rep.re (show Rep P te w (okOf conc) (chunk cs.toList (off + k * (cellTy ta tu te).sz + ta.sz + 1) te.sz) x.2.2 from r3) (subT hc), _, Array.getElem?_eq_getElem hlt, fun hn => Rep.re (show Rep P (.sliceN tu) w (okOf conc) [_] x.2.1 from r2) (subT hc), fun hn => ?_⟩
            have hkn : k = n.toNat := by omega
            subst hkn
            rw [hx] at hk
            cases hk
            have := r2.1 rfl
            simp only [List.take_succ_cons, List.take_zero, List.cons.injEq, and_true] at this
            rw [this]
            exact ⟨0, _, true, n2, Nat.le_refl _, rfl, fun _ => rfl⟩
        · cases hr
      · cases hr
    · cases hr

theorem decObjs_spec (hE : EnvOK P E) (h : Mod P w0 conc st a w) : {l : List (Nat × ObjT)} → {srcs : List (Nat × Option Nat)} → {S : Sc} → (decObjs E srcs l).run st = some S →
    ∃ ys, (∀ r, mkObjs l (S.ds ++ r) = some (ys, r)) ∧ (∀ F conc', Conv w conc S F conc' → Good conc srcs conc' → ∀ i vo, (i, vo) ∈ ys → vo.1 = 0 ∧ ∃ c, conc' i = some (0, c, true) ∧ ORel P w conc' (okOf conc') c true vo.2) ∧
      ∀ i t, (i, t) ∈ l → ∃ vo, (i, vo) ∈ ys
  | [], srcs, S, hr => by
    cases hr
    exact ⟨[], fun r => rfl, (fun _ _ _ _ d sl hm => (by cases hm)), (fun i t hm => (by cases hm))⟩
  | (k, t) :: l, srcs, S, hr => by
    simp only [decObjs] at hr
    obtain ⟨s1, h1, h2⟩ := RM.bind_some hr
    obtain ⟨s2, h3, h4⟩ := RM.bind_some h2
    cases h4
    obtain ⟨o, e1, e2⟩ := decObj_spec hE h h1
    obtain ⟨ys, f1, f2, f3⟩ := decObjs_spec hE h h3
    refine ⟨(k, (0, o)) :: ys, fun r => ?_, fun F conc' hc hg i vo hm => ?_, fun i t' hm => ?_⟩
    · simp only [mkObjs, Sc.add, List.append_assoc, e1, f1]
    · rcases List.mem_cons.1 hm with e | hm
      · cases e
        exact ⟨rfl, e2 F conc' hc.left hg⟩
      · refine f2 F conc' hc.right (fun j s hj => ?_) i vo hm
        rcases List.mem_append.1 hj with hj | hj
        · exact hg j s hj
        · exact hc.left.good j s hj
    · rcases List.mem_cons.1 hm with e | hm
      · cases e
        exact ⟨(0, o), List.mem_cons_self⟩
      · obtain ⟨vo, hvo⟩ := f3 i t' hm
        exact ⟨vo, List.mem_cons_of_mem _ hvo⟩

def Own (conc : Conc) (S : Sc) : Prop := ∀ i id, (i, some id) ∈ S.srcs → ∃ cv c, conc id = some (cv, c, true)

theorem Own.add {x y : Sc} (h : Own conc x) (h' : Own conc y) : Own conc (x.add y) := by
  intro i id hm
  rcases List.mem_append.1 hm with hm | hm
  · exact h i id hm
  · exact h' i id hm

theorem Own.nil {ds : List Dyn} {ws : W} : Own conc ⟨ds, [], ws⟩ := fun _ _ h => (by cases h)

theorem decCell_own (h : Mod P w0 conc st a w) {c : CellT} {x : AVal} {S : Sc} (hr : (decCell E c x).run st = some S) : Own conc S := by
  unfold decCell at hr
  split at hr
  · obtain ⟨d, h1, h2⟩ := RM.bind_some hr
    cases h2
    exact Own.nil
  · obtain ⟨d, h1, h2⟩ := RM.bind_some hr
    cases h2
    exact Own.nil
  · simp only [RM.run] at hr
    split at hr
    · rename_i cv e l ho
      obtain ⟨g1, g2⟩ := cond_some hr
      cases g2
      obtain ⟨c, ow, k1, k2⟩ := obj_rel h ho
      intro i id hm
      simp only [List.mem_singleton, Prod.mk.injEq, Option.some.injEq] at hm
      obtain ⟨_, rfl⟩ := hm
      exact ⟨cv, c, by rw [k1, k2.1]⟩
    · rename_i cv k u l ho
      obtain ⟨g1, g2⟩ := cond_some hr
      cases g2
      obtain ⟨c, ow, k1, k2⟩ := obj_rel h ho
      intro i id hm
      simp only [List.mem_singleton, Prod.mk.injEq, Option.some.injEq] at hm
      obtain ⟨_, rfl⟩ := hm
      exact ⟨cv, c, by rw [k1, k2.1]⟩
    · rename_i cv ta tu te l n j v ho
      obtain ⟨g1, g2⟩ := cond_some hr
      cases g2
      obtain ⟨c, ow, k1, k2⟩ := obj_rel h ho
      intro i id hm
      simp only [List.mem_singleton, Prod.mk.injEq, Option.some.injEq] at hm
      obtain ⟨_, rfl⟩ := hm
      exact ⟨cv, c, by rw [k1, k2.1]⟩
    · cases hr
  · cases hr
    intro i id hm
    simp at hm
  · simp only [RM.run] at hr
    split at hr
    · rename_i cv e l ho
      obtain ⟨g1, g2⟩ := cond_some hr
      cases g2
      obtain ⟨c, ow, k1, k2⟩ := obj_rel h ho
      intro i id hm
      simp only [List.mem_singleton, Prod.mk.injEq, Option.some.injEq] at hm
      obtain ⟨_, rfl⟩ := hm
      exact ⟨cv, c, by rw [k1, k2.1]⟩
    · cases hr
  · simp only [RM.run] at hr
    split at hr
    · rename_i cv e l ho
      obtain ⟨g1, g2⟩ := cond_some hr
      cases g2
      obtain ⟨c, ow, k1, k2⟩ := obj_rel h ho
      intro i id hm
      simp only [List.mem_singleton, Prod.mk.injEq, Option.some.injEq] at hm
      obtain ⟨_, rfl⟩ := hm
      exact ⟨cv, c, by rw [k1, k2.1]⟩
    · cases hr
  · simp only [RM.run] at hr
    split at hr
    · rename_i cv u cells ho
      obtain ⟨g1, g2⟩ := cond_some hr
      split at g2
      · cases g2
        obtain ⟨c, ow, k1, k2⟩ := obj_rel h ho
        intro i id hm
        simp only [List.mem_singleton, Prod.mk.injEq, Option.some.injEq] at hm
        obtain ⟨_, rfl⟩ := hm
        exact ⟨cv, c, by rw [k1, k2.1]⟩
      · cases g2
    · cases hr
  · cases hr; exact Own.nil
  · obtain ⟨g1, g2⟩ := cond_some hr
    cases g2; exact Own.nil
  · cases hr; exact Own.nil
  · cases hr

theorem decCells_own (h : Mod P w0 conc st a w) : {cs : List CellT} → {xs : List AVal} → {S : Sc} → (decCells E cs xs).run st = some S → Own conc S
  | [], [], S, hr => by cases hr; exact Own.nil
  | [], _ :: _, S, hr => by cases hr
  | _ :: _, [], S, hr => by cases hr
  | c :: cs, x :: xs, S, hr => by
    rw [decCells] at hr
    obtain ⟨s1, h1, h2⟩ := RM.bind_some hr
    obtain ⟨s2, h3, h4⟩ := RM.bind_some h2
    cases h4
    exact (decCell_own h h1).add (decCells_own h h3)

theorem decSlot_own (h : Mod P w0 conc st a w) {t : SlotT} {s : SVal} {S : Sc} (hr : (decSlot E t s).run st = some S) : Own conc S := by
  unfold decSlot at hr
  split at hr
  · obtain ⟨d, h1, h2⟩ := RM.bind_some hr
    cases h2; exact Own.nil
  · exact decCell_own h hr
  · exact decCells_own h hr
  · obtain ⟨g1, g2⟩ := cond_some hr
    exact decCells_own h g2
  · cases hr

theorem decSlots_own (h : Mod P w0 conc st a w) : {l : List (Nat × SlotT)} → {S : Sc} → (decSlots E l).run st = some S → Own conc S
  | [], S, hr => by cases hr; exact Own.nil
  | (k, t) :: l, S, hr => by
    simp only [decSlots, RM.run] at hr
    split at hr
    · obtain ⟨s1, h1, h2⟩ := RM.bind_some hr
      obtain ⟨s2, h3, h4⟩ := RM.bind_some h2
      cases h4
      exact (decSlot_own h h1).add (decSlots_own h h3)
    · cases hr

theorem decObj_own (h : Mod P w0 conc st a w) {srcs : List (Nat × Option Nat)} {i : Nat} {t : ObjT} {S : Sc} (hr : (decObj E srcs i t).run st = some S) : Own conc S := by
  unfold decObj at hr
  split at hr
  · split at hr
    · cases hr; exact Own.nil
    · simp only [RM.run] at hr
      split at hr
      · obtain ⟨g1, g2⟩ := cond_some hr
        cases g2; exact Own.nil
      · obtain ⟨g1, g2⟩ := cond_some hr
        simp only [RM.run] at g2
        split at g2
        · obtain ⟨g3, g4⟩ := cond_some g2
          split at g4
          · cases g4; exact Own.nil
          · cases g4
        · cases g2
      · cases hr
    · cases hr
  · split at hr
    · simp only [RM.run] at hr
      split at hr
      · obtain ⟨g1, g2⟩ := cond_some hr
        exact decCells_own h g2
      · cases hr
    · cases hr
  · split at hr
    · simp only [RM.run] at hr
      split at hr
      · obtain ⟨g1, g2⟩ := cond_some hr
        cases g2; exact Own.nil
      · cases hr
    · cases hr
  · split at hr
    · simp only [RM.run] at hr
      split at hr
      · obtain ⟨g1, g2⟩ := cond_some hr
        cases g2; exact Own.nil
      · cases hr
    · cases hr
  · split at hr
    · simp only [RM.run] at hr
      split at hr
      · obtain ⟨g1, g2⟩ := cond_some hr
        simp only [RM.run] at g2
        split at g2
        · rename_i cj u' lj hj
          obtain ⟨g3, g4⟩ := cond_some g2
          cases g4
          obtain ⟨c, ow, k1, k2⟩ := obj_rel h hj
          intro i id hm
          simp only [List.mem_singleton, Prod.mk.injEq, Option.some.injEq] at hm
          obtain ⟨_, rfl⟩ := hm
          exact ⟨cj, c, by rw [k1, k2.1]⟩
        · cases g2
      · split at hr
        · obtain ⟨n, g1, g2⟩ := RM.bind_some hr
          obtain ⟨z, g3, g4⟩ := RM.opt_some g2
          cases g4
          intro i id hm
          simp at hm
        · cases hr
      · cases hr
    · cases hr

theorem decObjs_own (h : Mod P w0 conc st a w) : {l : List (Nat × ObjT)} → {srcs : List (Nat × Option Nat)} → {S : Sc} → (decObjs E srcs l).run st = some S → Own conc S
  | [], srcs, S, hr => by cases hr; exact Own.nil
  | (k, t) :: l, srcs, S, hr => by
    simp only [decObjs] at hr
    obtain ⟨s1, h1, h2⟩ := RM.bind_some hr
    obtain ⟨s2, h3, h4⟩ := RM.bind_some h2
    cases h4
    exact (decObj_own h h1).add (decObjs_own h h3)

/-- A state of the make is the one that its data make. -/
theorem dec_mod (hE : EnvOK P E) (h : Mod P w0 conc st a w) {T : Templ} {d : denU T.tys} (hd : dec E T st = some d) : ∃ conc', Mod P w0 conc' (mk T d) a w ∧
    ∀ i v c b, conc' i = some (v, c, true) → hasB c b → ∃ i' v' c', conc i' = some (v', c', true) ∧ hasB c' b := by
  unfold dec at hd
  rw [RM.runK_eq] at hd
  cases hS : (decAll E T).run st with
  | none => rw [hS] at hd; cases hd
  | some S =>
    rw [hS] at hd
    simp only [Option.bind_some] at hd
    cases hok : (okSc T S && Nat.beq st.N T.N && eqN st.fixed T.fx) with
    | false => rw [hok] at hd; cases hd
    | true =>
      rw [hok] at hd
      simp only [cond_true] at hd
      have hds := toU_some _ hd
      simp only [Bool.and_eq_true] at hok
      obtain ⟨⟨hok, hN⟩, hfx⟩ := hok
      have hN := nbeq_true hN
      have hfx := eqN_eq hfx
      unfold okSc at hok
      simp only [Bool.and_eq_true] at hok
      obtain ⟨⟨hs1, hs2⟩, hs3⟩ := hok
      obtain ⟨x, h1, h2⟩ := RM.bind_some hS
      obtain ⟨y, h3, h4⟩ := RM.bind_some h2
      cases h4
      obtain ⟨sl, e1, e2⟩ := decSlots_spec hE h h1
      obtain ⟨ob, f1, f2, f3⟩ := decObjs_spec hE h h3
      have hmk : mk T d = ⟨T.N, [], sl, ob, T.fx⟩ := by
        unfold mk
        rw [hds]
        simp only [Sc.add]
        rw [e1 y.ds]
        dsimp only
        have := f1 []
        rw [List.append_nil] at this
        rw [this]
      rw [hmk]
      let F : List Nat := ids (x.add y).ws
      let conc' : Conc := ⟨fun i => match Map.get (x.add y).srcs i with
        | some none => some (0, .slice none 0 0, true)
        | some (some id) => match conc id with
          | some (_, c, ow) => some (0, c, ow)
          | none => none
        | none => none, conc.B, conc.yl⟩
      have src_own : ∀ i id, (i, some id) ∈ (x.add y).srcs → id ∉ F := by
        intro i id hm hF
        have := List.all_eq_true.1 hs3 _ hm
        simp only [Bool.not_eq_true', List.any_eq_false] at this
        obtain ⟨q, hq, hqe⟩ := List.mem_map.1 hF
        exact this q hq (by simp [hqe])
      have uniq : ∀ i s, (i, s) ∈ (x.add y).srcs → Map.get (x.add y).srcs i = some s := by
        intro i s hm
        cases hg : Map.get (x.add y).srcs i with
        | none => exact absurd hm (Map.get_none hg s)
        | some s' =>
          have := List.all_eq_true.1 (List.all_eq_true.1 hs1 _ hm) _ (Map.get_mem hg)
          simp only [srcOK, nbeq, decide_true, cond_true] at this
          cases s <;> cases s' <;> simp at this ⊢
          exact this.symm
      have src_inv : ∀ i c, conc' i = some (0, c, true) → c = .slice none 0 0 ∨ ∃ id cv, (i, some id) ∈ (x.add y).srcs ∧ conc id = some (cv, c, true) := by
        intro i c hc
        simp only [conc'] at hc
        split at hc
        · cases hc; exact .inl rfl
        · rename_i id hg
          split at hc
          · rename_i cv c' ow hcc
            cases hc
            exact .inr ⟨id, cv, Map.get_mem hg, hcc⟩
          · cases hc
        · cases hc
      have ver0 : ∀ i v c ow, conc' i = some (v, c, ow) → v = 0 := by
        intro i v c ow hc
        simp only [conc'] at hc
        split at hc
        · cases hc; rfl
        · split at hc
          · cases hc; rfl
          · cases hc
        · cases hc
      have hsub : Sub w (okOf (frzL conc F)) (okOf conc') := by
        intro b hb _
        refine ⟨hb.1, fun i v c hc hbl => ?_⟩
        have := ver0 i v c true hc
        subst this
        rcases src_inv i c hc with rfl | ⟨id, cv, hm, hcc⟩
        · cases hbl
        · refine hb.2 id cv c ?_ hbl
          simp [frzL, hcc, src_own i id hm]
      have hown : Own conc (x.add y) := (decSlots_own h h1).add (decObjs_own h h3)
      have hgood : Good conc (x.add y).srcs conc' := by
        intro i s hm
        have hg := uniq i s hm
        cases s with
        | none => simp only [conc', hg]
        | some id =>
          obtain ⟨cv, c, hc⟩ := hown i id hm
          exact ⟨cv, c, hc, by simp only [conc', hg, hc]⟩
      have hconv : Conv w conc (x.add y) F conc' := ⟨fun id hi => hi, hgood, hsub, rfl⟩
      have hgx : Good conc x.srcs conc' := fun i s hi => hgood i s (by simp only [Sc.add]; exact List.mem_append_left _ hi)
      refine ⟨conc', { defers := h.defers, size := by rw [h.size, hN], marks := ?_, slots := ?_, heap := ?_, dead := ?_, inj := ?_, base := ?_, keeps := h.keeps, cB := h.cB, cY := h.cY, okS := h.okS, fixed := fun s hs => h.fixed s (by rw [hfx]; exact hs) }, fun i v c b hi hb => ?_⟩
      · intro d' s' hd' p hp
        rw [(e2 F conc' hconv.left d' s' (Map.get_mem hd')).1] at hp
        cases hp
      · intro d' s' hd'
        obtain ⟨g1, g2, v, g3, g4⟩ := e2 F conc' hconv.left d' s' (Map.get_mem hd')
        exact ⟨v, g3, ⟨fun _ => ⟨g2, g4⟩, fun hn => absurd (by rw [g1]; exact labs_nil _) hn⟩⟩
      · intro i v o ho
        obtain ⟨g1, c, g2, g3⟩ := f2 F conc' hconv.right hgx i (v, o) (Map.get_mem ho)
        dsimp only at g1 g3
        subst g1
        exact ⟨c, true, g2, g3⟩
      · intro i hi
        cases hg : Map.get (x.add y).srcs i with
        | none => simp only [conc', hg]
        | some s =>
          have := List.all_eq_true.1 hs2 _ (Map.get_mem hg)
          dsimp only at this
          cases ht : Map.get T.objs i with
          | none => rw [ht] at this; cases this
          | some t =>
            obtain ⟨vo, hvo⟩ := f3 i t (Map.get_mem ht)
            exact absurd hvo (Map.get_none hi vo)
      · intro i j vi vj c c' b hi hj hb hb'
        have e := ver0 _ _ _ _ hi
        have e' := ver0 _ _ _ _ hj
        subst e
        subst e'
        rcases src_inv i c hi with rfl | ⟨id, cv, hm, hcc⟩
        · cases hb
        · rcases src_inv j c' hj with rfl | ⟨id', cv', hm', hcc'⟩
          · cases hb'
          · have := h.inj id id' _ _ _ _ b hcc hcc' hb hb'
            subst this
            have := List.all_eq_true.1 (List.all_eq_true.1 hs1 _ hm) _ hm'
            simp only [srcOK, nbeq, decide_true, Bool.not_true] at this
            by_cases hij : i = j
            · exact hij
            · simp [hij] at this
      · intro i v c b hi hb
        have e := ver0 _ _ _ _ hi
        subst e
        rcases src_inv i c hi with rfl | ⟨id, cv, hm, hcc⟩
        · cases hb
        · exact h.base id cv c b hcc hb
      · have e := ver0 _ _ _ _ hi
        subst e
        rcases src_inv i c hi with rfl | ⟨id, cv, hm, hcc⟩
        · cases hb
        · exact ⟨id, cv, c, hcc, hb⟩

theorem dec_models (hE : EnvOK P E) (h : Models P w0 st a w) {T : Templ} {d : denU T.tys} (hd : dec E T st = some d) : Models P w0 (mk T d) a w := by
  obtain ⟨conc, h⟩ := h
  obtain ⟨conc', h', _⟩ := dec_mod hE h hd
  exact ⟨conc', h'⟩

end Go.Abs

set_option linter.unusedSimpArgs false
set_option linter.unusedVariables false
namespace Go.Abs
open Go

/-- How a loop is left. -/
inductive Way where
  | exit (id : Nat)
  | ret

def Way.is : Way → Exit → Bool
  | .exit i, .exit j => Nat.beq i j
  | .ret, .ret => true
  | _, _ => false

def Way.exit' : Way → Exit
  | .exit i => .exit i
  | .ret => .ret

/-- What is done next, for each way out. -/
@[reducible] def conts (R : Type) : List (Way × Templ) → Type
  | [] => Unit
  | x :: r => (denU x.2.tys → Option R) × conts R r

def kOf {R : Type} (K : Exit → ASt → Option R) : (X : List (Way × Templ)) → conts R X
  | [] => ()
  | x :: r => (fun d => K x.1.exit' (mk x.2 d), kOf K r)

def leave {R : Type} (E : Env) : (X : List (Way × Templ)) → conts R X → Exit → ASt → Option R
  | [], _, _, _ => none
  | x :: r, k, e, st => bif x.1.is e then (dec E x.2 st).bind k.1 else leave E r k.2 e st

/-- The rounds of a loop. -/
def loopG {D Ks R : Type} (body : D → (D → Option R) → Ks → Option R) : Nat → D → Ks → Option R
  | 0, _, _ => none
  | n + 1, d, k => body d (fun d => loopG body n d k) k

/-- The rounds of a loop over what a function yields. -/
def rangeG {D α Ks R : Type} (body : D → α → (D → Option R) → Ks → Option R) (k : Ks) (done : D → Option R) : List α → D → Option R
  | [], d => done d
  | x :: r, d => body d x (fun d => rangeG body k done r d) k

def turnR {R : Type} (E : Env) (T : Templ) (X : List (Way × Templ)) (again : denU T.tys → Option R) (k : conts R X) : Exit → ASt → Option R
  | .normal, st => (dec E T st).bind again
  | e, st => leave E X k e st

/-- The evaluator of a loop. -/
def loopO {R : Type} (n : Nat) (E : Env) (T : Templ) (X : List (Way × Templ)) (body : denU T.tys → (denU T.tys → Option R) → conts R X → Option R) : Ev R := fun st K =>
  (dec E T st).bind fun d => loopG body n d (kOf K X)

/-! Starts that move. -/
structure Link (s s' : Start) : Prop where
  os : s'.w.os = s.w.os
  tape : s'.w.tape = s.w.tape
  output : s'.w.output = s.w.output
  size : s.w.heap.size ≤ s'.w.heap.size
  block : ∀ b, b < s.w.heap.size → ¬ s.M b → s'.w.heap[b]? = s.w.heap[b]?
  M : ∀ b, s'.M b → s.M b ∨ (s.w.heap.size ≤ b ∧ b < s'.w.heap.size)
  B : ∀ b, s'.B b ↔ s.B b
  yl : s'.yl = s.yl
  lo : s'.lo = s.lo
  ds : s'.ds = s.ds
  tmps : s'.tmps = s.tmps

/-- A weaker one: what was made by others may be seen later. -/
structure LinkR (s s' : Start) : Prop where
  os : s'.w.os = s.w.os
  tape : s'.w.tape = s.w.tape
  output : s'.w.output = s.w.output
  size : s.w.heap.size ≤ s'.w.heap.size
  block : ∀ b, b < s.w.heap.size → ¬ s.M b → s'.w.heap[b]? = s.w.heap[b]?
  M : ∀ b, s'.M b → s.M b ∨ s.w.heap.size ≤ b
  B1 : ∀ b, b < s.w.heap.size → s.B b → s'.B b
  B2 : ∀ b, b < s.lo → s'.B b → s.B b
  lo : s'.lo = s.lo
  tm : s'.tmps = s.tmps

theorem LinkR.trans {a b c : Start} (h : LinkR a b) (k : LinkR b c) : LinkR a c where
  os := k.os.trans h.os
  tape := k.tape.trans h.tape
  output := k.output.trans h.output
  size := Nat.le_trans h.size k.size
  block := fun i hi hm => (k.block i (Nat.lt_of_lt_of_le hi h.size) fun hm' => by
    rcases h.M i hm' with h1 | h1
    · exact hm h1
    · omega).trans (h.block i hi hm)
  M := fun i hi => by
    rcases k.M i hi with h1 | h1
    · exact h.M i h1
    · exact .inr (Nat.le_trans h.size h1)
  B1 := fun i hi hb => k.B1 i (Nat.lt_of_lt_of_le hi h.size) (h.B1 i hi hb)
  B2 := fun i hi hb => h.B2 i hi (k.B2 i (by rw [h.lo]; exact hi) hb)
  lo := k.lo.trans h.lo
  tm := k.tm.trans h.tm

theorem LinkR.refl (s : Start) : LinkR s s := ⟨rfl, rfl, rfl, Nat.le_refl _, fun _ _ _ => rfl, fun _ h => .inl h, fun _ _ h => h, fun _ _ h => h, rfl, rfl⟩

theorem Link.toR {s s' : Start} (h : Link s s') : LinkR s s' := ⟨h.os, h.tape, h.output, h.size, h.block, fun b hb => (h.M b hb).imp id fun g => g.1, fun b _ hb => (h.B b).2 hb, fun b _ hb => (h.B b).1 hb, h.lo, h.tmps⟩

theorem Link.refl (s : Start) : Link s s := ⟨rfl, rfl, rfl, Nat.le_refl _, fun _ _ _ => rfl, fun _ h => .inl h, fun _ => Iff.rfl, rfl, rfl, rfl, rfl⟩
theorem Link.trans {a b c : Start} (h : Link a b) (k : Link b c) : Link a c where
  os := k.os.trans h.os
  tape := k.tape.trans h.tape
  output := k.output.trans h.output
  size := Nat.le_trans h.size k.size
  block := fun i hi hm => (k.block i (Nat.lt_of_lt_of_le hi h.size) fun hm' => by
    rcases h.M i hm' with h1 | h1
    · exact hm h1
    · have := h1.1; omega).trans (h.block i hi hm)
  M := fun i hi => by
    rcases k.M i hi with h1 | h1
    · rcases h.M i h1 with h2 | h2
      · exact .inl h2
      · exact .inr ⟨h2.1, Nat.lt_of_lt_of_le h2.2 k.size⟩
    · exact .inr ⟨Nat.le_trans h.size h1.1, h1.2⟩
  B := fun i => (k.B i).trans (h.B i)
  yl := k.yl.trans h.yl
  lo := k.lo.trans h.lo
  ds := k.ds.trans h.ds
  tmps := k.tmps.trans h.tmps

def ownedB (conc : Conc) (b : Nat) : Prop := ∃ i v c, conc i = some (v, c, true) ∧ hasB c b

/-- The start as it is now. -/
def Start.now (w0 : Start) (conc : Conc) (a : Act) (w : World) : Start := ⟨w, w0.B, ownedB conc, a.defers, w0.tmps, w0.yl, w0.lo⟩

variable {P : Program} {E : Env} {R : Type}

theorem Mod.link {w0 : Start} {conc : Conc} {st : ASt} {a : Act} {w : World} (h : Mod P w0 conc st a w) : Link w0 (w0.now conc a w) where
  os := h.keeps.os
  tape := h.keeps.tape
  output := h.keeps.output
  size := h.keeps.size
  block := h.keeps.block
  M := fun b ⟨i, v, c, h1, h2⟩ => by
    rcases (h.base i v c b h1 h2).1 with g | g
    · exact .inr ⟨g, (h.base i v c b h1 h2).2⟩
    · exact .inl g
  B := fun _ => Iff.rfl
  yl := rfl
  lo := rfl
  ds := h.defers
  tmps := rfl

theorem Mod.rebase {w0 : Start} {conc : Conc} {st : ASt} {a : Act} {w : World} (h : Mod P w0 conc st a w) : Mod P (w0.now conc a w) conc st a w :=
  { h with
    defers := rfl
    base := fun i v c b h1 h2 => ⟨.inr ⟨i, v, c, h1, h2⟩, (h.base i v c b h1 h2).2⟩
    keeps := ⟨rfl, rfl, rfl, Nat.le_refl _, fun _ _ _ => rfl⟩
    cB := h.cB
    cY := h.cY
    okS := {
      up := fun b hb => h.okS.up b (Nat.le_trans h.keeps.size hb)
      mB := fun b ⟨i, v, c, h1, h2⟩ => h.inB h1 h2
      ds := fun d hd => by
        obtain ⟨D, e, h1, h2⟩ := h.okS.ds d (by rw [← h.defers]; exact hd)
        have hlt := (Array.getElem?_eq_some_iff.1 h1).1
        exact ⟨D, e, (h.keeps.block D hlt fun hm => h2.1 (h.okS.mB D hm)).trans h1, h2⟩
      dn := by show a.defers.Nodup; rw [h.defers]; exact h.okS.dn
      lo := Nat.le_trans h.okS.lo h.keeps.size }
    fixed := h.fixed }

/-! Yields. -/
structure Hdl (R : Type) where
  tys : List Ty
  emit : denL tys → Option R → Option R → Option R

def Hdl.no {R : Type} : Hdl R := ⟨[], fun _ _ _ => none⟩
def emitL {α : Type} (x : α) (A B : Option (List α)) : Option (List α) := A.bind fun ys => B.bind fun zs => match zs with
  | [] => some (x :: ys)
  | _ :: _ => none
def hdl1 (e : Ty) : Hdl (List e.den) := ⟨[e], fun x A B => emitL (α := e.den) x A B⟩
def hdl2 (a b : Ty) : Hdl (List (a.den × b.den)) := ⟨[a, b], fun x A B => emitL (α := a.den × b.den) x A B⟩

def yldOp (st : ASt) (o : Oper) : Option (List Operand × Nat) :=
  match o.guard, o.op, o.dst with
  | none, .call { callee := .value (.tmp t), args, .. }, some d => match Map.get st.slots t with
    | some ⟨[], _, .v .yld⟩ => some (args.toList, d)
    | _ => none
  | _, _, _ => none

def yldR (E : Env) (H : Hdl R) (args : List Operand) (d : Nat) (st : ASt) (K : ASt → Option R) : Option R :=
  bif H.tys.isEmpty then none else ((rdS [] args).bind (packArgs E H.tys)).runK st fun x =>
    match applyU st none (.slot (some d) [] true (.v (.pure .bool true)) x.2), applyU st none (.slot (some d) [] true (.v (.pure .bool false)) x.2) with
    | some s1, some s2 => H.emit x.1 (K s1) (K s2)
    | _, _ => none

def opsY (E : Env) (H : Hdl R) (ops : Array Oper) : List Oper → ASt → (ASt → Option R) → Option R
  | [], st, K => K st
  | o :: r, st, K => match yldOp st o with
    | some p => yldR E H p.1 p.2 st fun st => opsY E H ops r st K
    | none => opR E ops o st fun st => opsY E H ops r st K

def regY (E : Env) (H : Hdl R) (ops : Array Oper) (draw : Bool) (st : ASt) (K : ASt → Option R) : Option R :=
  bif draw then (bif fwd 0 ops.toList then (match preF E E.N st with
    | some st => opsRD E ops (bef ops.toList []) ops.toList [] st fun st => K (unlab st)
    | none => none) else none)
  else (bif E.N.isEmpty then opsY E H ops ops.toList st fun st => K (unlab st) else opsM E ops ops.size ops.toList st fun st => K (unlab st))

def loops : Code → Nat
  | .seq a b => loops a + loops b
  | .cond _ a b => loops a + loops b
  | .block _ c => loops c
  | .loop _ => 1
  | .rangeFunc .. => 1
  | _ => 0

def codeR (E : Env) (H : Hdl R) : Code → List (Ev R) → Ev R
  | .skip, _ => fun st K => K .normal st
  | .region _ ops draw, _ => fun st K => regY E H ops draw st (K .normal)
  | .seq a b, O => fun st K => codeR E H a (O.take (loops a)) st fun
    | .normal, st => codeR E H b (O.drop (loops a)) st K
    | e, st => K e st
  | .cond c a b, O => fun st K => condR c st (codeR E H a (O.take (loops a)) st K) (codeR E H b (O.drop (loops a)) st K)
  | .block id c, O => fun st K => codeR E H c O st fun
    | .exit i, st => bif Nat.beq i id then K .normal st else K (.exit i) st
    | e, st => K e st
  | .loop _, O => match O with
    | [f] => f
    | _ => fun _ _ => none
  | .rangeFunc .., O => match O with
    | [f] => f
    | _ => fun _ _ => none
  | .exit i, _ => fun st K => K (.exit i) st
  | .ret, _ => fun st K => K .ret st
  | _, _ => fun _ _ => none

/-- Behind a round. -/
def Start.after (s : Start) (w' : World) : Start := { s with w := w', B := fun b => (b < s.w.heap.size ∧ s.B b) ∨ w'.heap.size ≤ b }

structure InvOK (P : Program) {R : Type} (H : Hdl R) (i : Bool) (Inv : Start → R → Prop) : Prop where
  link : ∀ s s' ans, Inv s ans → Link s s' → Inv s' ans
  nods : H.tys ≠ [] → ∀ s ans, Inv s ans → s.ds = []
  fnl : i = false → H.tys = [] → ∃ so ao, ∀ s b, Inv s b ↔ (b = ao ∧ LinkR so s)
  yld : H.tys ≠ [] → ∀ s ans x A B vas, Inv s ans → StartOK s → H.emit x A B = some ans → ArgsRep P s.w (fun b => s.B b ∧ ¬ s.M b) H.tys vas x →
    YieldAt Fence.wide 5 P s.yl vas.toArray s.w fun e w' => KeepsY s.B s.w w' ∧ ∃ b, e = .returned (.bool b) ∧ ∃ ans', (bif b then A else B) = some ans' ∧ Inv (s.after w') ans'

/-- What the evaluator says of code. i: within a round of a loop over a function. -/
def Sound (P : Program) {R : Type} (H : Hdl R) (i : Bool) (c : Code) (f : Ev R) : Prop :=
  ∀ (r : Option Nat), r.isSome = i → ∀ Inv, InvOK P H i Inv → ∀ (K : Exit → ASt → Option R) (ans : R) (st : ASt) (a : Act) (w : World) (w0 : Start), f st K = some ans → Models P w0 st a w → Inv w0 ans →
    c.wpIn (Fr r) 7 P (fun e a' w' => ∃ w0' ans' st', Models P w0' st' a' w' ∧ Inv w0' ans' ∧ K e st' = some ans') a w

def OsOK (P : Program) {R : Type} (H : Hdl R) (i : Bool) : Code → List (Ev R) → Prop
  | .seq a b, O => OsOK P H i a (O.take (loops a)) ∧ OsOK P H i b (O.drop (loops a))
  | .cond _ a b, O => OsOK P H i a (O.take (loops a)) ∧ OsOK P H i b (O.drop (loops a))
  | .block _ c, O => OsOK P H i c O
  | .loop c, O => ∀ f, O = [f] → Sound P H i (.loop c) f
  | .rangeFunc g ps x y, O => ∀ f, O = [f] → Sound P H i (.rangeFunc g ps x y) f
  | _, _ => True

theorem preF_models {w0 : Start} {a : Act} {w : World} (hE : EnvOK P E) : (l : List Nat) → {st st' : ASt} → Models P w0 st a w → preF E l st = some st' → Models P w0 st' a w
  | [], st, st', h, hr => by cases hr; exact h
  | n :: r, st, st', h, hr => by
    unfold preF at hr
    cases hn : Nat.ble 1000000 n with
    | false => rw [hn] at hr; exact preF_models hE r h hr
    | true =>
      rw [hn] at hr
      simp only [cond_true] at hr
      split at hr
      · rename_i g id ver hs
        split at hr
        · rename_i cv u cells ho
          obtain ⟨conc, hm⟩ := h
          cases hc : (capA E u (.bptr id ver 0)).run st with
          | none => rw [hc] at hr; cases hr
          | some d =>
            rw [hc] at hr
            simp only [Option.bind_some] at hr
            obtain ⟨v, hv1, hv2⟩ := hm.slots _ _ hs
            have hv : VRel P w conc (okOf conc) (.bptr id ver 0) v := (hv2.yes (labs_nil _)).2
            have hf := (capA_spec hE hm hc hv (ids d.2) fun _ h => h).1
            exact preF_models hE r ⟨_, hm.freeze hf⟩ hr
        · exact preF_models hE r h hr
      · exact preF_models hE r h hr

theorem boolOf_rel {w0 : Start} {conc : Conc} {st : ASt} {a : Act} {w : World} (hE : EnvOK P E) (h : Mod P w0 conc st a w) {c : Operand} {t : Bool} (hr : ((rdA [] c).bind boolOf).run st = some t) : a.eval c = .bool t := by
  obtain ⟨x, h1, h2⟩ := RM.bind_some hr
  have hv := rdA_rel h (labs_nil _) h1
  cases x <;> simp only [boolOf] at h2 <;> try (cases h2; done)
  rename_i u d
  cases u <;> simp only [boolOf] at h2 <;> try (cases h2; done)
  cases h2
  obtain ⟨vs, e1, e2⟩ := hv
  exact rep_bool e1 e2

theorem leave_sound (hE : EnvOK P E) {w0 : Start} {K : Exit → ASt → Option R} {ans : R} {e : Exit} {st : ASt} {a : Act} {w : World} (hm : Models P w0 st a w) : (X : List (Way × Templ)) → leave E X (kOf K X) e st = some ans →
    ∃ st', Models P w0 st' a w ∧ K e st' = some ans
  | [], h => by cases h
  | x :: r, h => by
    simp only [leave, kOf] at h
    cases hi : x.1.is e with
    | true =>
      rw [hi] at h
      simp only [cond_true] at h
      cases hd : dec E x.2 st with
      | none => rw [hd] at h; cases h
      | some d =>
        rw [hd] at h
        have he : x.1.exit' = e := by
          cases hx : x.1 <;> cases e <;> simp [hx, Way.is, nbeq] at hi <;> simp [Way.exit', hi]
        rw [← he]
        exact ⟨_, dec_models hE hm hd, h⟩
    | false =>
      rw [hi] at h
      exact leave_sound hE hm r h

theorem loop_sound {n : Nat} {H : Hdl R} {i : Bool} (hE : EnvOK P E) {c : Code} {O : List (Ev R)} {T : Templ} {X : List (Way × Templ)} {body : denU T.tys → (denU T.tys → Option R) → conts R X → Option R}
    (hc : Sound P H i c (codeR E H c O)) (hb : ∀ d again k, codeR E H c O (mk T d) (turnR E T X again k) = body d again k) : Sound P H i (.loop c) (loopO n E T X body) := by
  intro r hr Inv hI K ans st a w w0 h hm hinv
  unfold loopO at h
  cases hd : dec E T st with
  | none => rw [hd] at h; cases h
  | some d =>
    rw [hd] at h
    simp only [Option.bind_some] at h
    have hm := dec_models hE hm hd
    clear hd
    refine wpIn_loop_rounds n ?_
    induction n generalizing d a w st w0 ans with
    | zero => cases h
    | succ n ih =>
      rw [loopG, ← hb] at h
      rw [roundsIn_succ]
      refine wpIn_mono (hc r hr Inv hI _ _ _ _ _ _ h hm hinv) ?_
      rintro e a' w' ⟨w1, ans', st', hm', hinv', h'⟩
      cases e with
      | normal =>
        show Code.roundsIn (Fr r) 7 P c _ n a' w'
        simp only [turnR] at h'
        cases hd : dec E T st' with
        | none => rw [hd] at h'; cases h'
        | some d' =>
          rw [hd] at h'
          exact ih ans' st' a' w' w1 hm' hinv' d' h' (dec_models hE hm' hd)
      | _ =>
        obtain ⟨st2, g1, g2⟩ := leave_sound hE hm' X h'
        exact ⟨w1, ans', st2, g1, hinv', g2⟩

/-! One yield. -/
theorem exec_yield {o : Oper} {f : Operand} {args : Array Operand} {tys : Array TypeId} (hop : o.op = .call { callee := .value f, args := args, argTypes := tys }) {a : Act} {l : Nat}
    (hf : a.eval f = .func (.yield l) #[] #[]) : execOp a.eval o = Instr.yield l (args.map a.eval) := by
  simp [execOp, hop, resolve, hf, Deferred.ofValue, invoke]

theorem fr_round {r : Option Nat} {n m : Nat} {l : Nat} {f : FuncId} {tmps : Array Value} {assign body : Code} {w : World} {Q : Ending → World → Prop} (h : RoundIn Fence.wide n P l f tmps assign body w Q) :
    RoundIn (Fr r) m P l f tmps assign body w Q := ⟨trivial, fun c cs _ => h.2 c cs (room_wide _)⟩

theorem yldR_sound (hE : EnvOK P E) {H : Hdl R} {r : Option Nat} {i : Bool} {Inv : Start → R → Prop} (hI : InvOK P H i Inv) {o : Oper} {st : ASt} {a : Act} {w : World} {w0 : Start} {p : List Operand × Nat} {K : ASt → Option R} {ans : R} {n : Nat}
    (hy : yldOp st o = some p) (h : yldR E H p.1 p.2 st K = some ans) (hm : Models P w0 st a w) (hinv : Inv w0 ans) {next : Act → World → Prop} {Q : Exit → Act → World → Prop}
    (hn : ∀ a' w' st' w0' ans', Models P w0' st' a' w' → Inv w0' ans' → K st' = some ans' → next a' w') : o.wpIn (Fr r) n P a w next Q := by
  obtain ⟨conc, hm⟩ := hm
  unfold yldOp at hy
  split at hy
  · rename_i t args tys d hg hop hdst
    split at hy
    · rename_i g hsl
      cases hy
      obtain ⟨v, hv1, hv2⟩ := hm.slots t _ hsl
      have hv : v = .func (.yield conc.yl) #[] #[] := (hv2.yes (labs_nil _)).2
      have hev : a.eval (.tmp t) = .func (.yield conc.yl) #[] #[] := by simp [Act.eval, hv1, hv]
      unfold yldR at h
      cases hty : H.tys.isEmpty with
      | true => rw [hty] at h; cases h
      | false =>
      rw [hty] at h
      simp only [cond_false] at h
      have hty : H.tys ≠ [] := fun e => by rw [e] at hty; cases hty
      rw [RM.runK_eq] at h
      cases hx : ((rdS [] args.toList).bind (packArgs E H.tys)).run st with
      | none => rw [hx] at h; cases h
      | some x =>
        rw [hx] at h
        simp only [Option.bind_some] at h
        cases h1 : applyU st none (.slot (some d) [] true (.v (.pure .bool true)) x.2) with
        | none => simp only [h1] at h; cases h
        | some s1 =>
          cases h2 : applyU st none (.slot (some d) [] true (.v (.pure .bool false)) x.2) with
          | none => simp only [h1, h2] at h; cases h
          | some s2 =>
            simp only [h1, h2] at h
            obtain ⟨l, g1, g2⟩ := RM.bind_some hx
            have hp := packArgs_spec hE hm H.tys g2 (rdS_rel hm (labs_nil _) g1)
            obtain ⟨f1, f2⟩ := hp (ids x.2) fun _ h => h
            obtain ⟨conc1, rfl, m1, m2, m3⟩ := frz_done hm f1
            have mr := m1.rebase
            have ml := m1.link
            have hinv1 := hI.link _ _ _ hinv ml
            have hcB : (frzL conc (ids x.2)).B = w0.B := m1.cB
            have hargs : ArgsRep P w (fun b => (w0.now (frzL conc (ids x.2)) a w).B b ∧ ¬ (w0.now (frzL conc (ids x.2)) a w).M b) H.tys (args.toList.map a.eval) x.1 := by
              have hok : ∀ b, okOf (frzL conc (ids x.2)) b ↔ (w0.B b ∧ ¬ ownedB (frzL conc (ids x.2)) b) := by
                intro b
                unfold okOf ownedB
                rw [hcB]
                refine and_congr Iff.rfl ⟨fun hh ⟨i, v, c, k1, k2⟩ => hh i v c k1 k2, fun hh i v c k1 k2 => hh ⟨i, v, c, k1, k2⟩⟩
              have : okOf (frzL conc (ids x.2)) = fun b => w0.B b ∧ ¬ ownedB (frzL conc (ids x.2)) b := funext fun b => propext (hok b)
              rw [this] at f2
              exact f2
            obtain ⟨fn, tmps, assign, body, y1, y2⟩ := hI.yld hty _ _ _ _ _ _ hinv1 mr.okS h hargs
            have hyl : (w0.now (frzL conc (ids x.2)) a w).yl = conc.yl := by show w0.yl = conc.yl; rw [← hm.cY]
            rw [hyl] at y1 y2
            have hd : ∀ c, o.op ≠ .defer c := by intro c hc; rw [hop] at hc; cases hc
            refine ⟨fun _ _ => trivial, ?_⟩
            rw [Oper.semAt_eq _ _ _ hd, exec_yield hop hev]
            have harr : (args.toList.map a.eval).toArray = args.map a.eval := by rw [← Array.toList_map, Array.toArray_toList]
            rw [harr] at y1
            have hrun : (Instr.yield conc.yl (args.map a.eval)).run P w = .ok (.round conc.yl fn tmps assign body) w := y1
            rw [hrun, Oper.uponIn_round]
            refine ⟨fun e => by simp [Fr, Fence.wide] at e, (fr_round y2).mono ?_⟩
            rintro e w' ⟨hk, b, rfl, ans', ha, hinv'⟩
            show next (a.put o.dst (.bool b)) w'
            rw [hdst]
            -- the state behind the round
            have hnow : (w0.now (frzL conc (ids x.2)) a w).w = w := rfl
            have hkB : ∀ b, b < w.heap.size → w0.B b → w'.heap[b]? = w.heap[b]? := hk.block
            let conc2 : Conc := ⟨(frzL conc (ids x.2)).m, fun b => (b < w.heap.size ∧ w0.B b) ∨ w'.heap.size ≤ b, (frzL conc (ids x.2)).yl⟩
            have hle : CLe (frzL conc (ids x.2)) conc2 := ⟨rfl, fun id cv c ow hc => ⟨cv, c, ow, hc, .inr ⟨rfl, rfl⟩⟩⟩
            have hokc : ∀ b, okOf (frzL conc (ids x.2)) b → b < w.heap.size → okOf conc2 b := fun b hb hlt => ⟨.inl ⟨hlt, by have := hb.1; rw [hcB] at this; exact this⟩, hb.2⟩
            have hx2 : Ext (okOf (frzL conc (ids x.2))) w w' := ⟨hk.size, fun b hb hlt => hkB b hlt (by have := hb.1; rw [hcB] at this; exact this)⟩
            have hs2 : Sub w (okOf (frzL conc (ids x.2))) (okOf conc2) := fun b hb hlt => hokc b hb hlt
            have mod2 : Mod P ((w0.now (frzL conc (ids x.2)) a w).after w') conc2 { st with heap := setObjs st.heap x.2 } a w' := {
              defers := rfl
              size := mr.size
              marks := mr.marks
              slots := fun d' sl hd' => by
                obtain ⟨u, k1, k2⟩ := mr.slots d' sl hd'
                exact ⟨u, k1, ⟨fun hl => ⟨(k2.yes hl).1, (k2.yes hl).2.mono hx2 hs2 hle⟩, k2.no⟩⟩
              heap := fun id ver o' ho => by
                obtain ⟨c, ow, k1, k2⟩ := mr.heap id ver o' ho
                refine ⟨c, ow, k1, k2.mono hx2 hs2 hle fun eo b' hb' => ?_⟩
                subst eo
                exact hkB b' (mr.base id ver c b' k1 hb').2 (m1.inB k1 hb')
              dead := mr.dead
              inj := mr.inj
              base := fun i v c b' k1 k2 => ⟨.inr ⟨i, v, c, k1, k2⟩, Nat.lt_of_lt_of_le (mr.base i v c b' k1 k2).2 hk.size⟩
              keeps := ⟨rfl, rfl, rfl, Nat.le_refl _, fun _ _ _ => rfl⟩
              cB := rfl
              cY := m1.cY
              okS := {
                up := fun b' hb' => .inr hb'
                mB := fun b' ⟨i, v, c, k1, k2⟩ => .inl ⟨(mr.base i v c b' k1 k2).2, m1.inB k1 k2⟩
                ds := fun d' hd' => by
                  have he : (w0.now (frzL conc (ids x.2)) a w).ds = [] := hI.nods hty _ _ hinv1
                  have hd'' : d' ∈ (w0.now (frzL conc (ids x.2)) a w).ds := hd'
                  rw [he] at hd''
                  cases hd''
                dn := by
                  have he : (w0.now (frzL conc (ids x.2)) a w).ds = [] := hI.nods hty _ _ hinv1
                  show (w0.now (frzL conc (ids x.2)) a w).ds.Nodup
                  rw [he]
                  exact List.nodup_nil
                lo := Nat.le_trans mr.okS.lo hk.size }
              fixed := m1.fixed }
            have fin : ∀ c s', applyU st none (.slot (some d) [] true (.v (.pure .bool c)) x.2) = some s' → Models P ((w0.now (frzL conc (ids x.2)) a w).after w') s' (a.put (some d) (.bool c)) w' := fun c s' hs' =>
              slot_done (W0 := x.2) (conc1 := conc2) mod2 hs' (vrel_bool (conc := conc2) c)
            cases b with
            | true => exact hn _ _ s1 _ ans' (fin true s1 h1) hinv' (by simpa using ha)
            | false => exact hn _ _ s2 _ ans' (fin false s2 h2) hinv' (by simpa using ha)
    · cases hy
  · cases hy

theorem opsY_sound (hE : EnvOK P E) {H : Hdl R} {r : Option Nat} {i : Bool} {Inv : Start → R → Prop} (hI : InvOK P H i Inv) {ops : Array Oper} {K : ASt → Option R} {n : Nat} {Q : Exit → Act → World → Prop} :
    ∀ (is : List Nat) (l : List Oper), is.map (fun i => ops[i]?) = l.map some → ∀ {st : ASt} {a : Act} {w : World} {w0 : Start} {ans : R}, opsY E H ops l st K = some ans → Models P w0 st a w → Inv w0 ans →
      (∀ a' w' st' w0' ans', Models P w0' st' a' w' → Inv w0' ans' → K st' = some ans' → Q .normal a' w') → wpOpsIn (Fr r) n P ops Q is a w
  | [], l, hl, st, a, w, w0, ans, h, hm, hinv, hq => by
    have : l = [] := by cases l <;> simp at hl ⊢
    subst this
    exact hq a w st w0 ans hm hinv h
  | i :: is, l, hl, st, a, w, w0, ans, h, hm, hinv, hq => by
    cases l with
    | nil => simp at hl
    | cons o l =>
      simp only [List.map_cons, List.cons.injEq] at hl
      obtain ⟨h1, h2⟩ := hl
      simp only [opsY] at h
      simp only [wpOpsIn, h1]
      cases hy : yldOp st o with
      | some p =>
        rw [hy] at h
        dsimp only at h
        have hw : Region.wanted o (yielded ops a.tmps) = true := by
          unfold yldOp at hy
          split at hy
          · rename_i hg _ _
            unfold Region.wanted
            rw [hg]
          · cases hy
        simp only [hw, if_true]
        exact yldR_sound hE hI hy h hm hinv fun a' w' st' w0' ans' hm' hinv' hk => opsY_sound hE hI is l h2 hk hm' hinv' hq
      | none =>
        rw [hy] at h
        dsimp only at h
        rw [opR_eq] at h
        cases hs : stepD E ops o st with
        | none => rw [hs] at h; cases h
        | some st1 =>
          rw [hs] at h
          simp only [Option.bind_some] at h
          have hstep := stepD_sound hE hm hs
          cases hw : Region.wanted o (yielded ops a.tmps) with
          | true =>
            simp only [if_true]
            exact op_in (stepD_no_defer hs) (hstep.1 hw _ Q fun a' w' hm' => opsY_sound hE hI is l h2 h hm' hinv hq)
          | false =>
            simp only [Bool.false_eq_true, if_false]
            exact ⟨fun _ _ => trivial, opsY_sound hE hI is l h2 h (hstep.2 hw) hinv hq⟩

theorem codeR_sound (hE : EnvOK P E) (hP : P.follows .mixedOrders = true) {H : Hdl R} {i : Bool} : (c : Code) → (O : List (Ev R)) → OsOK P H i c O → Sound P H i c (codeR E H c O)
  | .skip, O, _ => fun r _ Inv hI K ans st a w w0 h hm hinv => wpIn_skip ⟨w0, ans, st, hm, hinv, h⟩
  | .ret, O, _ => fun r _ Inv hI K ans st a w w0 h hm hinv => wpIn_ret ⟨w0, ans, st, hm, hinv, h⟩
  | .exit i, O, _ => fun r _ Inv hI K ans st a w w0 h hm hinv => wpIn_exit ⟨w0, ans, st, hm, hinv, h⟩
  | .seq x y, O, ho => fun r hr Inv hI K ans st a w w0 h hm hinv => by
    simp only [codeR] at h
    refine wpIn_seq (wpIn_mono (codeR_sound hE hP x _ ho.1 r hr Inv hI _ _ _ _ _ _ h hm hinv) ?_)
    rintro e a' w' ⟨w1, ans', st', hm', hinv', h'⟩
    cases e with
    | normal => exact codeR_sound hE hP y _ ho.2 r hr Inv hI _ _ _ _ _ _ h' hm' hinv'
    | _ => exact ⟨w1, ans', st', hm', hinv', h'⟩
  | .cond c x y, O, ho => fun r hr Inv hI K ans st a w w0 h hm hinv => by
    simp only [codeR, condR, RM.runK_eq] at h
    cases hrr : ((rdA [] c).bind boolOf).run st with
    | none => rw [hrr] at h; cases h
    | some t =>
      rw [hrr] at h
      simp only [Option.bind_some] at h
      obtain ⟨conc, hmod⟩ := hm
      have hev := boolOf_rel hE hmod hrr
      refine wpIn_cond hev ?_
      cases t with
      | true => exact codeR_sound hE hP x _ ho.1 r hr Inv hI _ _ _ _ _ _ h ⟨conc, hmod⟩ hinv
      | false => exact codeR_sound hE hP y _ ho.2 r hr Inv hI _ _ _ _ _ _ h ⟨conc, hmod⟩ hinv
  | .block id c, O, ho => fun r hr Inv hI K ans st a w w0 h hm hinv => by
    simp only [codeR] at h
    refine wpIn_block (wpIn_mono (codeR_sound hE hP c _ ho r hr Inv hI _ _ _ _ _ _ h hm hinv) ?_)
    rintro e a' w' ⟨w1, ans', st', hm', hinv', h'⟩
    cases e with
    | exit i =>
      simp only [nbeq] at h'
      by_cases hi : i = id
      · simp only [hi, decide_true, cond_true] at h'
        simp only [Exit.inBlock, hi, if_true]
        exact ⟨w1, ans', st', hm', hinv', h'⟩
      · simp only [hi, decide_false, cond_false] at h'
        simp only [Exit.inBlock, hi, if_false]
        exact ⟨w1, ans', st', hm', hinv', h'⟩
    | _ => exact ⟨w1, ans', st', hm', hinv', h'⟩
  | .loop c, O, ho => fun r hr Inv hI K ans st a w w0 h hm hinv => by
    cases O with
    | nil => cases h
    | cons f O =>
      cases O with
      | nil => exact ho f rfl r hr Inv hI K ans st a w w0 h hm hinv
      | cons _ _ => cases h
  | .rangeFunc g ps x y, O, ho => fun r hr Inv hI K ans st a w w0 h hm hinv => by
    cases O with
    | nil => cases h
    | cons f O =>
      cases O with
      | nil => exact ho f rfl r hr Inv hI K ans st a w w0 h hm hinv
      | cons _ _ => cases h
  | .region id ops draw, O, _ => fun r hr Inv hI K ans st a w w0 h hm hinv => by
    simp only [codeR, regY] at h
    cases draw with
    | false =>
      simp only [cond_false] at h
      cases hN : E.N.isEmpty with
      | true =>
        rw [hN] at h
        simp only [cond_true] at h
        exact wpIn_region (opsY_sound hE hI _ _ (range_ops ops) h hm hinv fun a' w' st' w0' ans' hm' hinv' hk => ⟨w0', ans', _, unlab_models hm', hinv', hk⟩)
      | false =>
        rw [hN] at h
        simp only [cond_false] at h
        exact wpIn_region (opsM_sound hE (fun st2 a' w' hm' hk => ⟨w0, ans, _, unlab_models hm', hinv, hk⟩) _ _ _ (range_ops ops) hm h)
    | true =>
      simp only [cond_true] at h
      cases hf : fwd 0 ops.toList with
      | false => rw [hf] at h; cases h
      | true =>
        rw [hf] at h
        simp only [cond_true] at h
        split at h
        rotate_left
        · cases h
        rename_i st1 hpre
        have hm := preF_models hE _ hm hpre
        clear hpre
        obtain ⟨gs, st2, g1, g2, g3, g4⟩ := opsRD_runs ops.toList [] st1 (fun k o hk => by simpa using hk) h
        obtain ⟨rr, b1, b2⟩ := bef_spec ops.toList []
        have hm0 : Models P w0 st1 a { w with drawn := w.drawn + 1 } := by
          obtain ⟨conc, hmod⟩ := hm
          exact ⟨conc, hmod.grow (Keeps.drew w)⟩
        let F : Nat → FP := fun i => gs.getD i ⟨[], []⟩
        have hruns := g3 F (fun k g hg => by simp [F, hg])
        refine wpIn_region_any hP ?_
        refine wpAny_runs hE (F := F) (B := fun i => (bef ops.toList []).getD i 0) (st2 := st2) ?_ ?_ ?_ (fun a' w' hm' => ⟨w0, ans, _, unlab_models hm', hinv, g2⟩) ops.size _ (List.range ops.size) (by simp) (List.pairwise_lt_range) (by simp) ?_ ?_ hm0 ?_
        · intro i o ho j hj
          rw [b1, List.nil_append] at hj
          exact b2 i o (by simpa using ho) j hj
        · intro i o ho
          have := fwd_spec ops.toList 0 hf i o (by simpa using ho)
          simpa using this
        · intro i j hi hj
          have hi' : i < gs.length := by rw [g1]; simpa using hi
          have hj' : j < gs.length := by omega
          have := g4 i j gs[j] gs[i] (by simp) hj (by simp [hi']) (by simp [hj'])
          simpa [F, hi', hj'] using this
        · intro i
          simp
          intro hi
          simp [Array.getD, hi]
        · intro i hi hn
          exact absurd (by simpa using hi) hn
        · rw [List.range_eq_range']
          simpa using hruns
  | .scope _, O, _ => fun r hr Inv hI K ans st a w w0 h hm hinv => by cases h
  | .label _, O, _ => fun r hr Inv hI K ans st a w w0 h hm hinv => by cases h
  | .goto _, O, _ => fun r hr Inv hI K ans st a w w0 h hm hinv => by cases h
  | .refuse _, O, _ => fun r hr Inv hI K ans st a w w0 h hm hinv => by cases h

end Go.Abs

set_option linter.unusedSimpArgs false
set_option linter.unusedVariables false
namespace Go.Abs
open Go
variable {P : Program} {E : Env} {R : Type}

def seqOf (e : Ty) : AVal → RM (List e.den)
  | .pure u d => .ofOpt (castTy (t := u) (t' := .seq e) d)
  | _ => .fail

/-- The slots that outlive a round. -/
def onlyF (F : List Nat) (st : ASt) : ASt := { N := st.N, marks := [], slots := st.slots.filter fun p => F.any (Nat.beq p.1), heap := st.heap, fixed := [] }

def mkB (T : Templ) (F : List Nat) (p : Nat) (e : Ty) (d : denU T.tys) (x : e.den) : ASt :=
  { N := T.N, marks := [], slots := Map.set (mk T d).slots p ⟨[], true, .v (.pure e x)⟩, heap := (mk T d).heap, fixed := F }

def turnB (E : Env) (T : Templ) (F : List Nat) (X : List (Way × Templ)) (again : denU T.tys → Option R) (k : conts R X) : Exit → ASt → Option R
  | .normal, st => bif eqN st.fixed F && Nat.beq st.N T.N then (dec E T (onlyF F (unlab st))).bind again else none
  | e, st => bif eqN st.fixed F && Nat.beq st.N T.N then leave E X k e (onlyF F (unlab st)) else none

/-- Behind the assignment to the loop's variable: the body. -/
def thenB (K : ASt → Option R) : Exit → ASt → Option R
  | .normal, st => K st
  | _, _ => none

/-- The evaluator of a loop over a function. -/
def rangeO (E : Env) (e : Ty) (g : Operand) (T : Templ) (X : List (Way × Templ)) (body : denU T.tys → e.den → (denU T.tys → Option R) → conts R X → Option R) : Ev R := fun st K =>
  (dec E T st).bind fun d => ((rdA [] g).bind (seqOf e)).runK (mk T d) fun xs => rangeG body (kOf K X) (fun d => K .normal (mk T d)) xs d

theorem mk_head {T : Templ} (d : denU T.tys) : (mk T d).N = T.N ∧ (mk T d).marks = [] ∧ (mk T d).fixed = T.fx := by
  unfold mk
  split
  · split <;> exact ⟨rfl, rfl, rfl⟩
  · exact ⟨rfl, rfl, rfl⟩

theorem get_filter_any {α : Type} (F : List Nat) (m : List (Nat × α)) (k : Nat) : Map.get (m.filter fun p => F.any (Nat.beq p.1)) k = if F.any (Nat.beq k) then Map.get m k else none :=
  Map.get_filter (fun n => F.any (Nat.beq n)) m k

/-- A state seen from another activation with the same slots, and with other blocks that are ok. -/
theorem Mod.move {s s' : Start} {conc : Conc} {st st' : ASt} {a a' : Act} {w w' : World} (h : Mod P s conc st a w) (B' : Nat → Prop)
    (hN : st'.N = st.N) (hmk : ∀ d sl, Map.get st'.slots d = some sl → Map.get st.slots d = some sl ∧ sl.L = [] ∧ a'.tmps[d]? = a.tmps[d]?) (hheap : ∀ id, Map.get st'.heap id = Map.get st.heap id)
    (hsz : a'.tmps.size = a.tmps.size) (hds : a'.defers = s'.ds) (hfx : ∀ d ∈ st'.fixed, a'.tmps[d]? = s'.tmps[d]?)
    (hw : w.heap.size ≤ w'.heap.size) (hok : ∀ b, b < w.heap.size → conc.B b → w'.heap[b]? = w.heap[b]?) (hBB : ∀ b, b < w.heap.size → conc.B b → B' b)
    (hsw : s'.w = w') (hsB : s'.B = B') (hsM : ∀ b, ownedB conc b → s'.M b) (hsy : s'.yl = s.yl) (hS : StartOK s') : Mod P s' ⟨conc.m, B', conc.yl⟩ st' a' w' := by
  have hle : CLe conc ⟨conc.m, B', conc.yl⟩ := ⟨rfl, fun id cv c ow hc => ⟨cv, c, ow, hc, .inr ⟨rfl, rfl⟩⟩⟩
  have hx : Ext (okOf conc) w w' := ⟨hw, fun b hb hlt => hok b hlt hb.1⟩
  have hs : Sub w (okOf conc) (okOf ⟨conc.m, B', conc.yl⟩) := fun b hb hlt => ⟨hBB b hlt hb.1, hb.2⟩
  exact {
    defers := hds
    size := by rw [hsz, hN]; exact h.size
    marks := fun d sl hd p hp => by
      have := (hmk d sl hd).2.1
      rw [this] at hp
      cases hp
    slots := fun d sl hd => by
      obtain ⟨g1, g2, g3⟩ := hmk d sl hd
      obtain ⟨v, k1, k2⟩ := h.slots d sl g1
      refine ⟨v, g3.trans k1, ⟨fun _ => ?_, fun hn => absurd (by rw [g2]; exact labs_nil _) hn⟩⟩
      have := k2.yes (by rw [g2]; exact labs_nil _)
      exact ⟨this.1, this.2.mono hx hs hle⟩
    heap := fun id ver o ho => by
      rw [hheap] at ho
      obtain ⟨c, ow, k1, k2⟩ := h.heap id ver o ho
      refine ⟨c, ow, k1, k2.mono hx hs hle fun eo b hb => ?_⟩
      subst eo
      exact hok b (h.base id ver c b k1 hb).2 (by rw [h.cB]; exact h.inB k1 hb)
    dead := fun id hd => h.dead id (by rw [← hheap]; exact hd)
    inj := h.inj
    base := fun i v c b hi hb => ⟨.inr (hsM b ⟨i, v, c, hi, hb⟩), Nat.lt_of_lt_of_le (h.base i v c b hi hb).2 hw⟩
    keeps := by rw [← hsw]; exact ⟨rfl, rfl, rfl, Nat.le_refl _, fun _ _ _ => rfl⟩
    cB := hsB.symm
    cY := h.cY.trans hsy.symm
    okS := hS
    fixed := hfx }

/-- The same activation and slots, in a world where what is ok is as it was. -/
theorem Mod.move' {s s' : Start} {conc : Conc} {st : ASt} {a : Act} {w w' : World} (h : Mod P s conc st a w) (B' : Nat → Prop)
    (hw : w.heap.size ≤ w'.heap.size) (hok : ∀ b, b < w.heap.size → conc.B b → w'.heap[b]? = w.heap[b]?) (hBB : ∀ b, b < w.heap.size → conc.B b → B' b)
    (hsw : s'.w = w') (hsB : s'.B = B') (hsM : ∀ b, ownedB conc b → s'.M b) (hsy : s'.yl = s.yl) (hds : a.defers = s'.ds) (htm : s'.tmps = s.tmps) (hS : StartOK s') : Mod P s' ⟨conc.m, B', conc.yl⟩ st a w' := by
  have hle : CLe conc ⟨conc.m, B', conc.yl⟩ := ⟨rfl, fun id cv c ow hc => ⟨cv, c, ow, hc, .inr ⟨rfl, rfl⟩⟩⟩
  have hx : Ext (okOf conc) w w' := ⟨hw, fun b hb hlt => hok b hlt hb.1⟩
  have hs : Sub w (okOf conc) (okOf ⟨conc.m, B', conc.yl⟩) := fun b hb hlt => ⟨hBB b hlt hb.1, hb.2⟩
  exact {
    defers := hds
    size := h.size
    marks := h.marks
    slots := fun d sl hd => by
      obtain ⟨v, k1, k2⟩ := h.slots d sl hd
      exact ⟨v, k1, ⟨fun hl => ⟨(k2.yes hl).1, (k2.yes hl).2.mono hx hs hle⟩, k2.no⟩⟩
    heap := fun id ver o ho => by
      obtain ⟨c, ow, k1, k2⟩ := h.heap id ver o ho
      refine ⟨c, ow, k1, k2.mono hx hs hle fun eo b hb => ?_⟩
      subst eo
      exact hok b (h.base id ver c b k1 hb).2 (by rw [h.cB]; exact h.inB k1 hb)
    dead := h.dead
    inj := h.inj
    base := fun i v c b hi hb => ⟨.inr (hsM b ⟨i, v, c, hi, hb⟩), Nat.lt_of_lt_of_le (h.base i v c b hi hb).2 hw⟩
    keeps := by rw [← hsw]; exact ⟨rfl, rfl, rfl, Nat.le_refl _, fun _ _ _ => rfl⟩
    cB := hsB.symm
    cY := h.cY.trans hsy.symm
    okS := hS
    fixed := fun s hs => by rw [htm]; exact h.fixed s hs }

/-- What holds at each point between two rounds, beside the state. base: the world at the loop's start; own0: what was owned there. -/
structure Between (P : Program) (w0 : Start) (wb : World) (own0 : Nat → Prop) (a : Act) (fn : FuncId) (ps : Array Tmp) (ca cb : Code) (stt : LoopState) (pe : Option Code) (A S : Nat → Prop) (conc : Conc) (st : ASt) (W : World) : Prop where
  mod : Mod P ⟨W, fun b => (b < wb.heap.size ∧ w0.B b) ∨ (wb.heap.size + 2 ≤ b ∧ ¬ S b), ownedB conc, a.defers, a.tmps, w0.yl, w0.lo⟩ conc st a W
  rec' : W.heap[wb.heap.size + 1]? = some (.loop { state := stt, pending := pe, fn, tmps := a.tmps, params := ps, assign := ca, body := cb, defers := wb.heap.size })
  dfr : W.heap[wb.heap.size]? = some (.deferred (some []))
  os : W.os = wb.os
  tape : W.tape = wb.tape
  output : W.output = wb.output
  size : wb.heap.size + 2 ≤ W.heap.size
  old : ∀ b, b < wb.heap.size → ¬ own0 b → W.heap[b]? = wb.heap[b]?
  own : ∀ b, ownedB conc b → own0 b ∨ wb.heap.size + 2 ≤ b
  disj : ∀ b, ownedB conc b → ¬ A b
  SA : ∀ b, S b → A b
  A2 : ∀ b, A b → wb.heap.size + 2 ≤ b ∧ b < W.heap.size

section
variable {w0 : Start} {wb : World} {own0 : Nat → Prop} {a : Act} {fn : FuncId} {ps : Array Tmp} {ca cb : Code} {stt : LoopState} {pe : Option Code} {conc : Conc} {st : ASt}

/-- The iterator takes a step. -/
theorem Between.steps {A S A' S' : Nat → Prop} {W W' : World} (h : Between P w0 wb own0 a fn ps ca cb stt pe A S conc st W) (hmk : st.marks = [] ∧ ∀ d sl, Map.get st.slots d = some sl → sl.L = []) (hfx : st.fixed = [])
    (hk : Steps A S W A' S' W') (hds : ∀ d ∈ a.defers, ∃ D, d = { target := .collected D, args := #[] } ∧ wb.heap[D]? = some (.deferred (some [])) ∧ ¬ own0 D ∧ ¬ w0.B D ∧ w0.lo ≤ D) :
    ∃ conc', conc'.m = conc.m ∧ Between P w0 wb own0 a fn ps ca cb stt pe A' S' conc' st W' := by
  have hsz := h.size
  have hsz' := hk.size
  have notS : ∀ b, b < wb.heap.size + 2 → ¬ S b := fun b hb hs => by have := (h.A2 b (h.SA b hs)).1; omega
  have hB : conc.B = fun b => (b < wb.heap.size ∧ w0.B b) ∨ (wb.heap.size + 2 ≤ b ∧ ¬ S b) := h.mod.cB
  have hBS : ∀ b, conc.B b → ¬ S b := fun b hb => by
    rw [hB] at hb
    rcases hb with ⟨h1, _⟩ | ⟨_, h2⟩
    · exact notS b (by omega)
    · exact h2
  have hBB : ∀ b, b < W.heap.size → conc.B b → (b < wb.heap.size ∧ w0.B b) ∨ (wb.heap.size + 2 ≤ b ∧ ¬ S' b) := fun b hlt hb => by
    rw [hB] at hb
    rcases hb with hb | ⟨h1, h2⟩
    · exact .inl hb
    · refine .inr ⟨h1, fun hs => ?_⟩
      rcases hk.S2 b hs with h3 | h3
      · exact h2 h3
      · omega
  have hold : ∀ b, b < wb.heap.size + 2 → W'.heap[b]? = W.heap[b]? := fun b hb => hk.block b (by omega) (notS b hb)
  refine ⟨⟨conc.m, fun b => (b < wb.heap.size ∧ w0.B b) ∨ (wb.heap.size + 2 ≤ b ∧ ¬ S' b), conc.yl⟩, rfl, ?_⟩
  refine {
    mod := h.mod.move _ rfl (fun d sl hd => ⟨hd, hmk.2 d sl hd, rfl⟩) (fun _ => rfl) rfl rfl (fun d hd => absurd hd (by rw [hfx]; simp)) hsz' (fun b hlt hb => hk.block b hlt (hBS b hb)) hBB rfl rfl (fun b hb => hb) rfl ?_
    rec' := (hold _ (by omega)).trans h.rec'
    dfr := (hold _ (by omega)).trans h.dfr
    os := hk.os.trans h.os
    tape := hk.tape.trans h.tape
    output := hk.output.trans h.output
    size := by omega
    old := fun b hb ho => (hold b (by omega)).trans (h.old b hb ho)
    own := h.own
    disj := fun b hb hA => by
      rcases hk.A2 b hA with h1 | h1
      · exact h.disj b hb h1
      · obtain ⟨i, v, c, g1, g2⟩ := hb
        have := (h.mod.base i v c b g1 g2).2
        omega
    SA := hk.SA
    A2 := fun b hb => ⟨by
      rcases hk.A2 b hb with h1 | h1
      · exact (h.A2 b h1).1
      · omega, hk.A3 b hb⟩ }
  exact {
    up := fun b hb => .inr ⟨by have h1 : W'.heap.size ≤ b := hb
                               omega, fun hs => by
      have := hk.A3 b (hk.SA b hs)
      have h1 : W'.heap.size ≤ b := hb
      omega⟩
    mB := fun b ⟨i, v, c, g1, g2⟩ => hBB b (h.mod.base i v c b g1 g2).2 (by rw [h.mod.cB]; exact h.mod.inB g1 g2)
    ds := fun d hd => by
      obtain ⟨D, e, h1, h2, h5⟩ := hds d hd
      have hlt := (Array.getElem?_eq_some_iff.1 h1).1
      refine ⟨D, e, ((hold D (by omega)).trans (h.old D hlt h2)).trans h1, fun hb => ?_, h5.2⟩
      rcases hb with ⟨_, h3⟩ | ⟨h3, _⟩
      · exact h5.1 h3
      · omega
    dn := h.mod.okS.dn
    lo := by
      have := h.mod.okS.lo
      have : w0.lo ≤ W.heap.size := this
      show w0.lo ≤ W'.heap.size
      omega }
end

theorem mkSlots_labs : {l : List (Nat × SlotT)} → {r : List Dyn} → {m : List (Nat × Slot)} → {r' : List Dyn} → mkSlots l r = some (m, r') → ∀ p ∈ m, p.2.L = []
  | [], r, m, r', h => by
    simp only [mkSlots, Option.some.injEq, Prod.mk.injEq] at h
    intro p hp
    rw [← h.1] at hp
    cases hp
  | (d, t) :: l, r, m, r', h => by
    simp only [mkSlots] at h
    split at h
    · split at h
      · rename_i m' r2 hm
        simp only [Option.some.injEq, Prod.mk.injEq] at h
        obtain ⟨rfl, _⟩ := h
        intro p hp
        rcases List.mem_cons.1 hp with rfl | hp
        · rfl
        · exact mkSlots_labs hm p hp
      · cases h
    · cases h

theorem mk_labs {T : Templ} (d : denU T.tys) {k : Nat} {sl : Slot} (h : Map.get (mk T d).slots k = some sl) : sl.L = [] := by
  unfold mk at h
  split at h
  · rename_i s r hs
    split at h
    · exact mkSlots_labs hs _ (Map.get_mem h)
    · cases h
  · cases h

theorem leave_mod (hE : EnvOK P E) {w0 : Start} {K : Exit → ASt → Option R} {ans : R} {e : Exit} {conc : Conc} {st : ASt} {a : Act} {w : World} (hm : Mod P w0 conc st a w) : (X : List (Way × Templ)) → leave E X (kOf K X) e st = some ans →
    ∃ x ∈ X, ∃ d conc', e = x.1.exit' ∧ Mod P w0 conc' (mk x.2 d) a w ∧ (∀ b, ownedB conc' b → ownedB conc b) ∧ K e (mk x.2 d) = some ans
  | [], h => by cases h
  | x :: r, h => by
    simp only [leave, kOf] at h
    cases hi : x.1.is e with
    | true =>
      rw [hi] at h
      simp only [cond_true] at h
      cases hd : dec E x.2 st with
      | none => rw [hd] at h; cases h
      | some d =>
        rw [hd] at h
        have he : x.1.exit' = e := by
          cases hx : x.1 <;> cases e <;> simp [hx, Way.is, nbeq] at hi <;> simp [Way.exit', hi]
        obtain ⟨conc', h1, h2⟩ := dec_mod hE hm hd
        exact ⟨x, List.mem_cons_self, d, conc', he.symm, h1, fun b ⟨i, v, c, k1, k2⟩ => h2 i v c b k1 k2, by rw [← he]; exact h⟩
    | false =>
      rw [hi] at h
      obtain ⟨y, hy, r⟩ := leave_mod hE hm r h
      exact ⟨y, List.mem_cons_of_mem _ hy, r⟩

/-- The jump that a round leaves. -/
def jumpOf : Exit → Code
  | .exit i => .exit i
  | _ => .ret

theorem onlyF_get (F : List Nat) (st : ASt) (k : Nat) : Map.get (onlyF F st).slots k = if F.any (Nat.beq k) then Map.get st.slots k else none := get_filter_any F st.slots k

/-- Behind a round's body: the state as the loop sees it. -/
theorem Between.round {w0 : Start} {wb : World} {own0 : Nat → Prop} {a a3 : Act} {fn : FuncId} {ps : Array Tmp} {ca cb : Code} {A S : Nat → Prop} {conc conc3 : Conc} {st st3 : ASt} {W W3 W4 : World} {p : Nat} {v : Value} {F : List Nat} {stt : LoopState} {pe : Option Code}
    {st4 : LoopState} {pe4 : Option Code} (h : Between P w0 wb own0 a fn ps ca cb stt pe A S conc st W) {sE : Start} (hm : Mod P sE conc3 st3 a3 W3) (hfx : st3.fixed = F) (hp : p ∉ F) (htm : sE.tmps = a.tmps.setIfInBounds p v) (hsz3 : a3.tmps.size = a.tmps.size)
    (hlab : ∀ k sl, Map.get st3.slots k = some sl → F.any (Nat.beq k) = true → sl.L = [])
    (hB : sE.B = fun b => (b < wb.heap.size ∧ w0.B b) ∨ (wb.heap.size + 2 ≤ b ∧ ¬ S b)) (hyl : sE.yl = w0.yl) (hlo : sE.lo = w0.lo)
    (hos : W3.os = W.os) (htape : W3.tape = W.tape) (hout : W3.output = W.output) (hsize : W.heap.size ≤ W3.heap.size) (hblk : ∀ b, b < W.heap.size → ¬ ownedB conc b → b ≠ wb.heap.size + 1 → W3.heap[b]? = W.heap[b]?)
    (hown : ∀ b, ownedB conc3 b → ownedB conc b ∨ W.heap.size ≤ b) (hds : ∀ d ∈ a.defers, ∃ D, d = { target := .collected D, args := #[] } ∧ wb.heap[D]? = some (.deferred (some [])) ∧ ¬ own0 D ∧ ¬ w0.B D ∧ w0.lo ≤ D)
    (hW4 : W4 = W3.putObj (wb.heap.size + 1) (.loop { state := st4, pending := pe4, fn, tmps := a.tmps, params := ps, assign := ca, body := cb, defers := wb.heap.size })) :
    ∃ conc4, conc4.m = conc3.m ∧ Between P w0 wb own0 a fn ps ca cb st4 pe4 A S conc4 (onlyF F st3) W4 := by
  have hs := h.size
  have notOwn : ∀ b, b < wb.heap.size + 2 → ¬ own0 b → ¬ ownedB conc b := fun b hb ho hc => by
    rcases h.own b hc with h1 | h1
    · exact ho h1
    · omega
  have h4 : ∀ b, b ≠ wb.heap.size + 1 → W4.heap[b]? = W3.heap[b]? := fun b hb => by rw [hW4]; exact World.putObj_heap_other hb
  have hsz4 : W4.heap.size = W3.heap.size := by rw [hW4]; simp [World.putObj]
  have hl3 : wb.heap.size + 1 < W3.heap.size := by omega
  have hB3 : conc3.B = fun b => (b < wb.heap.size ∧ w0.B b) ∨ (wb.heap.size + 2 ≤ b ∧ ¬ S b) := hm.cB.trans hB
  have hBl : ¬ conc3.B (wb.heap.size + 1) := by
    rw [hB3]
    rintro (⟨h1, _⟩ | ⟨h1, _⟩) <;> omega
  have hslot : ∀ d sl, Map.get (onlyF F st3).slots d = some sl → Map.get st3.slots d = some sl ∧ sl.L = [] ∧ a.tmps[d]? = a3.tmps[d]? := by
    intro d sl hd
    rw [onlyF_get] at hd
    split at hd
    · rename_i hF
      have hmem : d ∈ F := by
        obtain ⟨q, hq, he⟩ := List.any_eq_true.1 hF
        rw [nbeq_true he]; exact hq
      refine ⟨hd, hlab d sl hd hF, ?_⟩
      rw [hm.fixed d (by rw [hfx]; exact hmem), htm, Array.getElem?_setIfInBounds_ne (fun e => hp (by rw [e]; exact hmem))]
    · cases hd
  have hold : ∀ b, b < wb.heap.size + 2 → ¬ ownedB conc b → b ≠ wb.heap.size + 1 → W4.heap[b]? = W.heap[b]? := fun b hb ho hn => (h4 b hn).trans (hblk b (by omega) ho hn)
  have hinB : ∀ b, ownedB conc3 b → conc3.B b := fun b ⟨i, v, c, g1, g2⟩ => by rw [hm.cB]; exact hm.inB g1 g2
  refine ⟨⟨conc3.m, fun b => (b < wb.heap.size ∧ w0.B b) ∨ (wb.heap.size + 2 ≤ b ∧ ¬ S b), conc3.yl⟩, rfl, ?_⟩
  refine {
    mod := hm.move _ rfl hslot (fun _ => rfl) hsz3.symm rfl (fun d hd => by cases hd) (by omega) (fun b hlt hb => h4 b fun e => hBl (by rw [← e]; exact hb)) (fun b _ hb => by rw [hB3] at hb; exact hb) rfl rfl (fun b hb => hb) hyl.symm ?_
    rec' := by rw [hW4]; exact World.putObj_heap_same hl3
    dfr := (hold _ (by omega) (fun hc => ?_) (by omega)).trans h.dfr
    os := by rw [hW4]; exact hos.trans h.os
    tape := by rw [hW4]; exact htape.trans h.tape
    output := by rw [hW4]; exact hout.trans h.output
    size := by omega
    old := fun b hb ho => (hold b (by omega) (notOwn b (by omega) ho) (by omega)).trans (h.old b hb ho)
    own := fun b hb => by
      rcases hown b hb with h1 | h1
      · exact h.own b h1
      · exact .inr (by omega)
    disj := fun b hb hA => by
      rcases hown b hb with h1 | h1
      · exact h.disj b h1 hA
      · have := (h.A2 b hA).2
        omega
    SA := h.SA
    A2 := fun b hb => ⟨(h.A2 b hb).1, by have := (h.A2 b hb).2; omega⟩ }
  · exact {
      up := fun b hb => .inr ⟨by
        have h1 : W4.heap.size ≤ b := hb
        omega, fun hs => by
        have := (h.A2 b (h.SA b hs)).2
        have h1 : W4.heap.size ≤ b := hb
        omega⟩
      mB := fun b hb => by have := hinB b hb; rw [hB3] at this; exact this
      ds := fun d hd => by
        obtain ⟨D, e, h1, h2, h5⟩ := hds d hd
        have hlt := (Array.getElem?_eq_some_iff.1 h1).1
        refine ⟨D, e, ((hold D (by omega) (notOwn D (by omega) h2) (by omega)).trans (h.old D hlt h2)).trans h1, fun hb => ?_, h5.2⟩
        rcases hb with ⟨_, h3⟩ | ⟨h3, _⟩
        · exact h5.1 h3
        · omega
      dn := h.mod.okS.dn
      lo := by
        have := h.mod.okS.lo
        have : w0.lo ≤ W.heap.size := this
        show w0.lo ≤ W4.heap.size
        omega }
  · obtain ⟨i, v, c, g1, g2⟩ := hc
    have hb := h.mod.inB g1 g2
    rcases hb with ⟨h1, _⟩ | ⟨h1, _⟩ <;> omega

/-- A state that holds no more than the one before. -/
theorem Between.narrow {w0 : Start} {wb : World} {own0 : Nat → Prop} {a : Act} {fn : FuncId} {ps : Array Tmp} {ca cb : Code} {A S : Nat → Prop} {conc conc' : Conc} {st st' : ASt} {W : World} {stt : LoopState} {pe : Option Code}
    (h : Between P w0 wb own0 a fn ps ca cb stt pe A S conc st W) (hm : Mod P ⟨W, fun b => (b < wb.heap.size ∧ w0.B b) ∨ (wb.heap.size + 2 ≤ b ∧ ¬ S b), ownedB conc, a.defers, a.tmps, w0.yl, w0.lo⟩ conc' st' a W)
    (hs : ∀ b, ownedB conc' b → ownedB conc b) : ∃ conc2, Between P w0 wb own0 a fn ps ca cb stt pe A S conc2 st' W := by
  have hc : conc'.B = fun b => (b < wb.heap.size ∧ w0.B b) ∨ (wb.heap.size + 2 ≤ b ∧ ¬ S b) := hm.cB
  refine ⟨⟨conc'.m, fun b => (b < wb.heap.size ∧ w0.B b) ∨ (wb.heap.size + 2 ≤ b ∧ ¬ S b), conc'.yl⟩, {
    mod := Mod.move' hm _ (Nat.le_refl _) (fun _ _ _ => rfl) (fun b _ hb => by rw [hc] at hb; exact hb) rfl rfl (fun b hb => hb) rfl rfl rfl {
      up := h.mod.okS.up
      mB := fun b hb => h.mod.okS.mB b (hs b hb)
      ds := h.mod.okS.ds
      dn := h.mod.okS.dn
      lo := h.mod.okS.lo }
    rec' := h.rec'
    dfr := h.dfr
    os := h.os
    tape := h.tape
    output := h.output
    size := h.size
    old := h.old
    own := fun b hb => h.own b (hs b hb)
    disj := fun b hb => h.disj b (hs b hb)
    SA := h.SA
    A2 := h.A2 }⟩

/-- What the texts of a range's parts owe. -/
structure RangeOK (P : Program) {R : Type} (E : Env) (e : Ty) (p : Nat) (ca cb : Code) (Oa Ob : List (Ev R)) (T : Templ) (F : List Nat) (X : List (Way × Templ)) (body : denU T.tys → e.den → (denU T.tys → Option R) → conts R X → Option R) : Prop where
  fx : T.fx = []
  pN : p < T.N
  pF : p ∉ F
  xfx : ∀ x ∈ X, x.2.fx = []
  a : Sound P (Hdl.no (R := R)) true ca (codeR E Hdl.no ca Oa)
  b : Sound P (Hdl.no (R := R)) true cb (codeR E Hdl.no cb Ob)
  eq : ∀ d x again k, codeR E Hdl.no ca Oa (mkB T F p e d x) (thenB fun st => codeR E Hdl.no cb Ob st (turnB E T F X again k)) = body d x again k

/-- One round. -/
theorem round_ok (hE : EnvOK P E) {e : Ty} {p : Nat} {ca cb : Code} {Oa Ob : List (Ev R)} {T : Templ} {F : List Nat} {X : List (Way × Templ)} {body : denU T.tys → e.den → (denU T.tys → Option R) → conts R X → Option R}
    (hR : RangeOK P E e p ca cb Oa Ob T F X body) {w0 : Start} {wb : World} {own0 : Nat → Prop} {a : Act} {fn : FuncId} {A S : Nat → Prop} {conc : Conc} {W : World} {d : denU T.tys} {x : e.den} {cs : List Value}
    (h : Between P w0 wb own0 a fn #[p] ca cb .ready none A S conc (mk T d) W) (hds : ∀ d ∈ a.defers, ∃ D, d = { target := .collected D, args := #[] } ∧ wb.heap[D]? = some (.deferred (some [])) ∧ ¬ own0 D ∧ ¬ w0.B D ∧ w0.lo ≤ D)
    (hx : Rep P e W (okOf conc) cs x) {K : Exit → ASt → Option R} {again : denU T.tys → Option R} {ans : R} (hans : body d x again (kOf K X) = some ans) :
    YieldAt Fence.wide 5 P (wb.heap.size + 1) #[e.val cs] W fun en W' => (∀ b, b < W.heap.size → ¬ ownedB conc b → b ≠ wb.heap.size + 1 → W'.heap[b]? = W.heap[b]?) ∧ W.heap.size ≤ W'.heap.size ∧ W'.os = W.os ∧ W'.tape = W.tape ∧ W'.output = W.output ∧
      ((en = .returned (.bool true) ∧ ∃ conc' d', Between P w0 wb own0 a fn #[p] ca cb .ready none A S conc' (mk T d') W' ∧ again d' = some ans) ∨
       (en = .returned (.bool false) ∧ ∃ conc', ∃ y ∈ X, ∃ d', Between P w0 wb own0 a fn #[p] ca cb .done (some (jumpOf y.1.exit')) A S conc' (mk y.2 d') W' ∧ K y.1.exit' (mk y.2 d') = some ans)) := by
  have hs := h.size
  have hrec := h.rec'
  have hy := run_yield (P := P) (args := #[e.val cs]) hrec rfl
  refine ⟨_, _, _, _, hy, ?_⟩
  dsimp only
  -- the activation of the round
  have haR : (#[p].zip #[e.val cs]).foldl (fun tmps (x : Nat × Value) => tmps.setIfInBounds x.1 x.2) a.tmps = a.tmps.setIfInBounds p (e.val cs) := by simp [Array.zip]
  have hnl : ¬ ownedB conc (wb.heap.size + 1) := fun ⟨i, v, c, g1, g2⟩ => by
    rcases h.mod.inB g1 g2 with ⟨h1, _⟩ | ⟨h1, _⟩ <;> omega
  obtain ⟨hmN, hmm, hmf⟩ := mk_head d
  let a0 : Act := { tmps := a.tmps, defers := [] }
  let aR : Act := a0.put (some p) (e.val cs)
  let B : Nat → Prop := fun b => (b < wb.heap.size ∧ w0.B b) ∨ (wb.heap.size + 2 ≤ b ∧ ¬ S b)
  let s0 : Start := ⟨W, B, ownedB conc, [], a.tmps, w0.yl, w0.lo⟩
  let sA : Start := ⟨W, B, ownedB conc, [], aR.tmps, w0.yl, w0.lo⟩
  have okS0 : ∀ tm, StartOK ⟨W, B, ownedB conc, [], tm, w0.yl, w0.lo⟩ := fun tm => {
    up := h.mod.okS.up
    mB := h.mod.okS.mB
    ds := fun _ hd => by cases hd
    dn := List.nodup_nil
    lo := h.mod.okS.lo }
  have hcB : conc.B = B := h.mod.cB
  have m0 : Mod P s0 ⟨conc.m, B, conc.yl⟩ (mk T d) a0 W := h.mod.move B rfl (fun k sl hk => ⟨hk, mk_labs d hk, rfl⟩) (fun _ => rfl) rfl rfl (fun k hk => absurd hk (by rw [hmf, hR.fx]; simp)) (Nat.le_refl _) (fun _ _ _ => rfl) (fun b _ hb => by rw [← hcB]; exact hb) rfl rfl (fun b hb => hb) rfl (okS0 _)
  have m1 : Mod P s0 ⟨conc.m, B, conc.yl⟩ { N := (mk T d).N, marks := [], slots := Map.set (mk T d).slots p ⟨[], true, .v (.pure e x)⟩, heap := (mk T d).heap, fixed := (mk T d).fixed } aR W :=
    m0.put (d := p) (sl := ⟨[], true, .v (.pure e x)⟩) (v := e.val cs) (ms := []) (may_iff.2 ⟨by rw [hmN]; exact hR.pN, by rw [hmm]; simp, by rw [hmf, hR.fx]; simp⟩) (fun m hm => absurd hm (by rw [hmm]; simp)) (fun q hq => by cases hq)
      ⟨fun _ => ⟨rfl, cs, rfl, by
        have he : okOf (⟨conc.m, B, conc.yl⟩ : Conc) = okOf conc := by
          funext b
          unfold okOf
          rw [hcB]
        rw [he]
        exact hx⟩, fun hn => absurd (labs_nil _) hn⟩
  have mA : Mod P sA ⟨conc.m, B, conc.yl⟩ (mkB T F p e d x) aR W := m1.move B (by rw [hmN]; rfl) (fun k sl hk => ⟨hk, by
      simp only [mkB, Map.get_set] at hk
      split at hk
      · cases hk; rfl
      · exact mk_labs d hk, rfl⟩) (fun _ => rfl) rfl rfl (fun k _ => rfl) (Nat.le_refl _) (fun _ _ _ => rfl) (fun b _ hb => hb) rfl rfl (fun b hb => hb) rfl (okS0 _)
  -- the assignment
  rw [← hR.eq] at hans
  have wide : ∀ (c : Code) Q a w n m, c.wpIn (Fr (some (wb.heap.size + 1))) n P Q a w → c.wpIn (Fence.wide.inRound (wb.heap.size + 1)) m P Q a w := fun c Q a w n m hh => wpIn_n hh
  rw [haR]
  refine roundIn_of_wpIn trivial (wide _ _ _ _ 7 5 ?_)
  have invOK : ∀ s : Start, s.ds = [] → InvOK P (Hdl.no (R := R)) true (fun s' b => b = ans ∧ Link s s') := fun s _ => {
    link := fun s1 s2 b hb hl => ⟨hb.1, hb.2.trans hl⟩
    nods := fun hne => absurd rfl hne
    fnl := fun he => by cases he
    yld := fun hne => absurd rfl hne }
  refine wpIn_mono (hR.a (some (wb.heap.size + 1)) rfl _ (invOK sA rfl) _ ans _ _ _ sA hans ⟨_, mA⟩ ⟨rfl, Link.refl _⟩) ?_
  rintro ea a1 w1 ⟨sA', ans1, st1, ⟨conc1, hm1⟩, ⟨rfl, hlA⟩, hk1⟩
  cases ea with
  | normal =>
    simp only [thenB] at hk1
    -- the world behind the assignment
    have lA := hlA.trans hm1.link
    have lA_block : ∀ b, b < W.heap.size → ¬ ownedB conc b → w1.heap[b]? = W.heap[b]? := lA.block
    have hrec1 : w1.heap[wb.heap.size + 1]? = _ := (lA_block _ (by omega) hnl).trans hrec
    have hszA : W.heap.size ≤ w1.heap.size := lA.size
    refine ⟨_, run_beginRound hrec1 rfl, wide _ _ _ _ 7 5 ?_⟩
    generalize hw2 : w1.putObj (wb.heap.size + 1) _ = w2
    have h2 : ∀ b, b ≠ wb.heap.size + 1 → w2.heap[b]? = w1.heap[b]? := fun b hb => by rw [← hw2]; exact World.putObj_heap_other hb
    have hsz2 : w2.heap.size = w1.heap.size := by rw [← hw2]; simp [World.putObj]
    have hos2 : w2.os = w1.os ∧ w2.tape = w1.tape ∧ w2.output = w1.output := by rw [← hw2]; exact ⟨rfl, rfl, rfl⟩
    have hrec2 : w2.heap[wb.heap.size + 1]? = some (.loop { state := .busy, pending := none, fn, tmps := a.tmps, params := #[p], assign := ca, body := cb, defers := wb.heap.size }) := by
      rw [← hw2]; exact World.putObj_heap_same (by omega)
    have hB1 : conc1.B = B := by
      rw [hm1.cB]
      funext b
      exact propext (hlA.B b)
    have hBl : ¬ B (wb.heap.size + 1) := by
      rintro (⟨q1, _⟩ | ⟨q1, _⟩) <;> omega
    let sB : Start := ⟨w2, B, ownedB conc1, [], sA'.tmps, sA'.yl, sA'.lo⟩
    have htm1 : sA'.tmps = aR.tmps := hlA.tmps
    have hlo1 : sA'.lo = w0.lo := hlA.lo
    have hyl1 : sA'.yl = w0.yl := hlA.yl
    have hds1 : a1.defers = [] := hm1.defers.trans hlA.ds
    have upB : ∀ b, w2.heap.size ≤ b → B b := fun b hb => .inr ⟨by omega, fun hs => by have := (h.A2 b (h.SA b hs)).2; omega⟩
    have mB : Mod P sB ⟨conc1.m, B, conc1.yl⟩ st1 a1 w2 := by
      refine Mod.move' hm1 B ?_ (fun b hlt hb => h2 b fun e => hBl (by rw [← e, ← hB1]; exact hb)) (fun b _ hb => by rw [← hB1]; exact hb) rfl rfl (fun b hb => hb) rfl hds1 rfl {
        up := upB
        mB := fun b ⟨i, v, c, g1, g2⟩ => by
          have := hm1.inB g1 g2
          rw [← hm1.cB, hB1] at this
          exact this
        ds := fun _ hd => by cases hd
        dn := List.nodup_nil
        lo := by
          have : w0.lo ≤ W.heap.size := h.mod.okS.lo
          show sA'.lo ≤ w2.heap.size
          omega }
      omega
    refine wpIn_mono (hR.b (some (wb.heap.size + 1)) rfl _ (invOK sB rfl) _ ans1 _ _ _ sB hk1 ⟨_, mB⟩ ⟨rfl, Link.refl _⟩) ?_
    rintro eb a3 w3 ⟨sE, ans3, st3, ⟨conc3, hm3⟩, ⟨rfl, hlB⟩, hk3⟩
    have lB := hlB.trans hm3.link
    have hszB : w2.heap.size ≤ w3.heap.size := lB.size
    have hown1 : ∀ b, ownedB conc1 b → ownedB conc b ∨ W.heap.size ≤ b := fun b hb => (lA.M b hb).imp id fun g => g.1
    have hown3 : ∀ b, ownedB conc3 b → ownedB conc b ∨ W.heap.size ≤ b := fun b hb => by
      rcases lB.M b hb with g | g
      · exact hown1 b g
      · have g' : w2.heap.size ≤ b := g.1
        exact .inr (by omega)
    have hn1 : ∀ b, b < W.heap.size → ¬ ownedB conc b → ¬ ownedB conc1 b := fun b hb ho hc => by
      rcases hown1 b hc with g | g
      · exact ho g
      · omega
    have hblk : ∀ b, b < W.heap.size → ¬ ownedB conc b → b ≠ wb.heap.size + 1 → w3.heap[b]? = W.heap[b]? := fun b hb ho hne => by
      have e1 : w3.heap[b]? = w2.heap[b]? := lB.block b (by show b < w2.heap.size; omega) (hn1 b hb ho)
      exact e1.trans ((h2 b hne).trans (lA_block b hb ho))
    have hrec3 : w3.heap[wb.heap.size + 1]? = some (.loop { state := .busy, pending := none, fn, tmps := a.tmps, params := #[p], assign := ca, body := cb, defers := wb.heap.size }) := by
      have e1 : w3.heap[wb.heap.size + 1]? = w2.heap[wb.heap.size + 1]? := lB.block _ (by show _ < w2.heap.size; omega) (hn1 _ (by omega) hnl)
      exact e1.trans hrec2
    have hos3 : w3.os = W.os := by have e1 : w3.os = w2.os := lB.os; have e2 : w1.os = W.os := lA.os; rw [e1, hos2.1, e2]
    have htp3 : w3.tape = W.tape := by have e1 : w3.tape = w2.tape := lB.tape; have e2 : w1.tape = W.tape := lA.tape; rw [e1, hos2.2.1, e2]
    have hot3 : w3.output = W.output := by have e1 : w3.output = w2.output := lB.output; have e2 : w1.output = W.output := lA.output; rw [e1, hos2.2.2, e2]
    have hBE : sE.B = B := funext fun b => propext (hlB.B b)
    have htmE : sE.tmps = a.tmps.setIfInBounds p (e.val cs) := hlB.tmps.trans htm1
    have hT : a.tmps.size = T.N := h.mod.size.trans hmN
    have hround : ∀ (st4 : LoopState) (pe4 : Option Code), st3.fixed = F → st3.N = T.N → ∃ conc4, conc4.m = conc3.m ∧ Between P w0 wb own0 a fn #[p] ca cb st4 pe4 A S conc4 (onlyF F (unlab st3))
        (w3.putObj (wb.heap.size + 1) (.loop { state := st4, pending := pe4, fn, tmps := a.tmps, params := #[p], assign := ca, body := cb, defers := wb.heap.size })) := fun st4 pe4 hF hN =>
      h.round (unlab_mod hm3) hF hR.pF htmE (by rw [hT, hm3.size, hN]) (fun k sl hk _ => unlab_L hk) hBE (hlB.yl.trans hyl1) (hlB.lo.trans hlo1) hos3 htp3 hot3 (by omega) hblk hown3 hds rfl
    have hrest : ∀ (st4 : LoopState) (pe4 : Option Code) b, b < W.heap.size → ¬ ownedB conc b → b ≠ wb.heap.size + 1 →
        (w3.putObj (wb.heap.size + 1) (.loop { state := st4, pending := pe4, fn, tmps := a.tmps, params := #[p], assign := ca, body := cb, defers := wb.heap.size })).heap[b]? = W.heap[b]? := fun st4 pe4 b hb ho hne =>
      (World.putObj_heap_other hne).trans (hblk b hb ho hne)
    have hput : ∀ v, (w3.putObj (wb.heap.size + 1) v).heap.size = w3.heap.size := fun v => by simp [World.putObj]
    have out : ∀ (ex : Exit) (jc : Code), jumpOf ex = jc → (∀ c, ex ≠ .panic c) → leave E X (kOf K X) ex (onlyF F (unlab st3)) = some ans3 → st3.fixed = F → st3.N = T.N →
        ∃ v w', (Instr.endRound (wb.heap.size + 1) (some jc)).run P w3 = .ok v w' ∧ ((∀ b, b < W.heap.size → ¬ ownedB conc b → b ≠ wb.heap.size + 1 → w'.heap[b]? = W.heap[b]?) ∧ W.heap.size ≤ w'.heap.size ∧ w'.os = W.os ∧ w'.tape = W.tape ∧ w'.output = W.output ∧
      ((Ending.returned v = .returned (.bool true) ∧ ∃ conc' d', Between P w0 wb own0 a fn #[p] ca cb .ready none A S conc' (mk T d') w' ∧ again d' = some ans3) ∨
       (Ending.returned v = .returned (.bool false) ∧ ∃ conc', ∃ y ∈ X, ∃ d', Between P w0 wb own0 a fn #[p] ca cb .done (some (jumpOf y.1.exit')) A S conc' (mk y.2 d') w' ∧ K y.1.exit' (mk y.2 d') = some ans3))) := by
      intro ex jc hj _ hl hF hN
      refine ⟨_, _, run_endRound (some jc) hrec3, hrest _ _, by rw [hput]; omega, hos3, htp3, hot3, .inr ⟨rfl, ?_⟩⟩
      obtain ⟨conc4, _, hb4⟩ := hround .done (some jc) hF hN
      obtain ⟨x, hx, d', conc', he, g1, g2, g3⟩ := leave_mod hE hb4.mod X hl
      obtain ⟨conc5, h5⟩ := hb4.narrow g1 g2
      refine ⟨conc5, x, hx, d', ?_, by rw [← he]; exact g3⟩
      rw [← he, hj]
      exact h5
    have chk : ∀ {z : Option R}, (bif eqN st3.fixed F && Nat.beq st3.N T.N then z else none) = some ans3 → st3.fixed = F ∧ st3.N = T.N ∧ z = some ans3 := by
      intro z hz
      cases hc : (eqN st3.fixed F && Nat.beq st3.N T.N) with
      | false => rw [hc] at hz; cases hz
      | true =>
        rw [hc] at hz
        simp only [Bool.and_eq_true] at hc
        exact ⟨eqN_eq hc.1, nbeq_true hc.2, hz⟩
    cases eb with
    | normal =>
      obtain ⟨hF, hN, hz⟩ := chk (z := (dec E T (onlyF F (unlab st3))).bind again) hk3
      refine ⟨_, _, run_endRound none hrec3, hrest _ _, by rw [hput]; omega, hos3, htp3, hot3, .inl ⟨rfl, ?_⟩⟩
      obtain ⟨conc4, _, hb4⟩ := hround .ready none hF hN
      cases hd : dec E T (onlyF F (unlab st3)) with
      | none => rw [hd] at hz; cases hz
      | some d' =>
        rw [hd] at hz
        obtain ⟨conc', g1, g2⟩ := dec_mod hE hb4.mod hd
        obtain ⟨conc5, h5⟩ := hb4.narrow g1 fun b ⟨i, v, c, k1, k2⟩ => g2 i v c b k1 k2
        exact ⟨conc5, d', h5, hz⟩
    | ret =>
      obtain ⟨hF, hN, hz⟩ := chk (z := leave E X (kOf K X) .ret (onlyF F (unlab st3))) hk3
      exact out .ret .ret rfl (fun c hc => by cases hc) hz hF hN
    | exit i =>
      obtain ⟨hF, hN, hz⟩ := chk (z := leave E X (kOf K X) (.exit i) (onlyF F (unlab st3))) hk3
      exact out (.exit i) (.exit i) rfl (fun c hc => by cases hc) hz hF hN
    | goto t =>
      obtain ⟨hF, hN, hz⟩ := chk (z := leave E X (kOf K X) (.goto t) (onlyF F (unlab st3))) hk3
      obtain ⟨conc4, _, hb4⟩ := hround .ready none hF hN
      obtain ⟨x, hx, d', conc', he, _⟩ := leave_mod hE hb4.mod X hz
      cases hw : x.1 <;> simp [hw, Way.exit'] at he
    | panic c =>
      obtain ⟨hF, hN, hz⟩ := chk (z := leave E X (kOf K X) (.panic c) (onlyF F (unlab st3))) hk3
      obtain ⟨conc4, _, hb4⟩ := hround .ready none hF hN
      obtain ⟨x, hx, d', conc', he, _⟩ := leave_mod hE hb4.mod X hz
      cases hw : x.1 <;> simp [hw, Way.exit'] at he
    | outgrown =>
      obtain ⟨hF, hN, hz⟩ := chk (z := leave E X (kOf K X) .outgrown (onlyF F (unlab st3))) hk3
      obtain ⟨conc4, _, hb4⟩ := hround .ready none hF hN
      obtain ⟨x, hx, d', conc', he, _⟩ := leave_mod hE hb4.mod X hz
      cases hw : x.1 <;> simp [hw, Way.exit'] at he
  | ret => cases hk1
  | exit i => cases hk1
  | goto i => cases hk1
  | panic c => cases hk1
  | outgrown => cases hk1

end Go.Abs

set_option linter.unusedSimpArgs false
set_option linter.unusedVariables false
namespace Go.Abs
open Go
variable {P : Program} {E : Env} {R : Type}

theorem Between.done {w0 : Start} {wb : World} {conc0 : Conc} {a : Act} {fn : FuncId} {ps : Array Tmp} {ca cb : Code} {A S : Nat → Prop} {conc : Conc} {st st0 : ASt} {W : World} {stt : LoopState} {pe : Option Code}
    (h0 : Mod P w0 conc0 st0 a wb) (h : Between P w0 wb (ownedB conc0) a fn ps ca cb stt pe A S conc st W) (hmk : ∀ d sl, Map.get st.slots d = some sl → sl.L = []) (hfx : st.fixed = []) (o : Obj) :
    ∃ s4, Models P s4 st { a with defers := [{ target := .collected wb.heap.size, args := #[] }] ++ a.defers } (W.putObj (wb.heap.size + 1) o) ∧ LinkR w0 s4 := by
  have hs := h.size
  have h4 : ∀ b, b ≠ wb.heap.size + 1 → (W.putObj (wb.heap.size + 1) o).heap[b]? = W.heap[b]? := fun b hb => World.putObj_heap_other hb
  have hsz : (W.putObj (wb.heap.size + 1) o).heap.size = W.heap.size := by simp
  have hcB : conc.B = fun b => (b < wb.heap.size ∧ w0.B b) ∨ (wb.heap.size + 2 ≤ b ∧ ¬ S b) := h.mod.cB
  have hinB : ∀ b, ownedB conc b → (b < wb.heap.size ∧ w0.B b) ∨ (wb.heap.size + 2 ≤ b ∧ ¬ S b) := fun b ⟨i, v, c, g1, g2⟩ => by
    have := h.mod.inB g1 g2
    exact this
  have h0o : ∀ b, ownedB conc0 b → w0.w.heap.size ≤ b ∨ w0.M b := fun b ⟨i, v, c, g1, g2⟩ => (h0.base i v c b g1 g2).1
  have hk := h0.keeps
  have hlo := h0.okS.lo
  have hsize := hk.size
  refine ⟨⟨W.putObj (wb.heap.size + 1) o, fun b => (b < wb.heap.size ∧ w0.B b) ∨ (wb.heap.size + 2 ≤ b ∧ ¬ S b), ownedB conc, [{ target := .collected wb.heap.size, args := #[] }] ++ a.defers, w0.tmps, w0.yl, w0.lo⟩, ⟨_, h.mod.move _ rfl (fun d sl hd => ⟨hd, hmk d sl hd, rfl⟩) (fun _ => rfl) rfl rfl (fun d hd => absurd hd (by rw [hfx]; simp)) (by rw [hsz]; exact Nat.le_refl _) (fun b hlt hb => h4 b fun e => ?_) (fun b _ hb => by rw [hcB] at hb; exact hb) rfl rfl (fun b hb => hb) rfl ?_⟩, ?_⟩
  · rw [hcB] at hb
    rcases hb with hb | hb <;> omega
  · exact {
      up := fun b hb => .inr ⟨by
        have h1 : (W.putObj (wb.heap.size + 1) o).heap.size ≤ b := hb
        omega, fun hs => by
        have := (h.A2 b (h.SA b hs)).2
        have h1 : (W.putObj (wb.heap.size + 1) o).heap.size ≤ b := hb
        omega⟩
      mB := hinB
      ds := fun d hd => by
        rcases List.mem_append.1 hd with hd | hd
        · simp only [List.mem_singleton] at hd
          subst hd
          refine ⟨_, rfl, (h4 _ (by omega)).trans h.dfr, fun hb => ?_, by show w0.lo ≤ wb.heap.size; omega⟩
          rcases hb with ⟨g, _⟩ | ⟨g, _⟩ <;> omega
        · obtain ⟨D, e, h1, h2⟩ := h0.okS.ds d (by rw [← h0.defers]; exact hd)
          have hlt := (Array.getElem?_eq_some_iff.1 h1).1
          have hM : ¬ w0.M D := fun g => h2.1 (h0.okS.mB D g)
          have n0 : ¬ ownedB conc0 D := fun hb => by
            rcases h0o D hb with g | g
            · omega
            · exact hM g
          refine ⟨D, e, (h4 _ (by omega)).trans ((h.old D (by omega) n0).trans ((hk.block D hlt hM).trans h1)), fun hb => ?_, h2.2⟩
          rcases hb with ⟨_, g⟩ | ⟨g, _⟩
          · exact h2.1 g
          · omega
      dn := by
        show ([{ target := .collected wb.heap.size, args := #[] }] ++ a.defers : List Deferred).Nodup
        rw [List.singleton_append, List.nodup_cons]
        refine ⟨fun hm => ?_, by rw [h0.defers]; exact h0.okS.dn⟩
        obtain ⟨D, e, h1, _⟩ := h0.okS.ds _ (by rw [← h0.defers]; exact hm)
        have hlt := (Array.getElem?_eq_some_iff.1 h1).1
        cases e
        omega
      lo := by
        show w0.lo ≤ (W.putObj (wb.heap.size + 1) o).heap.size
        omega }
  · exact {
      os := h.os.trans hk.os
      tape := h.tape.trans hk.tape
      output := h.output.trans hk.output
      size := by
        show w0.w.heap.size ≤ (W.putObj (wb.heap.size + 1) o).heap.size
        omega
      block := fun b hb hM => by
        have n0 : ¬ ownedB conc0 b := fun ho => by
          rcases h0o b ho with g | g
          · omega
          · exact hM g
        exact (h4 b (by omega)).trans ((h.old b (by omega) n0).trans (hk.block b hb hM))
      M := fun b hb => by
        rcases h.own b hb with g | g
        · exact (h0o b g).symm
        · exact .inr (by omega)
      B1 := fun b hb h1 => .inl ⟨by omega, h1⟩
      B2 := fun b hb h1 => by
        rcases h1 with h1 | h1
        · exact h1.2
        · omega
      lo := rfl
      tm := rfl }

theorem range_sound (hE : EnvOK P E) {H : Hdl R} (hH : H.tys = []) {e : Ty} {p : Nat} {g : Operand} {ca cb : Code} {Oa Ob : List (Ev R)} {T : Templ} {F : List Nat} {X : List (Way × Templ)} {body : denU T.tys → e.den → (denU T.tys → Option R) → conts R X → Option R}
    (hR : RangeOK P E e p ca cb Oa Ob T F X body) : Sound P H false (.rangeFunc g #[p] ca cb) (rangeO E e g T X body) := by
  intro r hr Inv hI K ans st a w w0 h hm hinv
  have hr : r = none := by cases r <;> simp at hr ⊢
  subst hr
  unfold rangeO at h
  cases hd : dec E T st with
  | none => rw [hd] at h; cases h
  | some d =>
  rw [hd] at h
  simp only [Option.bind_some] at h
  obtain ⟨conc, hm⟩ := dec_models hE hm hd
  clear hd
  rw [RM.runK_eq] at h
  cases hx : ((rdA [] g).bind (seqOf e)).run (mk T d) with
  | none => rw [hx] at h; cases h
  | some xs =>
  rw [hx] at h
  simp only [Option.bind_some] at h
  obtain ⟨x, hx1, hx2⟩ := RM.bind_some hx
  have hv := rdA_rel hm (labs_nil _) hx1
  obtain ⟨so, ao, hso⟩ := hI.fnl rfl hH
  have hgv : ∃ vs, a.eval g = (Ty.seq e).val vs ∧ Rep P (.seq e) w (okOf conc) vs xs := by
    cases x <;> simp only [seqOf] at hx2 <;> try (cases hx2; done)
    rename_i u dd
    have hc : castTy (t := u) (t' := .seq e) dd = some xs := by
      cases hc : castTy (t := u) (t' := .seq e) dd with
      | none => rw [hc] at hx2; cases hx2
      | some z => rw [hc] at hx2; cases hx2; rfl
    obtain ⟨rfl, rfl⟩ := castTy_some hc
    exact hv
  obtain ⟨vs, hev, fid, lb, rfl, hbod, hseq⟩ := hgv
  have hev : a.eval g = .func (.func fid) #[] lb := hev
  let done : denU T.tys → Option R := fun d => K .normal (mk T d)
  refine wpIn_rangeFunc fun fn _ => ?_
  have hent := run_enterLoop_outer (P := P) (w := w) fn a.tmps #[p] ca cb
  generalize hW1 : (w.alloc (.deferred (some []))).alloc (.loop { state := .ready, pending := none, fn, tmps := a.tmps, params := #[p], assign := ca, body := cb, defers := w.heap.size }) = W1 at hent
  refine ⟨w.heap.size + 1, [{ target := .collected w.heap.size, args := #[] }], W1, { target := .fn (.func fid) lb, args := #[.func (.yield (w.heap.size + 1)) #[] #[]] }, W1, fid, #[.func (.yield (w.heap.size + 1)) #[] #[]] ++ lb, W1,
    hent, ?_, fun _ _ => trivial, ?_, fun _ => by decide, ?_⟩
  · show (Deferred.ofValue (a.eval g) _).run P W1 = _
    rw [hev]
    have he : (rangeCall g (w.heap.size + 1)).args.map a.eval = #[.func (.yield (w.heap.size + 1)) #[] #[]] := by simp [rangeCall, Act.eval]
    rw [he]
    simp [Deferred.ofValue]
  · simp only [invoke]
    exact callFunc_run hbod _
  have hsz1 : W1.heap.size = w.heap.size + 2 := by rw [← hW1]; simp
  have hold1 : ∀ b, b < w.heap.size → W1.heap[b]? = w.heap[b]? := fun b hb => by
    rw [← hW1]
    show ((w.heap.push _).push _)[b]? = _
    rw [Array.getElem?_push, Array.getElem?_push]
    simp only [Array.size_push]
    rw [if_neg (by omega), if_neg (by omega)]
  have hD1 : W1.heap[w.heap.size]? = some (.deferred (some [])) := by
    rw [← hW1]
    show ((w.heap.push _).push _)[w.heap.size]? = _
    rw [Array.getElem?_push, Array.getElem?_push]
    simp
  have hL1 : W1.heap[w.heap.size + 1]? = some (.loop { state := .ready, pending := none, fn, tmps := a.tmps, params := #[p], assign := ca, body := cb, defers := w.heap.size }) := by
    rw [← hW1]
    show ((w.heap.push _).push _)[w.heap.size + 1]? = _
    rw [Array.getElem?_push]
    simp
  have hmisc : W1.os = w.os ∧ W1.tape = w.tape ∧ W1.output = w.output := by rw [← hW1]; exact ⟨rfl, rfl, rfl⟩
  have hcB : conc.B = w0.B := hm.cB
  obtain ⟨_, _, hmf⟩ := mk_head d
  have hlab : ∀ (d' : denU T.tys), ∀ k sl, Map.get (mk T d').slots k = some sl → sl.L = [] := fun d' k sl hk => mk_labs d' hk
  have own0 : ∀ b, ownedB conc b → b < w.heap.size ∧ w0.B b := fun b ⟨i, v, c, g1, g2⟩ => ⟨(hm.base i v c b g1 g2).2, hm.inB g1 g2⟩
  have hds0 : ∀ dd ∈ a.defers, ∃ D, dd = { target := .collected D, args := #[] } ∧ w.heap[D]? = some (.deferred (some [])) ∧ ¬ ownedB conc D ∧ ¬ w0.B D ∧ w0.lo ≤ D := fun dd hd => by
    obtain ⟨D, e', h1, h2⟩ := hm.rebase.okS.ds dd hd
    exact ⟨D, e', h1, fun hb => h2.1 (hm.rebase.okS.mB D hb), h2⟩
  have b0 : ∃ conc1, Between P w0 w (ownedB conc) a fn #[p] ca cb .ready none (fun _ => False) (fun _ => False) conc1 (mk T d) W1 := by
    refine ⟨⟨conc.m, fun b => (b < w.heap.size ∧ w0.B b) ∨ (w.heap.size + 2 ≤ b ∧ ¬ False), conc.yl⟩, {
      mod := hm.rebase.move _ rfl (fun k sl hk => ⟨hk, hlab d k sl hk, rfl⟩) (fun _ => rfl) rfl rfl (fun k hk => absurd hk (by rw [hmf, hR.fx]; simp)) (by omega) (fun b hlt _ => hold1 b hlt) (fun b hlt hb => .inl ⟨hlt, by rw [← hcB]; exact hb⟩) rfl rfl (fun b hb => hb) rfl {
        up := fun b hb => .inr ⟨by have h1 : W1.heap.size ≤ b := hb
                                   omega, id⟩
        mB := fun b hb => .inl (own0 b hb)
        ds := fun dd hd => by
          obtain ⟨D, e', h1, _, h2⟩ := hds0 dd hd
          have hlt := (Array.getElem?_eq_some_iff.1 h1).1
          refine ⟨D, e', (hold1 D hlt).trans h1, fun hb => ?_, h2.2⟩
          rcases hb with ⟨_, g⟩ | ⟨g, _⟩
          · exact h2.1 g
          · omega
        dn := hm.rebase.okS.dn
        lo := by
          have h1 := hm.okS.lo
          have h2 := hm.keeps.size
          show w0.lo ≤ W1.heap.size
          omega }
      rec' := hL1
      dfr := hD1
      os := hmisc.1
      tape := hmisc.2.1
      output := hmisc.2.2
      size := by omega
      old := fun b hb _ => hold1 b hb
      own := fun b hb => .inl hb
      disj := fun _ _ h => h
      SA := fun _ h => h
      A2 := fun _ h => h.elim }⟩
  obtain ⟨conc1, b0⟩ := b0
  let ok1 : Nat → Prop := fun b => okOf conc b ∧ b < w.heap.size
  let J : Nat → (Nat → Prop) → (Nat → Prop) → World → Prop := fun k A S W => ∃ conc' d', Between P w0 w (ownedB conc) a fn #[p] ca cb .ready none A S conc' (mk T d') W ∧ rangeG body (kOf K X) done (xs.drop k) d' = some ans
  let Jx : (Nat → Prop) → (Nat → Prop) → World → Prop := fun A S W => ∃ conc', ∃ y ∈ X, ∃ d', Between P w0 w (ownedB conc) a fn #[p] ca cb .done (some (jumpOf y.1.exit')) A S conc' (mk y.2 d') W ∧ K y.1.exit' (mk y.2 d') = some ans
  have hcall := hseq W1 ok1 ⟨by omega, fun b _ hlt => hold1 b hlt⟩ (fun b hb hlt => ⟨hb, hlt⟩) (w.heap.size + 1) J Jx
    (fun k A S W A' S' W' ⟨conc', d', hb, hans⟩ hst => by
      obtain ⟨conc2, _, h2⟩ := hb.steps ⟨(mk_head d').2.1, hlab d'⟩ ((mk_head d').2.2.trans hR.fx) hst hds0
      exact ⟨conc2, d', h2, hans⟩)
    (fun A S W A' S' W' ⟨conc', y, hy, d', hb, hans⟩ hst => by
      obtain ⟨conc2, _, h2⟩ := hb.steps ⟨(mk_head d').2.1, fun k sl hk => mk_labs d' hk⟩ ((mk_head d').2.2.trans (hR.xfx y hy)) hst hds0
      exact ⟨conc2, y, hy, d', h2, hans⟩)
    (fun k x A S W vas ⟨conc', d', hb, hans⟩ hk hSA hA hsz ⟨cs, e1, hrep⟩ => by
      subst e1
      have hlt := (List.getElem?_eq_some_iff.1 hk).1
      rw [List.drop_eq_getElem_cons hlt] at hans
      have hxk : xs[k] = x := (List.getElem?_eq_some_iff.1 hk).2
      rw [hxk] at hans
      have hcB' : conc'.B = fun b => (b < w.heap.size ∧ w0.B b) ∨ (w.heap.size + 2 ≤ b ∧ ¬ S b) := hb.mod.cB
      have hsub : Sub W (fun b => (ok1 b ∧ b < W1.heap.size) ∨ (A b ∧ ¬ S b)) (okOf conc') := fun b hh hlt' => by
        have ho : ¬ ownedB conc' b → ∀ id ver c, conc' id = some (ver, c, true) → ¬ hasB c b := fun hn i v c g1 g2 => hn ⟨i, v, c, g1, g2⟩
        rcases hh with ⟨⟨g1, g2⟩, _⟩ | ⟨g1, g2⟩
        · refine ⟨by rw [hcB']; exact .inl ⟨g2, by rw [← hcB]; exact g1.1⟩, ho fun hh => ?_⟩
          rcases hb.own b hh with ⟨i, v, c, k1, k2⟩ | k1
          · exact g1.2 i v c k1 k2
          · omega
        · exact ⟨by rw [hcB']; exact .inr ⟨(hb.A2 b g1).1, g2⟩, ho fun hh => hb.disj b hh g1⟩
      obtain ⟨fn1, tm1, as1, bd1, y1, y2⟩ := round_ok hE hR (again := fun d => rangeG body (kOf K X) done (xs.drop (k + 1)) d) hb hds0 (hrep.mono e ⟨Nat.le_refl _, fun _ _ _ => rfl⟩ hsub) hans
      refine ⟨fn1, tm1, as1, bd1, y1, y2.mono ?_⟩
      rintro en W' ⟨q1, q2, q3, q4, q5, q6⟩
      refine ⟨{ os := q3, tape := q4, output := q5, size := q2, block := fun b hlt' hh => ?_ }, q6⟩
      rcases hh with ⟨⟨g1, g2⟩, _⟩ | g1
      · refine q1 b hlt' (fun hh => ?_) (by omega)
        rcases hb.own b hh with ⟨i, v, c, k1, k2⟩ | k1
        · exact g1.2 i v c k1 k2
        · omega
      · exact q1 b hlt' (fun hh => hb.disj b hh g1) (by have := (hb.A2 b g1).1; omega))
    ⟨conc1, d, b0, h⟩
  refine fr_calls (hcall.mono ?_)
  have fin : ∀ {A S : Nat → Prop} {conc' : Conc} {st' : ASt} {W' : World} {stt : LoopState} {pe : Option Code} (hb : Between P w0 w (ownedB conc) a fn #[p] ca cb stt pe A S conc' st' W') (ex : Exit) (hmk : ∀ d sl, Map.get st'.slots d = some sl → sl.L = []) (hfx : st'.fixed = []) (hk : K ex st' = some ans) (o : Obj),
      ∃ w0' ans' st'', Models P w0' st'' { a with defers := [{ target := .collected w.heap.size, args := #[] }] ++ a.defers } (W'.putObj (w.heap.size + 1) o) ∧ Inv w0' ans' ∧ K ex st'' = some ans' := by
    intro A S conc' st' W' stt pe hb ex hmk hfx hk o
    obtain ⟨s4, g1, g2⟩ := Between.done hm hb hmk hfx o
    exact ⟨s4, ans, st', g1, (hso _ _).2 ⟨((hso _ _).1 hinv).1, ((hso _ _).1 hinv).2.trans g2⟩, hk⟩
  rintro en W' ⟨⟨v, rfl⟩, hJ⟩
  rcases hJ with ⟨A, S, conc', d', hb, hans⟩ | ⟨A, S, conc', y, hy, d', hb, hans⟩
  · refine ⟨none, _, run_endLoop hb.rec' (by simp), ?_⟩
    rw [List.drop_length] at hans
    exact fin hb .normal (hlab d') ((mk_head d').2.2.trans hR.fx) hans _
  · refine ⟨some (jumpOf y.1.exit'), _, run_endLoop hb.rec' (by simp), ?_⟩
    have := fin hb y.1.exit' (fun k sl hk => mk_labs d' hk) ((mk_head d').2.2.trans (hR.xfx y hy)) hans
    cases hw : y.1 with
    | exit i =>
      rw [hw] at this
      exact wpIn_exit (this _)
    | ret =>
      rw [hw] at this
      exact wpIn_ret (this _)

end Go.Abs

set_option linter.unusedSimpArgs false
set_option linter.unusedVariables false
namespace Go.Abs
open Go
variable {P : Program} {E : Env} {w0 : Start} {w : World} {conc : Conc} {st : ASt} {a : Act}

theorem load_of_loadAt {T : Nat} {v u : Value} (h : (Instr.loadAt T v).run P w = .ok u w) : (do loadVar T (← asAddr v) : Sem Value).run P w = .ok u w := by
  cases v with
  | pointer p =>
    cases p with
    | none => simp [Instr.loadAt, Instr.sureAddr, stuck] at h
    | some q => exact h
  | _ => simp [Instr.loadAt, Instr.sureAddr, stuck] at h

def resVal (a : Act) : ResultVar → Sem Value
  | .tmp t => pure (a.tmps.getD t undef)
  | .cell c t => do loadVar t (← asAddr (a.tmps.getD c undef))

theorem resOf_spec (hE : EnvOK P E) (h : Mod P w0 conc st a w) : {rs : List ResultVar} → {l : List SVal} → (resOf E rs).run st = some l →
    ∃ vs, (rs.mapM (resVal a)).run P w = .ok vs w ∧ All2 (SRel P w conc (okOf conc)) l vs ∧ vs.length = rs.length
  | [], l, hr => by cases hr; exact ⟨[], by simp, trivial, rfl⟩
  | .tmp t :: r, l, hr => by
    obtain ⟨s, h1, h2⟩ := RM.bind_some hr
    obtain ⟨m, h3, h4⟩ := RM.bind_some h2
    cases h4
    have := rd_rel h (labs_nil _) h1
    obtain ⟨vs, e1, e2, e3⟩ := resOf_spec hE h h3
    refine ⟨a.eval (.tmp t) :: vs, ?_, ⟨this, e2⟩, by simp [e3]⟩
    have he : a.eval (.tmp t) = a.tmps.getD t undef := by simp [Act.eval]
    simp [List.mapM_cons, resVal, he, e1]
  | .cell c T :: r, l, hr => by
    simp only [resOf] at hr
    cases hT : E.ty T with
    | none => rw [hT] at hr; cases hr
    | some t =>
      rw [hT] at hr
      dsimp only at hr
      obtain ⟨b, h0, hr⟩ := RM.bind_some hr
      obtain ⟨s, h1, h2⟩ := RM.bind_some hr
      obtain ⟨m, h3, h4⟩ := RM.bind_some h2
      cases h4
      have hb := rdA_rel h (labs_nil _) h0
      obtain ⟨u, f1, f2⟩ := loadAt_sound hE h hT h1 hb
      have f3 := load_of_loadAt f1
      obtain ⟨vs, e1, e2, e3⟩ := resOf_spec hE h h3
      refine ⟨u :: vs, ?_, ⟨f2, e2⟩, by simp [e3]⟩
      have he : a.eval (.tmp c) = a.tmps.getD c undef := by simp [Act.eval]
      rw [he] at f3
      have : (resVal a (.cell c T)).run P w = .ok u w := f3
      simp [List.mapM_cons, this, e1]

theorem results_run {fn : Func} {vs : List Value} (h : (fn.results.toList.mapM (resVal a)).run P w = .ok vs w) : (results fn a.tmps).run P w = .ok (if vs.length = 1 then vs.headD undef else .tuple vs.toArray) w := by
  unfold results
  have e : ∀ g : ResultVar → Sem Value, (∀ r, g r = resVal a r) → fn.results.mapM g = Functor.map List.toArray (fn.results.toList.mapM (resVal a)) := by
    intro g hg
    rw [Array.mapM_eq_mapM_toList, show g = resVal a from funext hg]
  rw [e _ (fun r => by cases r <;> rfl)]
  simp only [map_eq_pure_bind, bind_assoc, pure_bind]
  rw [Sem.run_bind, h]
  simp only [Result.andThen_ok]
  match vs with
  | [] => rfl
  | [v] => rfl
  | v :: u :: r => simp

/-! A call's start. -/

theorem number_get : (l : List AVal) → (n d : Nat) → {sl : Slot} → Map.get (number n l) d = some sl → ∃ i x, d = n + i ∧ l[i]? = some x ∧ sl = ⟨[], true, .v x⟩
  | [], n, d, sl, h => by cases h
  | x :: r, n, d, sl, h => by
    simp only [number, Map.get, nbeq] at h
    by_cases hd : n = d
    · simp [hd] at h
      exact ⟨0, x, by omega, rfl, h.symm⟩
    · simp [hd] at h
      obtain ⟨i, y, h1, h2, h3⟩ := number_get r (n + 1) d h
      exact ⟨i + 1, y, by omega, by simpa using h2, h3⟩

theorem tupOf_len : (ts : List Ty) → (x : denL ts) → (tupOf ts x).length = ts.length
  | [], _ => rfl
  | [t], x => rfl
  | t :: u :: ts, (x, y) => by simp [tupOf, tupOf_len (u :: ts) y]

theorem ptrs_rel {ok : Nat → Prop} : (ts : List Ty) → {vs : List Value} → {x : denL ts} → CapsRep P w ok ts vs x → All2 (VRel P w conc ok) (ptrs (tupOf ts x)) vs
  | [], vs, x, h => by cases h; trivial
  | [t], vs, x, ⟨v, h1, h2⟩ => by subst h1; exact ⟨h2, trivial⟩
  | t :: u :: ts, vs, x, ⟨v, r, h1, h2, h3⟩ => by subst h1; exact ⟨h2, ptrs_rel (u :: ts) h3⟩

theorem ptrs_len : ∀ l : List AVal, (ptrs l).length = l.length
  | [] => rfl
  | a :: l => by cases a <;> simp [ptrs, ptrs_len l]

theorem start_ok (ok : Nat → Prop) (w : World) (tm : Array Value) (l : Nat) : StartOK ⟨w, newOk ok w, fun _ => False, [], tm, l, w.heap.size⟩ where
  up := fun b hb => .inr hb
  mB := fun b hb => hb.elim
  ds := (fun _ h => (by cases h))
  dn := List.nodup_nil
  lo := Nat.le_refl _

theorem entry_models {ok : Nat → Prop} {N : Nat} {ins caps : List Ty} {vs cs : List Value} {x : denL ins} {y : denL caps} (hN : ins.length + caps.length ≤ N) (hx : ArgsRep P w ok ins vs x) (hy : CapsRep P w ok caps cs y) (tm : Array Value) :
    Models P ⟨w, newOk ok w, fun _ => False, [], tm, 0, w.heap.size⟩ (entry N ins caps x y) { tmps := (vs ++ cs).toArray ++ Array.replicate (N - (vs ++ cs).toArray.size) undef, defers := [] } w := by
  let conc : Conc := ⟨fun _ => none, newOk ok w, 0⟩
  have hok : ∀ b, ok b → okOf conc b := fun b hb => ⟨.inl hb, (fun _ _ _ h => (by cases h))⟩
  have h1 : All2 (VRel P w conc (okOf conc)) (tupOf ins x) vs := (tup_rel (conc := conc) ins hx).imp fun a b h => VRel.mono ⟨Nat.le_refl _, fun _ _ _ => rfl⟩ (fun b hb _ => hok b hb) (CLe.refl _) a h
  have h2 : All2 (VRel P w conc (okOf conc)) (ptrs (tupOf caps y)) cs := (ptrs_rel (conc := conc) caps hy).imp fun a b h => VRel.mono ⟨Nat.le_refl _, fun _ _ _ => rfl⟩ (fun b hb _ => hok b hb) (CLe.refl _) a h
  have h3 := h1.append h2
  have hl1 := h1.length
  have hl2 := h2.length
  rw [tupOf_len] at hl1
  rw [ptrs_len, tupOf_len] at hl2
  refine ⟨conc, { defers := rfl, size := ?_, marks := ?_, slots := ?_, heap := (fun id ver o h => (by cases h)), dead := fun _ _ => rfl, inj := (fun _ _ _ _ _ _ _ h => (by cases h)), base := (fun _ _ _ _ h => (by cases h)), keeps := ⟨rfl, rfl, rfl, Nat.le_refl _, fun _ _ _ => rfl⟩, cB := rfl, cY := rfl, okS := start_ok ok w tm 0, fixed := (fun _ h => (by cases h)) }⟩
  · simp [entry]
    omega
  · intro d sl hd p hp
    obtain ⟨i, a, _, _, e⟩ := number_get _ _ _ hd
    rw [e] at hp
    cases hp
  · intro d sl hd
    obtain ⟨i, a, e1, e2, e3⟩ := number_get _ _ _ hd
    rw [Nat.zero_add] at e1
    subst e1
    obtain ⟨v, g1, g2⟩ := All2.get d a h3 e2
    refine ⟨v, ?_, ?_⟩
    · have hlt : d < (vs ++ cs).length := (List.getElem?_eq_some_iff.1 g1).1
      rw [Array.getElem?_append_left (by simpa using hlt)]
      simpa using g1
    · rw [e3]
      exact ⟨fun _ => ⟨rfl, g2⟩, fun hn => absurd (labs_nil _) hn⟩

/-- How an iterator starts: its first argument is the function to be called. -/
def entryY (N : Nat) (caps : List Ty) (y : denL caps) : ASt :=
  { N, marks := [], slots := (0, ⟨[], true, .v .yld⟩) :: number 1 (ptrs (tupOf caps y)), heap := [], fixed := [] }

theorem entryY_models {ok : Nat → Prop} {N : Nat} {caps : List Ty} {cs : List Value} {y : denL caps} (l : Nat) (hN : 1 + caps.length ≤ N) (hy : CapsRep P w ok caps cs y) (tm : Array Value) :
    Models P ⟨w, newOk ok w, fun _ => False, [], tm, l, w.heap.size⟩ (entryY N caps y) { tmps := (#[Value.func (.yield l) #[] #[]] ++ cs.toArray) ++ Array.replicate (N - (#[Value.func (.yield l) #[] #[]] ++ cs.toArray).size) undef, defers := [] } w := by
  let conc : Conc := ⟨fun _ => none, newOk ok w, l⟩
  have hok : ∀ b, ok b → okOf conc b := fun b hb => ⟨.inl hb, (fun _ _ _ h => (by cases h))⟩
  have h2 : All2 (VRel P w conc (okOf conc)) (ptrs (tupOf caps y)) cs := (ptrs_rel (conc := conc) caps hy).imp fun a b h => VRel.mono ⟨Nat.le_refl _, fun _ _ _ => rfl⟩ (fun b hb _ => hok b hb) (CLe.refl _) a h
  have hl2 := h2.length
  rw [ptrs_len, tupOf_len] at hl2
  have hget : ∀ d sl, Map.get (entryY N caps y).slots d = some sl → (d = 0 ∧ sl = ⟨[], true, .v .yld⟩) ∨ ∃ i a, d = 1 + i ∧ (ptrs (tupOf caps y))[i]? = some a ∧ sl = ⟨[], true, .v a⟩ := by
    intro d sl hd
    simp only [entryY, Map.get, nbeq] at hd
    by_cases h0 : 0 = d
    · simp [h0] at hd
      exact .inl ⟨h0.symm, hd.symm⟩
    · simp [h0] at hd
      exact .inr (number_get _ _ _ hd)
  refine ⟨conc, { defers := rfl, size := ?_, marks := ?_, slots := ?_, heap := (fun id ver o h => (by cases h)), dead := fun _ _ => rfl, inj := (fun _ _ _ _ _ _ _ h => (by cases h)), base := (fun _ _ _ _ h => (by cases h)), keeps := ⟨rfl, rfl, rfl, Nat.le_refl _, fun _ _ _ => rfl⟩, cB := rfl, cY := rfl, okS := start_ok ok w tm l, fixed := (fun _ h => (by cases h)) }⟩
  · simp [entryY]
    omega
  · intro d sl hd p hp
    rcases hget d sl hd with ⟨_, e⟩ | ⟨i, a, _, _, e⟩
    · rw [e] at hp; cases hp
    · rw [e] at hp; cases hp
  · intro d sl hd
    rcases hget d sl hd with ⟨e1, e⟩ | ⟨i, a, e1, e2, e3⟩
    · subst e1 e
      refine ⟨.func (.yield l) #[] #[], ?_, ⟨fun _ => ⟨rfl, rfl⟩, fun hn => absurd (labs_nil _) hn⟩⟩
      rw [Array.getElem?_append_left (by simp), Array.getElem?_append_left (by simp)]
      rfl
    · obtain ⟨v, g1, g2⟩ := All2.get i a h2 e2
      refine ⟨v, ?_, ?_⟩
      · have hlt : i < cs.length := (List.getElem?_eq_some_iff.1 g1).1
        subst e1
        rw [Array.getElem?_append_left (by simp; omega)]
        rw [Array.getElem?_append_right (by simp)]
        simpa using g1
      · rw [e3]
        exact ⟨fun _ => ⟨rfl, g2⟩, fun hn => absurd (labs_nil _) hn⟩

theorem args_len {ok : Nat → Prop} : (ts : List Ty) → {vs : List Value} → {x : denL ts} → ArgsRep P w ok ts vs x → vs.length = ts.length
  | [], vs, x, h => by cases h; rfl
  | [t], vs, x, ⟨cs, h1, h2⟩ => by subst h1; rfl
  | t :: u :: ts, vs, x, ⟨cs, r, h1, h2, h3⟩ => by subst h1; simp [args_len (u :: ts) h3]

theorem args_mono {ok ok' : Nat → Prop} (hs : Sub w ok ok') : (ts : List Ty) → {vs : List Value} → {x : denL ts} → ArgsRep P w ok ts vs x → ArgsRep P w ok' ts vs x
  | [], vs, x, h => h
  | [t], vs, x, ⟨cs, h1, h2⟩ => ⟨cs, h1, h2.re hs⟩
  | t :: u :: ts, vs, x, ⟨cs, r, h1, h2, h3⟩ => ⟨cs, r, h1, h2.re hs, args_mono hs (u :: ts) h3⟩

theorem res_of_args {ok : Nat → Prop} : (ts : List Ty) → {vs : List Value} → {x : denL ts} → ArgsRep P w ok ts vs x → ResRep P w ok ts (if vs.length = 1 then vs.headD undef else .tuple vs.toArray) x
  | [], vs, x, h => by cases h; rfl
  | [t], vs, x, ⟨cs, h1, h2⟩ => by subst h1; exact ⟨cs, rfl, h2⟩
  | t :: u :: ts, vs, x, h => by
    have hl := args_len _ h
    simp only [List.length_cons] at hl
    rw [if_neg (by omega)]
    exact ⟨vs, rfl, h⟩

theorem FreshT.sub {n : Nat} {ok ok' : Nat → Prop} (hs : Sub w ok ok') : (t : Ty) → {vs : List Value} → {d : t.den} → {bs : List Nat} → FreshT P n w ok t vs d bs → FreshT P n w ok' t vs d bs
  | .slice e, vs, d, bs, h => by
    rcases h with h | ⟨b, off, cap, cs, T, h1, h2, h3, h4, h5, h6, h7, h8⟩
    · exact .inl h
    · exact .inr ⟨b, off, cap, cs, T, h1, h2, h3, h4, h5, h6, h7, fun i x hi => (h8 i x hi).re hs⟩
  | .pair a b, vs, (x, y), bs, ⟨b1, b2, h1, h2, h3⟩ => ⟨b1, b2, h1, FreshT.sub hs a h2, FreshT.sub hs b h3⟩
  | .int k, vs, d, bs, ⟨h1, h2⟩ => ⟨h1, h2.re hs⟩
  | .bool, vs, d, bs, ⟨h1, h2⟩ => ⟨h1, h2.re hs⟩
  | .str, vs, d, bs, ⟨h1, h2⟩ => ⟨h1, h2.re hs⟩
  | .unit, vs, d, bs, ⟨h1, h2⟩ => ⟨h1, h2.re hs⟩
  | .fn1 _ _, vs, d, bs, ⟨h1, h2⟩ => ⟨h1, h2.re hs⟩
  | .fn2 _ _ _, vs, d, bs, ⟨h1, h2⟩ => ⟨h1, h2.re hs⟩
  | .seq _, vs, d, bs, ⟨h1, h2⟩ => ⟨h1, h2.re hs⟩
  | .seq2 _ _, vs, d, bs, ⟨h1, h2⟩ => ⟨h1, h2.re hs⟩
  | .map _ _, vs, d, bs, ⟨h1, h2⟩ => ⟨h1, h2.re hs⟩
  | .ptr _, vs, d, bs, ⟨h1, h2⟩ => ⟨h1, h2.re hs⟩
  | .sliceN _, vs, d, bs, ⟨h1, h2⟩ => ⟨h1, h2.re hs⟩

/-- Fresh data are data. -/
theorem FreshT.rep {n : Nat} {ok ok' : Nat → Prop} (hs : Sub w ok ok') (hn : ∀ b, n ≤ b → ok' b) : (t : Ty) → {vs : List Value} → {d : t.den} → {bs : List Nat} → FreshT P n w ok t vs d bs → Rep P t w ok' vs d
  | .slice e, vs, l, bs, h => by
    rcases h with ⟨h1, h2, _⟩ | ⟨b, off, cap, cs, T, h1, h2, h3, h4, h5, h6, h7, h8⟩
    · refine ⟨none, 0, ?_, ?_, .inl h2⟩
      · rw [h1, h2]; rfl
      · rw [h2]; exact Nat.le_refl _
    · refine ⟨some ⟨b, off, none⟩, cap, h1, h5, .inr ⟨b, off, cs, T, _, rfl, hn b h3, h4, ?_, fun i y hi => ?_⟩⟩
      · exact Nat.le_trans (Nat.add_le_add_left (Nat.mul_le_mul_right _ h5) _) h7
      · exact (h8 i y hi).re hs
  | .pair a b, vs, (x, y), bs, ⟨b1, b2, h1, h2, h3⟩ => ⟨FreshT.rep hs hn a h2, FreshT.rep hs hn b h3⟩
  | .int k, vs, d, bs, ⟨h1, h2⟩ => h2.re hs
  | .bool, vs, d, bs, ⟨h1, h2⟩ => h2.re hs
  | .str, vs, d, bs, ⟨h1, h2⟩ => h2.re hs
  | .unit, vs, d, bs, ⟨h1, h2⟩ => h2.re hs
  | .fn1 _ _, vs, d, bs, ⟨h1, h2⟩ => h2.re hs
  | .fn2 _ _ _, vs, d, bs, ⟨h1, h2⟩ => h2.re hs
  | .seq _, vs, d, bs, ⟨h1, h2⟩ => h2.re hs
  | .seq2 _ _, vs, d, bs, ⟨h1, h2⟩ => h2.re hs
  | .map _ _, vs, d, bs, ⟨h1, h2⟩ => h2.re hs
  | .ptr _, vs, d, bs, ⟨h1, h2⟩ => h2.re hs
  | .sliceN _, vs, d, bs, ⟨h1, h2⟩ => h2.re hs

def blk (conc : Conc) (id : Nat) : Option Nat := (conc id).bind fun p => blockOf p.2.1

theorem freshCells_one {n : Nat} {t : Ty} (ht : ∀ w ok vs d bs, FreshT P n w ok t vs d bs ↔ bs = [] ∧ Rep P t w ok vs d) {x : AVal} {r : List AVal} {us : List Value} {q : (t.den × List Nat) × List AVal}
    (hq : (freshOne t x r).run st = some q) (hs : t.sz = 1) (hp : t.isPair = false) (hv : All2 (VRel P w conc (okOf conc)) (x :: r) us) :
    ∃ vs ws bs, us = vs ++ ws ∧ All2 (VRel P w conc (okOf conc)) q.2 ws ∧ vs.length = t.sz ∧ FreshT P n w (okOf conc) t vs q.1.1 bs ∧ bs = q.1.2.filterMap (blk conc) ∧ ∀ id ∈ q.1.2, ∃ cv c, conc id = some (cv, c, true) := by
  unfold freshOne at hq
  split at hq
  · split at hq
    · rename_i y hy
      cases hq
      obtain ⟨e, he⟩ := castTy_some hy
      subst e
      subst he
      match us, hv with
      | v :: us, hv =>
        obtain ⟨zs, h1, h2⟩ := hv.1
        have hl := h2.len
        rw [hs] at hl
        match zs, hl with
        | [z], _ =>
          have : v = z := by rw [h1]; simp [Ty.val, hp]
          subst this
          exact ⟨[v], us, [], rfl, hv.2, by rw [hs]; rfl, (ht _ _ _ _ _).2 ⟨rfl, h2⟩, rfl, fun _ h => (by cases h)⟩
    · cases hq
  · cases hq

theorem freshCells_spec {n : Nat} (h : Mod P w0 conc st a w) (hn : ∀ b, ownedB conc b → n ≤ b) : (t : Ty) → {l : List AVal} → {us : List Value} → {q : (t.den × List Nat) × List AVal} → (freshCells t l).run st = some q → All2 (VRel P w conc (okOf conc)) l us →
    ∃ vs ws bs, us = vs ++ ws ∧ All2 (VRel P w conc (okOf conc)) q.2 ws ∧ vs.length = t.sz ∧ FreshT P n w (okOf conc) t vs q.1.1 bs ∧ bs = q.1.2.filterMap (blk conc) ∧ ∀ id ∈ q.1.2, ∃ cv c, conc id = some (cv, c, true)
  | .slice e, .hand id ver :: r, v :: us, q, hr, hv => by
    simp only [freshCells, RM.run] at hr
    split at hr
    · rename_i cv e' l ho
      obtain ⟨g1, g2⟩ := cond_some hr
      have := nbeq_true g1
      subst this
      split at g2
      · rename_i x hx
        cases g2
        obtain ⟨he, hx⟩ := castTy_some hx
        cases he
        subst hx
        obtain ⟨c, ow, k1, k2⟩ := obj_rel h ho
        obtain ⟨cv', c', ow', m1, m2, mo, m3⟩ := hv.1
        rw [k1] at m1; cases m1
        have hvc := m3 rfl
        subst hvc
        obtain ⟨rfl, k2⟩ := k2
        rcases k2 with ⟨q1, q2⟩ | ⟨b, off, cap, cs, T, q1, q2, q3, q4, q5, q6⟩
        · refine ⟨[v], us, [], rfl, hv.2, rfl, .inl ⟨by rw [q1], q2, rfl⟩, ?_, ?_⟩
          · simp [blk, k1, q1, blockOf]
          · intro j hj; rw [List.mem_singleton] at hj; subst hj; exact ⟨_, _, k1⟩
        · refine ⟨[v], us, [b], rfl, hv.2, rfl, .inr ⟨b, off, cap, cs, T, by rw [q1], rfl, hn b ⟨id, cv, v, k1, by rw [q1]; rfl⟩, q2, q3, q4, q5, q6⟩, ?_, ?_⟩
          · simp [blk, k1, q1, blockOf]
          · intro j hj; rw [List.mem_singleton] at hj; subst hj; exact ⟨_, _, k1⟩
      · cases g2
    · cases hr
  | .slice e, .nils :: r, v :: us, q, hr, hv => by
    cases hr
    have hvn : v = .slice none 0 0 := hv.1
    subst hvn
    exact ⟨[_], us, [], rfl, hv.2, rfl, .inl ⟨rfl, rfl, rfl⟩, rfl, fun _ h => (by cases h)⟩
  | .pair x y, l, us, q, hr, hv => by
    simp only [freshCells] at hr
    obtain ⟨p1, g1, hr⟩ := RM.bind_some hr
    obtain ⟨p2, g2, hr⟩ := RM.bind_some hr
    cases hr
    obtain ⟨vs1, ws1, bs1, e1, e2, e3, e4, e5, e6⟩ := freshCells_spec h hn x g1 hv
    obtain ⟨vs2, ws2, bs2, f1, f2, f3, f4, f5, f6⟩ := freshCells_spec h hn y g2 e2
    refine ⟨vs1 ++ vs2, ws2, bs1 ++ bs2, by rw [e1, f1, List.append_assoc], f2, by simp [Ty.sz, e3, f3], ⟨bs1, bs2, rfl, ?_, ?_⟩, by simp [e5, f5], ?_⟩
    · rw [List.take_left' e3]; exact e4
    · rw [List.drop_left' e3]; exact f4
    · intro id hid
      rcases List.mem_append.1 hid with hid | hid
      · exact e6 id hid
      · exact f6 id hid
  | .int k, x :: r, us, q, hr, hv => freshCells_one (fun _ _ _ _ _ => Iff.rfl) hr rfl rfl hv
  | .bool, x :: r, us, q, hr, hv => freshCells_one (fun _ _ _ _ _ => Iff.rfl) hr rfl rfl hv
  | .str, x :: r, us, q, hr, hv => freshCells_one (fun _ _ _ _ _ => Iff.rfl) hr rfl rfl hv
  | .int k, [], us, q, hr, hv => by cases hr
  | .bool, [], us, q, hr, hv => by cases hr
  | .str, [], us, q, hr, hv => by cases hr
  | .slice e, .hand id ver :: r, [], q, hr, hv => hv.elim
  | .slice e, .nils :: r, [], q, hr, hv => hv.elim
  | .slice e, [], us, q, hr, hv => by cases hr
  | .slice e, .pure _ _ :: r, us, q, hr, hv => by cases hr
  | .slice e, .bptr _ _ _ :: r, us, q, hr, hv => by cases hr
  | .slice e, .pptr _ _ :: r, us, q, hr, hv => by cases hr
  | .slice e, .eptr _ _ _ _ :: r, us, q, hr, hv => by cases hr
  | .slice e, .epart _ _ _ _ _ :: r, us, q, hr, hv => by cases hr
  | .slice e, .fref _ :: r, us, q, hr, hv => by cases hr
  | .slice e, .flt _ :: r, us, q, hr, hv => by cases hr
  | .slice e, .nhand _ _ :: r, us, q, hr, hv => by cases hr
  | .slice e, .nptr _ _ _ _ :: r, us, q, hr, hv => by cases hr
  | .slice e, .nel _ _ _ _ :: r, us, q, hr, hv => by cases hr
  | .slice e, .nelp _ _ _ _ _ :: r, us, q, hr, hv => by cases hr
  | .slice e, .oclo _ _ _ _ _ :: r, us, q, hr, hv => by cases hr
  | .slice e, .junk :: r, us, q, hr, hv => by cases hr
  | .slice e, .yld :: r, us, q, hr, hv => by cases hr
  | .unit, l, us, q, hr, hv => by cases l <;> first | cases hr | (rename_i x r; cases x <;> cases hr)
  | .fn1 _ _, l, us, q, hr, hv => by cases l <;> first | cases hr | (rename_i x r; cases x <;> cases hr)
  | .fn2 _ _ _, l, us, q, hr, hv => by cases l <;> first | cases hr | (rename_i x r; cases x <;> cases hr)
  | .seq _, l, us, q, hr, hv => by cases l <;> first | cases hr | (rename_i x r; cases x <;> cases hr)
  | .seq2 _ _, l, us, q, hr, hv => by cases l <;> first | cases hr | (rename_i x r; cases x <;> cases hr)
  | .map _ _, l, us, q, hr, hv => by cases l <;> first | cases hr | (rename_i x r; cases x <;> cases hr)
  | .ptr _, l, us, q, hr, hv => by cases l <;> first | cases hr | (rename_i x r; cases x <;> cases hr)
  | .sliceN _, l, us, q, hr, hv => by cases l <;> first | cases hr | (rename_i x r; cases x <;> cases hr)

theorem blks_nodup (h : Mod P w0 conc st a w) : {l : List Nat} → l.Nodup → (∀ id ∈ l, ∃ cv c, conc id = some (cv, c, true)) → (l.filterMap (blk conc)).Nodup
  | [], _, _ => List.nodup_nil
  | i :: r, hn, ho => by
    rw [List.nodup_cons] at hn
    have ih := blks_nodup h hn.2 fun id hid => ho id (List.mem_cons_of_mem _ hid)
    rw [List.filterMap_cons]
    split
    · exact ih
    · rename_i b hb
      refine List.nodup_cons.2 ⟨fun hm => ?_, ih⟩
      obtain ⟨j, hj, hbj⟩ := List.mem_filterMap.1 hm
      obtain ⟨cv, c, hc⟩ := ho i List.mem_cons_self
      obtain ⟨cv', c', hc'⟩ := ho j (List.mem_cons_of_mem _ hj)
      simp only [blk, hc, Option.bind_some] at hb
      simp only [blk, hc', Option.bind_some] at hbj
      have := h.inj i j _ _ _ _ b hc hc' (hasB_of hb) (hasB_of hbj)
      subst this
      exact hn.1 hj

theorem freshOf_spec {n : Nat} {ok : Nat → Prop} (h : Mod P w0 conc st a w) (hn : ∀ b, ownedB conc b → n ≤ b) (hnB : ∀ b, n ≤ b → ok b) (hsB : ∀ b, conc.B b → ok b) : (outs : List Ty) → {l : List SVal} → {vs : List Value} → {r : denL outs} → (freshOf outs l).run st = some r → All2 (SRel P w conc (okOf conc)) l vs →
    ∃ v, vs = [v] ∧ ResRep P w ok outs v r ∧ FreshC P n w conc.B outs v r := by
  intro outs l vs r hr hv
  unfold freshOf at hr
  split at hr
  · rename_i e id ver
    match vs, hv with
    | [v], hv =>
      simp only [RM.run] at hr
      split at hr
      · rename_i cv e' l ho
        obtain ⟨g1, g2⟩ := cond_some hr
        have := nbeq_true g1
        subst this
        split at g2
        · rename_i x hx
          cases g2
          obtain ⟨he, hx⟩ := castTy_some hx
          obtain ⟨c, ow, k1, k2⟩ := obj_rel h ho
          obtain ⟨cv', c', ow', m1, m2, mo, m3⟩ := hv.1
          rw [k1] at m1; cases m1
          have hvc := m3 rfl
          subst hvc
          cases he
          subst hx
          obtain ⟨rfl, k2⟩ := k2
          refine ⟨v, rfl, ?_, ?_⟩
          · refine ⟨[v], rfl, ?_⟩
            rcases k2 with ⟨q1, q2⟩ | ⟨b, off, cap, cs, T, q1, q2, q3, q4, q5, q6⟩
            · refine ⟨none, 0, ?_, ?_, .inl q2⟩
              · rw [q1, q2]; rfl
              · rw [q2]; exact Nat.le_refl _
            · refine ⟨some ⟨b, off, none⟩, cap, by rw [q1], q3, .inr ⟨b, off, cs, T, _, rfl, ?_, q2, ?_, fun i y hi => ?_⟩⟩
              · exact hnB b (hn b ⟨id, cv, v, k1, by rw [q1]; rfl⟩)
              · exact Nat.le_trans (Nat.add_le_add_left (Nat.mul_le_mul_right _ q3) _) q5
              · exact (q6 i y hi).re fun b hb _ => hsB b hb.1
          · rcases k2 with q | ⟨b, off, cap, cs, T, q1, q2, q3, q4, q5, q6⟩
            · exact .inl q
            · refine .inr ⟨b, off, cap, cs, T, q1, hn b ⟨id, cv, v, k1, by rw [q1]; rfl⟩, q2, q3, q4, q5, fun i y hi => (q6 i y hi).re fun b' hb' _ => ⟨hb'.1, fun e => ?_⟩⟩
              subst e
              exact hb'.2 id cv v k1 (by rw [q1]; rfl)
        · cases g2
      · cases hr
    | [], hv => exact hv.elim
    | _ :: _ :: _, hv => exact hv.2.elim
  · rename_i e
    match vs, hv with
    | [v], hv =>
      cases hr
      have hvn : v = .slice none 0 0 := hv.1
      subst hvn
      exact ⟨_, rfl, ⟨[_], rfl, Rep.nilS⟩, .inl ⟨rfl, rfl⟩⟩
    | [], hv => exact hv.elim
    | _ :: _ :: _, hv => exact hv.2.elim
  · rename_i x y l
    match vs, hv with
    | [v], hv =>
      obtain ⟨q, g1, g2⟩ := RM.bind_some hr
      obtain ⟨us, hu1, hu2, hu3⟩ := hv.1
      obtain ⟨cs, ws, bs, e1, e2, e3, e4, e5, e6⟩ := freshCells_spec h hn _ g1 hu3
      split at g2
      · rename_i hnil
        obtain ⟨hnd, g3⟩ := cond_some g2
        cases g3
        rw [hnil] at e2
        match ws, e2 with
        | [], _ =>
          rw [List.append_nil] at e1
          subst e1
          have hval : v = (Ty.pair x y).val us := by rw [hu1]; simp [Ty.val, Ty.isPair]
          refine ⟨v, rfl, ⟨us, hval, e4.rep (fun b hb _ => hsB b hb.1) hnB⟩, us, bs, hval, hu2, ?_, e3, e4.sub fun b hb _ => ⟨hb.1, fun hm => ?_⟩⟩
          · rw [e5]; exact blks_nodup h (nodupN_ok hnd) e6
          · rw [e5] at hm
            obtain ⟨id, hid, hbl⟩ := List.mem_filterMap.1 hm
            obtain ⟨cv, c, hc⟩ := e6 id hid
            simp only [blk, hc, Option.bind_some] at hbl
            exact hb.2 id cv c hc (hasB_of hbl)
        | _ :: _, e2 => exact e2.elim
      · cases g2
    | [], hv => exact hv.elim
    | _ :: _ :: _, hv => exact hv.2.elim
  · cases hr

theorem FreshC.sub {n : Nat} {ok ok' : Nat → Prop} (hs : Sub w ok ok') {ts : List Ty} {v : Value} {r : denL ts} (h : FreshC P n w ok ts v r) : FreshC P n w ok' ts v r := by
  unfold FreshC at h ⊢
  split at h
  · rcases h with h | ⟨b, off, cap, cs, T, h1, h2, h3, h4, h5, h6, h7⟩
    · exact .inl h
    · exact .inr ⟨b, off, cap, cs, T, h1, h2, h3, h4, h5, h6, fun i x hi => (h7 i x hi).re fun b' hb' hl => ⟨hs b' hb'.1 hl, hb'.2⟩⟩
  · obtain ⟨vs, bs, h1, h2, h3, h4, h5⟩ := h
    exact ⟨vs, bs, h1, h2, h3, h4, h5.sub fun b' hb' hl => ⟨hs b' hb'.1 hl, hb'.2⟩⟩
  · trivial

theorem resRep_sub {ok ok' : Nat → Prop} (hs : Sub w ok ok') {ts : List Ty} {v : Value} {r : denL ts} (h : ResRep P w ok ts v r) : ResRep P w ok' ts v r := ResRep.mono ⟨Nat.le_refl _, fun _ _ _ => rfl⟩ hs ts h

/-- The deferred calls are fewer. -/
theorem Mod.fewer {s : Start} (h : Mod P s conc st a w) (r : List Deferred) (hS : StartOK { s with ds := r }) : Mod P { s with ds := r } conc st { a with defers := r } w :=
  { defers := rfl, size := h.size, marks := h.marks, slots := h.slots, heap := h.heap, dead := h.dead, inj := h.inj, base := h.base, keeps := ⟨h.keeps.os, h.keeps.tape, h.keeps.output, h.keeps.size, h.keeps.block⟩, cB := h.cB, cY := h.cY, okS := hS, fixed := h.fixed }

/-- A mark is come to. -/
theorem mark_step {s0 s : Start} (hl : LinkR s0 s) (hlo : s0.lo = s0.w.heap.size) (h : Mod P s conc st a w) {d : Deferred} {r : List Deferred} (hd : a.defers = d :: r) :
    ∃ D, d = { target := .collected D, args := #[] } ∧ (Instr.takeDeferred D).run P w = .ok [] (w.putObj D (.deferred none)) ∧ ∃ s', LinkR s0 s' ∧ Models P s' st { a with defers := r } (w.putObj D (.deferred none)) := by
  have hds : s.ds = d :: r := h.defers.symm.trans hd
  obtain ⟨D, e, h1, h2, h3⟩ := h.okS.ds d (by rw [hds]; exact List.mem_cons_self)
  have hlt := (Array.getElem?_eq_some_iff.1 h1).1
  have hD : w.heap[D]? = some (.deferred (some [])) := (h.keeps.block D hlt fun g => h2 (h.okS.mB D g)).trans h1
  have hdn := h.okS.dn
  rw [hds, List.nodup_cons] at hdn
  have hot : ∀ b, b ≠ D → (w.putObj D (.deferred none)).heap[b]? = w.heap[b]? := fun b hb => World.putObj_heap_other hb
  have hsz : (w.putObj D (.deferred none)).heap.size = w.heap.size := by simp
  have hk := h.keeps.size
  refine ⟨D, e, run_takeDeferred hD, ⟨w.putObj D (.deferred none), s.B, ownedB conc, r, s.tmps, s.yl, s.lo⟩, ?_, ?_⟩
  · have l1 := hl.trans h.link.toR
    exact {
      os := l1.os
      tape := l1.tape
      output := l1.output
      size := by
        have := l1.size
        show s0.w.heap.size ≤ (w.putObj D (.deferred none)).heap.size
        have h2 : s0.w.heap.size ≤ w.heap.size := this
        omega
      block := fun b hb hm => (hot b fun g => by
        have := hl.lo
        omega).trans (l1.block b hb hm)
      M := l1.M
      B1 := l1.B1
      B2 := l1.B2
      lo := l1.lo
      tm := l1.tm }
  · have hr : Mod P { s with ds := r } conc st { a with defers := r } w := h.fewer r {
      up := h.okS.up
      mB := h.okS.mB
      ds := fun d' hd' => h.okS.ds d' (by rw [hds]; exact List.mem_cons_of_mem _ hd')
      dn := hdn.2
      lo := h.okS.lo }
    refine ⟨_, Mod.move' hr s.B (by omega) (fun b _ hb => hot b fun g => h2 (by rw [← g, ← h.cB]; exact hb)) (fun b _ hb => by rw [← h.cB]; exact hb) rfl rfl (fun b hb => hb) rfl rfl rfl {
      up := fun b hb => h.okS.up b (by
        have h1 : (w.putObj D (.deferred none)).heap.size ≤ b := hb
        omega)
      mB := fun b ⟨i, v, c, g1, g2⟩ => h.inB g1 g2
      ds := fun d' hd' => by
        obtain ⟨D', e', k1, k2, k3⟩ := h.okS.ds d' (by rw [hds]; exact List.mem_cons_of_mem _ hd')
        have hlt' := (Array.getElem?_eq_some_iff.1 k1).1
        refine ⟨D', e', (hot D' fun g => ?_).trans ((h.keeps.block D' hlt' fun g => k2 (h.okS.mB D' g)).trans k1), k2, k3⟩
        subst g
        exact hdn.1 (by rw [e, ← e']; exact hd')
      dn := hdn.2
      lo := by
        have := h.okS.lo
        show s.lo ≤ (w.putObj D (.deferred none)).heap.size
        omega }⟩

theorem fin_sound (hE : EnvOK P E) {fn : Func} {outs : List Ty} {fresh : Bool} {ex : Exit} {ans : denL outs} {ok : Nat → Prop} {w1 : World} {tm : Array Value} {n : Nat} : ∀ (ds : List Deferred) {s : Start} {a : Act} {w : World}, a.defers = ds →
    LinkR ⟨w1, newOk ok w1, fun _ => False, [], tm, 0, w1.heap.size⟩ s → Models P s st a w → finR E fresh fn.results.toList outs ex st = some ans →
    LeavesInM Fence.wide n P fn a.tmps (fun e w' => ∃ v, e = .returned v ∧ Keeps w1 w' ∧ ResRep P w' (newOk ok w1) outs v ans ∧ (fresh = true → FreshC P w1.heap.size w' (newOk ok w1) outs v ans)) ds .returning w
  | d :: r, s, a, w, hd, hl, ⟨conc, hm⟩, h => by
    obtain ⟨D, e, hrun, s', hl', hm'⟩ := mark_step hl rfl hm hd
    subst e
    exact ⟨by simp, .inl ⟨D, _, rfl, hrun, fin_sound hE r (a := { a with defers := r }) rfl hl' hm' h⟩⟩
  | [], s, a, w, hd, hl, ⟨conc, hm⟩, h => by
    have l1 := hl.trans hm.link.toR
    have hk : Keeps w1 w := ⟨l1.os, l1.tape, l1.output, l1.size, fun b hb => l1.block b hb id⟩
    have hsub : Sub w conc.B (newOk ok w1) := fun b hb _ => by
      rw [hm.cB] at hb
      by_cases hlt : b < w1.heap.size
      · exact hl.B2 b hlt hb
      · exact .inr (by omega)
    have hn : ∀ b, ownedB conc b → w1.heap.size ≤ b := fun b hb => by
      rcases l1.M b hb with g | g
      · exact g.elim
      · exact g
    have key : (bif fresh then ((resOf E fn.results.toList).bind fun l => freshOf outs l).runK st some
      else ((resOf E fn.results.toList).bind fun l => packArgs E outs l).runK st fun x => some x.1) = some ans → ∃ v, (results fn a.tmps).run P w = .ok v w ∧
        ∃ v', Ending.returned v = .returned v' ∧ Keeps w1 w ∧ ResRep P w (newOk ok w1) outs v' ans ∧ (fresh = true → FreshC P w1.heap.size w (newOk ok w1) outs v' ans) := by
      intro h
      cases fresh with
      | true =>
        simp only [cond_true] at h
        rw [RM.runK_eq] at h
        cases hr : ((resOf E fn.results.toList).bind fun l => freshOf outs l).run st with
        | none => rw [hr] at h; cases h
        | some x =>
          rw [hr] at h
          cases h
          obtain ⟨l, g1, g2⟩ := RM.bind_some hr
          obtain ⟨vs, e1, e2, e3⟩ := resOf_spec hE hm g1
          obtain ⟨v, f1, f2, f3⟩ := freshOf_spec (ok := fun b => conc.B b ∨ w1.heap.size ≤ b) hm hn (fun b hb => .inr hb) (fun b hb => .inl hb) outs g2 e2
          refine ⟨_, results_run e1, v, ?_, hk, resRep_sub (fun b hb hlt => ?_) f2, fun _ => f3.sub hsub⟩
          · rw [f1]; rfl
          · rcases hb with hb | hb
            · exact hsub b hb hlt
            · exact .inr hb
      | false =>
        simp only [cond_false] at h
        rw [RM.runK_eq] at h
        cases hr : ((resOf E fn.results.toList).bind fun l => packArgs E outs l).run st with
        | none => rw [hr] at h; cases h
        | some x =>
          rw [hr] at h
          cases h
          obtain ⟨l, g1, g2⟩ := RM.bind_some hr
          obtain ⟨vs, e1, e2, e3⟩ := resOf_spec hE hm g1
          have hp := (packArgs_spec hE hm outs g2 e2 (ids x.2) fun _ h => h).2
          have hp' : ArgsRep P w (newOk ok w1) outs vs x.1 := args_mono (fun b hb hlt => hsub b hb.1 hlt) outs hp
          exact ⟨_, results_run e1, _, rfl, hk, res_of_args outs hp', (fun h => (by cases h))⟩
    cases ex <;> simp only [finR] at h <;> first | exact key h | cases h

/-- What a function's body comes to. -/
def funR (E : Env) (fn : Func) (ins caps outs : List Ty) (fresh : Bool) (O : List (Ev (denL outs))) (x : denL ins) (y : denL caps) : Option (denL outs) :=
  match fn.body with
  | some c => bif Nat.ble (ins.length + caps.length) fn.ntmps then codeR E Hdl.no c O (entry fn.ntmps ins caps x y) (finR E fresh fn.results.toList outs) else none
  | none => none

theorem fun_ok (hE : EnvOK P E) (hP : P.follows .mixedOrders = true) {f : FuncId} {fn : Func} (hf : P.funcs[f]? = some fn) (hn : (fn.name == "runtime.NumGoroutine") = false)
    {ins caps outs : List Ty} {g : denL ins → denL caps → Option (denL outs)} {fresh : Bool} {O : List (Ev (denL outs))} (hO : ∀ c, fn.body = some c → OsOK P (Hdl.no (R := denL outs)) false c O)
    (heq : ∀ x y, funR E fn ins caps outs fresh O x y = g x y) (hb : fn.body.isSome = true) : ConOK P f ⟨ins, caps, outs, g, fresh⟩ := by
  obtain ⟨c, hc⟩ := Option.isSome_iff_exists.1 hb
  refine ⟨⟨fn, hf, hn, by rw [hc]; rfl⟩, ?_⟩
  intro w ok vs cs x y r hx hy hr
  dsimp only at hx hy hr
  rw [← heq] at hr
  unfold funR at hr
  rw [hc] at hr
  dsimp only at hr
  cases hle : Nat.ble (ins.length + caps.length) fn.ntmps with
  | false => rw [hle] at hr; cases hr
  | true =>
    rw [hle] at hr
    simp only [cond_true] at hr
    let s0 : Start := ⟨w, newOk ok w, fun _ => False, [], #[], 0, w.heap.size⟩
    have hI : InvOK P (Hdl.no (R := denL outs)) false (fun s b => b = r ∧ LinkR s0 s) := {
      link := fun s s' b hb hl => ⟨hb.1, hb.2.trans hl.toR⟩
      nods := fun h => absurd rfl h
      fnl := fun _ _ => ⟨s0, r, fun _ _ => Iff.rfl⟩
      yld := fun h => absurd rfl h }
    refine callsIn_wide.1 (callsIn_of_wp_marks (n := 7) hf hc trivial (wpIn_mono (codeR_sound hE hP c O (hO c hc) none rfl _ hI _ _ _ _ _ _ hr (entry_models (Nat.le_of_ble_eq_true hle) hx hy #[]) ⟨rfl, LinkR.refl _⟩) ?_))
    rintro e a' w' ⟨s', ans', st', hm, ⟨rfl, hl⟩, h'⟩
    cases e with
    | normal => exact fin_sound hE a'.defers rfl hl hm h'
    | ret => exact fin_sound (ex := .ret) hE a'.defers rfl hl hm h'
    | exit i => cases h'
    | goto i => cases h'
    | panic c => cases h'
    | outgrown => cases h'

/-! Iterators. -/
def finI {α : Type} : Exit → ASt → Option (List α)
  | .normal, _ => some []
  | .ret, _ => some []
  | _, _ => none

def hdlL (tys : List Ty) : Hdl (List (denL tys)) := ⟨tys, fun x A B => emitL x A B⟩

def iterR (E : Env) (fn : Func) (tys caps : List Ty) (O : List (Ev (List (denL tys)))) (y : denL caps) : Option (List (denL tys)) :=
  match fn.body with
  | some c => bif fn.results.toList.isEmpty && Nat.ble (1 + caps.length) fn.ntmps then codeR E (hdlL tys) c O (entryY fn.ntmps caps y) finI else none
  | none => none

def InvIt {α : Type} (l : Nat) (w1 : World) (ok : Nat → Prop) (xs : List α) (J : Nat → (Nat → Prop) → (Nat → Prop) → World → Prop) (Jx : (Nat → Prop) → (Nat → Prop) → World → Prop) (s : Start) (ans : List α) : Prop :=
  s.ds = [] ∧ s.yl = l ∧ w1.heap.size ≤ s.w.heap.size ∧ ∃ A : Nat → Prop, (∀ b, A b → w1.heap.size ≤ b ∧ b < s.w.heap.size) ∧ (∀ b, s.M b → A b) ∧ (∀ b, b < s.w.heap.size → s.B b → (ok b ∧ b < w1.heap.size) ∨ A b) ∧
    ((∃ k, k ≤ xs.length ∧ xs.drop k = ans ∧ J k A s.M s.w) ∨ (ans = [] ∧ Jx A s.M s.w))

theorem InvIt.link {α : Type} {l : Nat} {w1 : World} {ok : Nat → Prop} {xs : List α} {J : Nat → (Nat → Prop) → (Nat → Prop) → World → Prop} {Jx : (Nat → Prop) → (Nat → Prop) → World → Prop}
    (hJ : ∀ k A S W A' S' W', J k A S W → Steps A S W A' S' W' → J k A' S' W') (hJx : ∀ A S W A' S' W', Jx A S W → Steps A S W A' S' W' → Jx A' S' W')
    {s s' : Start} {ans : List α} (h : InvIt l w1 ok xs J Jx s ans) (hl : Link s s') : InvIt l w1 ok xs J Jx s' ans := by
  obtain ⟨h1, h2, h3, A, h4, h5, h6, h7⟩ := h
  have hsz := hl.size
  have hst : Steps A s.M s.w (fun b => A b ∨ (s.w.heap.size ≤ b ∧ b < s'.w.heap.size)) s'.M s'.w := {
    os := hl.os
    tape := hl.tape
    output := hl.output
    size := hsz
    block := hl.block
    A1 := fun b hb => .inl hb
    A2 := fun b hb => hb.imp id fun g => g.1
    A3 := fun b hb => by
      rcases hb with g | g
      · have := (h4 b g).2; omega
      · exact g.2
    S2 := fun b hb => (hl.M b hb).imp id fun g => g.1
    SA := fun b hb => (hl.M b hb).imp (h5 b) id }
  refine ⟨hl.ds.trans h1, hl.yl.trans h2, by omega, _, fun b hb => ?_, hst.SA, fun b hb hB => ?_, ?_⟩
  · rcases hb with g | g
    · have := h4 b g; omega
    · omega
  · by_cases hlt : b < s.w.heap.size
    · exact (h6 b hlt ((hl.B b).1 hB)).imp id .inl
    · exact .inr (.inr ⟨by omega, hb⟩)
  · rcases h7 with ⟨k, g1, g2, g3⟩ | ⟨g1, g2⟩
    · exact .inl ⟨k, g1, g2, hJ _ _ _ _ _ _ _ g3 hst⟩
    · exact .inr ⟨g1, hJx _ _ _ _ _ _ g2 hst⟩

theorem opt_cond {α : Type} {b : Bool} {x : Option α} {y : α} (h : (bif b then x else none) = some y) : b = true ∧ x = some y := by
  cases b with
  | true => exact ⟨rfl, h⟩
  | false => cases h

theorem emitL_some {α : Type} {x : α} {A B : Option (List α)} {ans : List α} (h : emitL x A B = some ans) : ∃ ys, A = some ys ∧ B = some [] ∧ ans = x :: ys := by
  unfold emitL at h
  cases A with
  | none => cases h
  | some ys =>
    cases B with
    | none => cases h
    | some zs =>
      cases zs with
      | nil => cases h; exact ⟨ys, rfl, rfl, rfl⟩
      | cons _ _ => cases h

theorem iter_seq (hE : EnvOK P E) (hP : P.follows .mixedOrders = true) {tys : List Ty} (hne : tys ≠ []) {AR : World → (Nat → Prop) → Array Value → denL tys → Prop} (hAR : ∀ W o vas x, ArgsRep P W o tys vas x → AR W o vas.toArray x)
    {f : FuncId} {fn : Func} (hf : P.funcs[f]? = some fn) {caps : List Ty} {O : List (Ev (List (denL tys)))} {c : Code} (hc : fn.body = some c) (hO : OsOK P (hdlL tys) false c O)
    {w1 : World} {ok : Nat → Prop} {cs : List Value} {y : denL caps} {xs : List (denL tys)} (hy : CapsRep P w1 ok caps cs y) (hr : iterR E fn tys caps O y = some xs) : SeqOK P AR f cs.toArray w1 ok xs := by
  intro l J Jx hJ hJx hY h0
  unfold iterR at hr
  rw [hc] at hr
  dsimp only at hr
  obtain ⟨g, hr⟩ := opt_cond hr
  simp only [Bool.and_eq_true] at g
  have hres : fn.results.toList = [] := by simpa using g.1
  have hI : InvOK P (hdlL tys) false (InvIt l w1 ok xs J Jx) := {
    link := fun s s' ans h hl => h.link hJ hJx hl
    nods := fun _ s ans h => h.1
    fnl := fun _ h => absurd h hne
    yld := fun _ s ans x A B vas hinv hS he hargs => by
      obtain ⟨ys, rfl, rfl, rfl⟩ := emitL_some he
      obtain ⟨h1, h2, h3, A, h4, h5, h6, h7⟩ := hinv
      rcases h7 with ⟨k, q1, q2, q3⟩ | ⟨q1, _⟩
      · have hlt : k < xs.length := by
          rcases Nat.lt_or_ge k xs.length with q | q
          · exact q
          · rw [List.drop_eq_nil_of_le q] at q2
            cases q2
        rw [List.drop_eq_getElem_cons hlt] at q2
        have q2 := List.cons.inj q2
        have hk : xs[k]? = some x := by rw [List.getElem?_eq_getElem hlt]; exact congrArg some q2.1
        have hAR' : AR s.w (fun b => (ok b ∧ b < w1.heap.size) ∨ (A b ∧ ¬ s.M b)) vas.toArray x := hAR _ _ _ _ (args_mono (fun b hb hlt => (h6 b hlt hb.1).imp id fun g => ⟨g, hb.2⟩) tys hargs)
        obtain ⟨fn1, tm1, as1, bd1, y1, y2⟩ := hY k x A s.M s.w vas.toArray q3 hk h5 h4 h3 hAR'
        rw [h2]
        refine ⟨fn1, tm1, as1, bd1, y1, y2.mono ?_⟩
        rintro e W' ⟨k1, k2⟩
        have hsz := k1.size
        have hA' : ∀ b, A b → w1.heap.size ≤ b ∧ b < W'.heap.size := fun b hb => ⟨(h4 b hb).1, Nat.lt_of_lt_of_le (h4 b hb).2 hsz⟩
        have hB' : ∀ b, b < W'.heap.size → (s.after W').B b → (ok b ∧ b < w1.heap.size) ∨ A b := fun b hb hB => by
          rcases hB with ⟨g1, g2⟩ | g
          · exact h6 b g1 g2
          · omega
        refine ⟨⟨k1.os, k1.tape, k1.output, k1.size, fun b hb hB => k1.block b hb (h6 b hb hB)⟩, ?_⟩
        rcases k2 with ⟨rfl, k2⟩ | ⟨rfl, k2⟩
        · exact ⟨true, rfl, ys, rfl, h1, h2, Nat.le_trans h3 hsz, A, hA', h5, hB', .inl ⟨k + 1, hlt, q2.2, k2⟩⟩
        · exact ⟨false, rfl, [], rfl, h1, h2, Nat.le_trans h3 hsz, A, hA', h5, hB', .inr ⟨rfl, k2⟩⟩
      · cases q1 }
  have hent := entryY_models (P := P) (w := w1) (ok := ok) (N := fn.ntmps) l (Nat.le_of_ble_eq_true g.2) hy #[]
  refine callsIn_wide.1 (callsIn_of_wp (n := 7) hf hc trivial (wpIn_mono (codeR_sound hE hP c O hO none rfl _ hI _ _ _ _ _ _ hr hent
    ⟨rfl, rfl, Nat.le_refl _, fun _ => False, (fun _ h => h.elim), (fun _ h => h.elim), fun b hb hB => ?_, .inl ⟨0, Nat.zero_le _, rfl, h0⟩⟩) ?_))
  · rcases hB with hB | hB
    · exact .inl ⟨hB, hb⟩
    · exact absurd hb (Nat.not_lt.2 hB)
  rintro e a' w' ⟨s', ans', st', ⟨conc, hm⟩, hinv, h'⟩
  have hd : a'.defers = [] := hm.defers.trans hinv.1
  have hfin : InvIt l w1 ok xs J Jx (s'.now conc a' w') ans' := hinv.link hJ hJx hm.link
  have key : ans' = [] → a'.defers = [] ∧ ∃ v, (results fn a'.tmps).run P w' = .ok v w' ∧ ((∃ u, Ending.returned v = .returned u) ∧ ((∃ A S, J xs.length A S w') ∨ ∃ A S, Jx A S w')) := by
    intro ha
    subst ha
    refine ⟨hd, _, results_run (a := a') (vs := []) (by rw [hres]; simp), ⟨_, rfl⟩, ?_⟩
    obtain ⟨h1, h2, h3, A, h4, h5, h6, h7⟩ := hfin
    rcases h7 with ⟨k, q1, q2, q3⟩ | ⟨_, q2⟩
    · have : k = xs.length := by
        have := List.drop_eq_nil_iff.1 q2
        omega
      subst this
      exact .inl ⟨_, _, q3⟩
    · exact .inr ⟨_, _, q2⟩
  cases e with
  | normal => exact key (by cases h'; rfl)
  | ret => exact key (by cases h'; rfl)
  | exit i => cases h'
  | goto i => cases h'
  | panic c => cases h'
  | outgrown => cases h'

theorem iter1_ok (hE : EnvOK P E) (hP : P.follows .mixedOrders = true) {f : FuncId} {fn : Func} (hf : P.funcs[f]? = some fn) (hn : (fn.name == "runtime.NumGoroutine") = false) {e : Ty} {caps : List Ty} {g : denL caps → Option (List e.den)}
    {O : List (Ev (List (denL [e])))} (hO : ∀ c, fn.body = some c → OsOK P (hdlL [e]) false c O) (heq : ∀ y, iterR E fn [e] caps O y = g y) (hb : fn.body.isSome = true) : IConOK P f ⟨caps, .seq e, g⟩ := by
  obtain ⟨c, hc⟩ := Option.isSome_iff_exists.1 hb
  refine ⟨rfl, fun w ok cs y xs hy hx => ?_⟩
  dsimp only at hy hx
  refine ⟨f, cs.toArray, rfl, ⟨fn, hf, hn, by rw [hc]; rfl⟩, fun w' ok' hext hsub => ?_⟩
  exact iter_seq hE hP (tys := [e]) (by simp) (fun W o vas x ⟨us, h1, h2⟩ => ⟨us, by rw [h1], h2⟩) hf hc (hO c hc) (hy.mono hext hsub caps) ((heq y).trans hx)

theorem iter2_ok (hE : EnvOK P E) (hP : P.follows .mixedOrders = true) {f : FuncId} {fn : Func} (hf : P.funcs[f]? = some fn) (hn : (fn.name == "runtime.NumGoroutine") = false) {a b : Ty} {caps : List Ty} {g : denL caps → Option (List (a.den × b.den))}
    {O : List (Ev (List (denL [a, b])))} (hO : ∀ c, fn.body = some c → OsOK P (hdlL [a, b]) false c O) (heq : ∀ y, iterR E fn [a, b] caps O y = g y) (hb : fn.body.isSome = true) : IConOK P f ⟨caps, .seq2 a b, g⟩ := by
  obtain ⟨c, hc⟩ := Option.isSome_iff_exists.1 hb
  refine ⟨rfl, fun w ok cs y xs hy hx => ?_⟩
  dsimp only at hy hx
  refine ⟨f, cs.toArray, rfl, ⟨fn, hf, hn, by rw [hc]; rfl⟩, fun w' ok' hext hsub => ?_⟩
  refine iter_seq hE hP (tys := [a, b]) (by simp) (fun W o vas x hx => ?_) hf hc (hO c hc) (hy.mono hext hsub caps) ((heq y).trans hx)
  obtain ⟨us, r, h1, h2, us', h3, h4⟩ := hx
  exact ⟨us, us', by rw [h1, h3], h2, h4⟩

end Go.Abs

set_option linter.unusedSimpArgs false
set_option linter.unusedVariables false
namespace Go.Abs
open Go
variable {P : Program} {E : Env} {w0 : Start} {w : World} {conc : Conc} {st : ASt} {a : Act}

/-- A variable's cells as they come to a call, with the objects of its slices. -/
structure Came (P : Program) (w : World) (ok : Nat → Prop) (id sz : Nat) (vs hs : List Value) (cells : List AVal) (objs : W) (Z : List NewO) : Prop where
  eq : objs = objsOf Z
  c : Z.map (·.c) = hs
  k : ∀ z ∈ Z, id ≤ z.k ∧ z.k < id + sz ∧ z.ver = 0
  nodup : (Z.map (·.k)).Nodup
  cells : ∀ conc' : Conc, (∀ z ∈ Z, conc' z.k = some (z.ver, z.c, true)) → Sub w ok (okOf conc') → All2 (VRel P w conc' (okOf conc')) cells vs
  objs : ∀ conc' : Conc, Sub w ok (okOf conc') → ∀ z ∈ Z, ORel P w conc' (okOf conc') z.c true z.o

theorem came_one {ok : Nat → Prop} {id sz : Nat} {t : Ty} {d : t.den} {vs hs : List Value} (ht : t.isPair = false) (hs1 : t.sz = 1) (h : hs = [] ∧ Rep P t w ok vs d) : ∃ Z, Came P w ok id sz vs hs [.pure t d] [] Z := by
  obtain ⟨rfl, h2⟩ := h
  exact ⟨[], { eq := rfl, c := rfl, k := (fun z hz => (by cases hz)), nodup := List.nodup_nil, cells := fun conc' _ hsub => explode_one ht hs1 (h2.re' hsub), objs := (fun _ _ z hz => (by cases hz)) }⟩

theorem ocells_spec {ok : Nat → Prop} : (t : Ty) → {id : Nat} → {fl : List Bool} → {vs hs : List Value} → {d : t.den} → OCells P w ok t fl vs d hs → ∃ Z, Came P w ok id t.sz vs hs (ocells id t fl d).1 (ocells id t fl d).2 Z
  | .unit, id, fl, vs, hs, d, h => by
    obtain ⟨rfl, rfl⟩ := h
    refine ⟨[], { eq := ?_, c := rfl, k := (fun z hz => (by cases hz)), nodup := List.nodup_nil, cells := ?_, objs := (fun _ _ z hz => (by cases hz)) }⟩
    · cases fl <;> rfl
    · intro conc' _ _
      cases fl <;> trivial
  | .pair x y, id, fl, vs, hs, d, h => by
    obtain ⟨h1, h2, rfl, a1, a2⟩ := h
    obtain ⟨Z1, N1⟩ := ocells_spec x (id := id) a1
    obtain ⟨Z2, N2⟩ := ocells_spec y (id := id + x.sz) a2
    refine ⟨Z1 ++ Z2, { eq := by simp [ocells, objsOf, N1.eq, N2.eq], c := by simp [N1.c, N2.c], k := ?_, nodup := ?_, cells := ?_, objs := ?_ }⟩
    · intro z hz
      simp only [Ty.sz]
      rcases List.mem_append.1 hz with hz | hz
      · have := N1.k z hz; omega
      · have := N2.k z hz; omega
    · rw [List.map_append, List.nodup_append]
      refine ⟨N1.nodup, N2.nodup, fun i hi j hj e => ?_⟩
      obtain ⟨z, hz, rfl⟩ := List.mem_map.1 hi
      obtain ⟨z', hz', rfl⟩ := List.mem_map.1 hj
      have := N1.k z hz
      have := N2.k z' hz'
      omega
    · intro conc' hc hsub
      have := (N1.cells conc' (fun z hz => hc z (List.mem_append_left _ hz)) hsub).append (N2.cells conc' (fun z hz => hc z (List.mem_append_right _ hz)) hsub)
      rw [List.take_append_drop] at this
      simpa only [ocells] using this
    · intro conc' hsub z hz
      rcases List.mem_append.1 hz with hz | hz
      · exact N1.objs conc' hsub z hz
      · exact N2.objs conc' hsub z hz
  | .slice e, id, true :: fl, vs, hs, d, h => by
    obtain ⟨c, rfl, rfl, hb⟩ := h
    have hone : one c = true := by
      rcases hb with ⟨q, _⟩ | ⟨b, off, cap, cs, T, q, _⟩ <;> rw [q] <;> rfl
    refine ⟨[⟨id, 0, c, .buf e d⟩], { eq := rfl, c := rfl, k := ?_, nodup := by simp, cells := ?_, objs := ?_ }⟩
    · intro z hz; rw [List.mem_singleton] at hz; subst hz; exact ⟨Nat.le_refl _, Nat.lt_succ_self _, rfl⟩
    · intro conc' hc hsub
      exact ⟨⟨_, c, true, hc _ (List.mem_singleton.2 rfl), Nat.le_refl _, hone, fun _ => rfl⟩, trivial⟩
    · intro conc' hsub z hz
      rw [List.mem_singleton] at hz; subst hz
      refine ⟨rfl, ?_⟩
      rcases hb with q | ⟨b, off, cap, cs, T, q1, q2, q3, q4, q5, q6⟩
      · exact .inl q
      · exact .inr ⟨b, off, cap, cs, T, q1, q2, q3, q4, q5, fun i x hi => (q6 i x hi).re' hsub⟩
  | .slice e, id, false :: fl, vs, hs, d, h => came_one rfl rfl h
  | .slice e, id, [], vs, hs, d, h => came_one rfl rfl h
  | .int _, id, fl, vs, hs, d, h => came_one rfl rfl h
  | .bool, id, fl, vs, hs, d, h => came_one rfl rfl h
  | .str, id, fl, vs, hs, d, h => came_one rfl rfl h
  | .fn1 _ _, id, fl, vs, hs, d, h => came_one rfl rfl h
  | .fn2 _ _ _, id, fl, vs, hs, d, h => came_one rfl rfl h
  | .seq _, id, fl, vs, hs, d, h => came_one rfl rfl h
  | .seq2 _ _, id, fl, vs, hs, d, h => came_one rfl rfl h
  | .map _ _, id, fl, vs, hs, d, h => came_one rfl rfl h
  | .ptr _, id, fl, vs, hs, d, h => came_one rfl rfl h
  | .sliceN _, id, fl, vs, hs, d, h => came_one rfl rfl h

/-- The start of such a call. -/
def startO (w : World) (ok : Nat → Prop) (p : Value) (hs : List Value) (tm : Array Value) : Start :=
  ⟨w, fun b => newOk ok w b ∨ hasB (.tuple (p :: hs).toArray) b, fun b => hasB (.tuple (p :: hs).toArray) b, [], tm, 0, w.heap.size⟩

theorem entryO_models {ok : Nat → Prop} {N : Nat} {c : OCon} {p : Value} {d : c.t.den} {hs vs cs : List Value} {x : denL c.ins} {y : denL c.caps} (hN : c.ins.length + c.caps.length + 1 ≤ N) (hpos : c.pos < 4096)
    (hv : OVar P w ok c.t c.own p d hs) (hno : ∀ b, hasB (.tuple (p :: hs).toArray) b → ¬ ok b) (hx : ArgsRep P w ok c.ins vs x) (hy : CapsRep P w ok c.caps cs y) {av : List Value} (hav : av = bif c.clo then vs ++ cs ++ [p] else p :: (vs ++ cs)) :
    Models P (startO w ok p hs (av.toArray ++ Array.replicate (N - av.toArray.size) undef)) (entryO N c d x y) { tmps := av.toArray ++ Array.replicate (N - av.toArray.size) undef, defers := [] } w ∧
      (av.toArray ++ Array.replicate (N - av.toArray.size) undef).getD c.pos undef = p := by
  obtain ⟨b, cs', T, e1, e2, e3, e4, e5, e6⟩ := hv
  obtain ⟨Z, N1⟩ := ocells_spec c.t (id := 4096) e5
  let z0 : NewO := ⟨c.pos, 0, p, .box c.t (ocells 4096 c.t c.own d).1⟩
  have hnd : ((z0 :: Z).map (·.k)).Nodup := by
    rw [List.map_cons, List.nodup_cons]
    refine ⟨fun hm => ?_, N1.nodup⟩
    obtain ⟨z, hz, he⟩ := List.mem_map.1 hm
    have := N1.k z hz
    have he : z.k = c.pos := he
    omega
  have hn1 : ((concsOf (z0 :: Z)).map (·.1)).Nodup := by simpa [concsOf, List.map_map, Function.comp_def] using hnd
  let conc : Conc := ⟨fun j => match Map.get (concsOf (z0 :: Z)) j with
    | some (ver, c) => some (ver, c, true)
    | none => none, fun b => newOk ok w b ∨ hasB (.tuple (p :: hs).toArray) b, 0⟩
  have isZ : ∀ j v c0 ow, conc j = some (v, c0, ow) → ow = true ∧ ∃ z ∈ z0 :: Z, z.k = j ∧ z.ver = v ∧ z.c = c0 := by
    intro j v c0 ow hj
    cases hg : Map.get (concsOf (z0 :: Z)) j with
    | none => simp only [conc, hg] at hj; cases hj
    | some q =>
      obtain ⟨v', c'⟩ := q
      simp only [conc, hg] at hj
      cases hj
      obtain ⟨z, hz, he⟩ := List.mem_map.1 (map_get_mem' hg)
      simp only [Prod.mk.injEq] at he
      exact ⟨rfl, z, hz, he.1, he.2.1, he.2.2⟩
  have atZ : ∀ z ∈ z0 :: Z, conc z.k = some (z.ver, z.c, true) := by
    intro z hz
    have := map_get_nodup hn1 (k := z.k) (v := (z.ver, z.c)) (List.mem_map.2 ⟨z, hz, rfl⟩)
    simp only [conc, this]
  have hcs : (z0 :: Z).map (·.c) = p :: hs := by rw [List.map_cons, N1.c]
  have hone : ∀ v ∈ p :: hs, one v = true ∧ ∀ b', blockOf v = some b' → b' < w.heap.size := by
    intro v hv
    rcases List.mem_cons.1 hv with rfl | hv
    · rw [e1]
      refine ⟨rfl, fun b' hb' => ?_⟩
      cases hb'
      exact (Array.getElem?_eq_some_iff.1 e2).1
    · exact ocells_blk c.t e5 v hv
  have inC : ∀ z ∈ z0 :: Z, z.c ∈ p :: hs := fun z hz => by rw [← hcs]; exact List.mem_map.2 ⟨z, hz, rfl⟩
  have hok : Sub w ok (okOf conc) := by
    intro b' hb' _
    refine ⟨.inl (.inl hb'), fun j v c0 hj hbl => ?_⟩
    obtain ⟨_, z, hz, _, _, rfl⟩ := isZ j v c0 true hj
    exact hno b' (tup_mem.2 ⟨z.c, inC z hz, hasB_one (hone _ (inC z hz)).1 hbl⟩) hb'
  have h1 : All2 (VRel P w conc (okOf conc)) (tupOf c.ins x) vs := (tup_rel (conc := conc) c.ins hx).imp fun a b h => VRel.mono ⟨Nat.le_refl _, fun _ _ _ => rfl⟩ hok (CLe.refl _) a h
  have h2 : All2 (VRel P w conc (okOf conc)) (ptrs (tupOf c.caps y)) cs := (ptrs_rel (conc := conc) c.caps hy).imp fun a b h => VRel.mono ⟨Nat.le_refl _, fun _ _ _ => rfl⟩ hok (CLe.refl _) a h
  have hp : VRel P w conc (okOf conc) (.bptr c.pos 0 0) p := ⟨0, p, true, atZ z0 List.mem_cons_self, Nat.le_refl _, (hone p List.mem_cons_self).1, fun _ => ⟨b, e1, e1⟩⟩
  have h3 : All2 (VRel P w conc (okOf conc)) (c.slots x y) av := by
    rw [hav]
    unfold OCon.slots
    cases c.clo with
    | true => exact (h1.append h2).append ⟨hp, trivial⟩
    | false => exact ⟨hp, h1.append h2⟩
  have hl1 := h1.length
  have hl2 := h2.length
  rw [tupOf_len] at hl1
  rw [ptrs_len, tupOf_len] at hl2
  have hlen : av.length = c.ins.length + c.caps.length + 1 := by
    rw [hav]
    cases c.clo <;> simp <;> omega
  have hget : ∀ {i : Nat} {v : Value}, av[i]? = some v → (av.toArray ++ Array.replicate (N - av.toArray.size) undef)[i]? = some v := by
    intro i v g
    have hlt := (List.getElem?_eq_some_iff.1 g).1
    rw [Array.getElem?_append_left (by simpa using hlt)]
    simpa using g
  have hpp : av[c.pos]? = some p := by
    rw [hav]
    unfold OCon.pos
    cases c.clo with
    | true =>
      simp only [cond_true]
      rw [List.getElem?_append_right (by simp; omega)]
      have : c.ins.length + c.caps.length - (vs ++ cs).length = 0 := by simp; omega
      rw [this]
      rfl
    | false => rfl
  refine ⟨⟨conc, { defers := rfl, size := ?_, marks := ?_, slots := ?_, heap := ?_, dead := ?_, inj := ?_, base := ?_, keeps := ⟨rfl, rfl, rfl, Nat.le_refl _, fun _ _ _ => rfl⟩, cB := rfl, cY := rfl, okS := ?_, fixed := fun _ _ => rfl }⟩, ?_⟩
  · simp [entryO]
    omega
  · intro d' sl hd p' hp'
    obtain ⟨i, a, _, _, e⟩ := number_get _ _ _ hd
    rw [e] at hp'
    cases hp'
  · intro d' sl hd
    obtain ⟨i, a, q1, q2, q3⟩ := number_get _ _ _ hd
    rw [Nat.zero_add] at q1
    subst q1
    obtain ⟨v, g1, g2⟩ := All2.get d' a h3 q2
    exact ⟨v, hget g1, by rw [q3]; exact ⟨fun _ => ⟨rfl, g2⟩, fun hn => absurd (labs_nil _) hn⟩⟩
  · intro j vj oj hj
    have hO : objsOf (z0 :: Z) = (c.pos, (0, .box c.t (ocells 4096 c.t c.own d).1)) :: (ocells 4096 c.t c.own d).2 := by rw [N1.eq]; rfl
    simp only [entryO, ← hO] at hj
    rcases get_setObjs [] (objsOf (z0 :: Z)) j with ⟨g1, g2⟩ | ⟨o', g1, g2⟩
    · rw [g1] at hj; cases hj
    · rw [g1] at hj
      cases hj
      obtain ⟨z, hz, he⟩ := List.mem_map.1 g2
      simp only [Prod.mk.injEq] at he
      obtain ⟨rfl, rfl, rfl⟩ := he
      refine ⟨z.c, true, atZ z hz, ?_⟩
      rcases List.mem_cons.1 hz with rfl | hz
      · have hc2 := N1.cells conc (fun z hz => atZ z (List.mem_cons_of_mem _ hz)) hok
        exact ⟨rfl, b, cs', T, e1, e2, by rw [hc2.length, Array.length_toList, e3], e4, hc2⟩
      · exact N1.objs conc hok z hz
  · intro j hj
    have hO : objsOf (z0 :: Z) = (c.pos, (0, .box c.t (ocells 4096 c.t c.own d).1)) :: (ocells 4096 c.t c.own d).2 := by rw [N1.eq]; rfl
    simp only [entryO, ← hO] at hj
    cases hc : conc j with
    | none => rfl
    | some q =>
      obtain ⟨v, c0, ow⟩ := q
      obtain ⟨_, z, hz, rfl, _, _⟩ := isZ j v c0 ow hc
      have := get_setObjs_nodup (l := objsOf (z0 :: Z)) (by simpa [objsOf, ids, List.map_map, Function.comp_def] using hnd) (h0 := []) (id := z.k) (o := (z.ver, z.o)) (List.mem_map.2 ⟨z, hz, rfl⟩)
      rw [hj] at this
      cases this
  · intro i j vi vj ci cj b' hi hj hbi hbj
    obtain ⟨_, z, hz, rfl, _, rfl⟩ := isZ i vi ci true hi
    obtain ⟨_, z', hz', rfl, _, rfl⟩ := isZ j vj cj true hj
    rw [apart_eq (by rw [hcs]; exact e6) z hz z' hz' b' (hasB_one (hone _ (inC z hz)).1 hbi) (hasB_one (hone _ (inC z' hz')).1 hbj)]
  · intro i vi ci b' hi hb'
    obtain ⟨_, z, hz, rfl, _, rfl⟩ := isZ i vi ci true hi
    have hbo := hasB_one (hone _ (inC z hz)).1 hb'
    exact ⟨.inr (tup_mem.2 ⟨z.c, inC z hz, hbo⟩), (hone _ (inC z hz)).2 b' hbo⟩
  · exact { up := fun b hb => .inl (.inr hb), mB := fun b hb => .inr hb, ds := (fun _ h => (by cases h)), dn := List.nodup_nil, lo := Nat.le_refl _ }
  · rw [Array.getD_eq_getD_getElem?, hget hpp]
    rfl

theorem OCells.sub {ok ok' : Nat → Prop} (hs : Sub w ok ok') : (t : Ty) → {fl : List Bool} → {vs hs' : List Value} → {d : t.den} → OCells P w ok t fl vs d hs' → OCells P w ok' t fl vs d hs'
  | .unit, fl, vs, _, d, h => h
  | .pair x y, fl, vs, _, d, h => by
    obtain ⟨h1, h2, rfl, a1, a2⟩ := h
    exact ⟨h1, h2, rfl, OCells.sub hs x a1, OCells.sub hs y a2⟩
  | .slice e, true :: fl, vs, _, d, h => by
    obtain ⟨c, rfl, rfl, hb⟩ := h
    refine ⟨c, rfl, rfl, ?_⟩
    rcases hb with q | ⟨b, off, cap, cs, T, q1, q2, q3, q4, q5, q6⟩
    · exact .inl q
    · exact .inr ⟨b, off, cap, cs, T, q1, q2, q3, q4, q5, fun i x hi => (q6 i x hi).re' hs⟩
  | .slice e, false :: fl, vs, _, d, h => ⟨h.1, h.2.re' hs⟩
  | .slice e, [], vs, _, d, h => ⟨h.1, h.2.re' hs⟩
  | .int _, fl, vs, _, d, h => ⟨h.1, h.2.re' hs⟩
  | .bool, fl, vs, _, d, h => ⟨h.1, h.2.re' hs⟩
  | .str, fl, vs, _, d, h => ⟨h.1, h.2.re' hs⟩
  | .fn1 _ _, fl, vs, _, d, h => ⟨h.1, h.2.re' hs⟩
  | .fn2 _ _ _, fl, vs, _, d, h => ⟨h.1, h.2.re' hs⟩
  | .seq _, fl, vs, _, d, h => ⟨h.1, h.2.re' hs⟩
  | .seq2 _ _, fl, vs, _, d, h => ⟨h.1, h.2.re' hs⟩
  | .map _ _, fl, vs, _, d, h => ⟨h.1, h.2.re' hs⟩
  | .ptr _, fl, vs, _, d, h => ⟨h.1, h.2.re' hs⟩
  | .sliceN _, fl, vs, _, d, h => ⟨h.1, h.2.re' hs⟩

/-- What such a call leaves behind. -/
def PostO (P : Program) (w : World) (ok : Nat → Prop) (c : OCon) (p : Value) (hs : List Value) (r : c.t.den × denL c.outs) (v : Value) (w' : World) : Prop :=
  KeepsBut (.tuple (p :: hs).toArray) w w' ∧ ResRep P w' (newOk ok w) c.outs v r.2 ∧
    ∃ hs', OVar P w' (fun b => (newOk ok w b ∨ hasB (.tuple (p :: hs).toArray) b) ∧ ¬ hasB (.tuple (p :: hs').toArray) b) c.t c.own p r.1 hs' ∧ ∀ b, hasB (.tuple (p :: hs').toArray) b → hasB (.tuple (p :: hs).toArray) b ∨ w.heap.size ≤ b

theorem finO_sound (hE : EnvOK P E) {fn : Func} {c : OCon} (hflat : c.outs.all Ty.flat = true) {ex : Exit} {ans : c.t.den × denL c.outs} {ok : Nat → Prop} {w1 : World} {p : Value} {hs : List Value} {tm : Array Value} (htm : tm.getD c.pos undef = p) {n : Nat} :
    ∀ (ds : List Deferred) {s : Start} {a : Act} {w : World}, a.defers = ds → LinkR (startO w1 ok p hs tm) s → Models P s st a w → finO E c fn.results.toList ex st = some ans →
    LeavesInM Fence.wide n P fn a.tmps (fun e w' => ∃ v, e = .returned v ∧ PostO P w1 ok c p hs ans v w') ds .returning w
  | d :: r, s, a, w, hd, hl, ⟨conc, hm⟩, h => by
    obtain ⟨D, e, hrun, s', hl', hm'⟩ := mark_step hl rfl hm hd
    subst e
    exact ⟨by simp, .inl ⟨D, _, rfl, hrun, finO_sound hE hflat htm r (a := { a with defers := r }) rfl hl' hm' h⟩⟩
  | [], s, a, w, hd, hl, ⟨conc, hm⟩, h => by
    have l1 := hl.trans hm.link.toR
    have hk : KeepsBut (.tuple (p :: hs).toArray) w1 w := ⟨l1.os, l1.tape, l1.output, l1.size, fun b hb hn => l1.block b hb hn⟩
    have hown : ∀ b, ownedB conc b → hasB (.tuple (p :: hs).toArray) b ∨ w1.heap.size ≤ b := fun b hb => l1.M b hb
    have key : (bif isIn st.fixed c.pos then (backO E c fn.results.toList).runK st some else none) = some ans → ∃ v, (results fn a.tmps).run P w = .ok v w ∧
        ∃ v', Ending.returned v = .returned v' ∧ PostO P w1 ok c p hs ans v' w := by
      intro h
      obtain ⟨hfx, h⟩ := opt_cond h
      rw [RM.runK_eq] at h
      cases hr : (backO E c fn.results.toList).run st with
      | none => rw [hr] at h; cases h
      | some x =>
        rw [hr] at h
        cases h
        unfold backO at hr
        obtain ⟨l, g1, hr⟩ := RM.bind_some hr
        obtain ⟨r, g2, hr⟩ := RM.bind_some hr
        split at hr
        · rename_i hnil
          obtain ⟨b, g3, hr⟩ := RM.bind_some hr
          split at hr
          · rename_i id ver off
            simp only [RM.run] at hr
            split at hr
            · rename_i cv t cells ho
              obtain ⟨g4, hr1⟩ := cond_some hr
              clear hr
              simp only [Bool.and_eq_true] at g4
              have := nbeq_true g4.1
              subst this
              have := nbeq_true g4.2
              subst this
              split at hr1
              · rename_i ht
                subst ht
                obtain ⟨q, g5, hr2⟩ := RM.bind_some hr1
                obtain ⟨g6, hr3⟩ := cond_some hr2
                cases hr3
                obtain ⟨vs, e1, e2, e3⟩ := resOf_spec hE hm g1
                have hp := (packArgs_spec hE hm c.outs g2 e2 [] (fun i hi => by rw [hnil] at hi; cases hi)).2
                have hpv : a.eval (.tmp c.pos) = p := by
                  have f1 := hm.fixed c.pos (isIn_mem hfx)
                  have f2 : s.tmps = tm := hl.tm
                  rw [← htm]
                  simp only [Act.eval, Array.getD_eq_getD_getElem?, f1, f2]
                have hvp := rdA_rel hm (labs_nil _) g3
                rw [hpv] at hvp
                obtain ⟨hs', ⟨b, cs, T, k1, k2, k3, k4, k5, k6⟩, hid, hids⟩ := ovar_of hE hm ho hvp g5 (nodupN_ok g6)
                have hmem : ∀ v ∈ p :: hs', ∃ j cv, conc j = some (cv, v, true) := by
                  intro v hv
                  rcases List.mem_cons.1 hv with rfl | hv
                  · exact ⟨id, _, hid⟩
                  · obtain ⟨j, _, cv', _, _, g, _⟩ := hids.right v hv
                    exact ⟨j, cv', g⟩
                have hsub : Sub w (okOf conc) (fun b => (newOk ok w1 b ∨ hasB (.tuple (p :: hs).toArray) b) ∧ ¬ hasB (.tuple (p :: hs').toArray) b) := by
                  intro b' hb' _
                  refine ⟨?_, fun ho => ?_⟩
                  · have hB := hb'.1
                    rw [hm.cB] at hB
                    by_cases hlt : b' < w1.heap.size
                    · exact hl.B2 b' hlt hB
                    · exact .inl (.inr (by omega))
                  · obtain ⟨v, hv, hbv⟩ := tup_mem.1 ho
                    obtain ⟨j, cv', g⟩ := hmem v hv
                    exact hb'.2 j cv' v g (hasB_of hbv)
                refine ⟨_, results_run e1, _, rfl, hk, ResRep.flat c.outs hflat (res_of_args c.outs hp), hs', ⟨b, cs, T, k1, k2, k3, k4, k5.sub hsub c.t, k6⟩, fun b' hb' => ?_⟩
                obtain ⟨v, hv, hbv⟩ := tup_mem.1 hb'
                obtain ⟨j, cv', g⟩ := hmem v hv
                exact hown b' ⟨j, cv', v, g, hasB_of hbv⟩
              · cases hr1
            · cases hr
          · cases hr
        · cases hr
    cases ex <;> simp only [finO] at h <;> first | exact key h | cases h

/-- What a function's body comes to. -/
def funRO (E : Env) (fn : Func) (c : OCon) (O : List (Ev (c.t.den × denL c.outs))) (d : c.t.den) (x : denL c.ins) (y : denL c.caps) : Option (c.t.den × denL c.outs) :=
  match fn.body with
  | some b => bif Nat.ble (c.ins.length + c.caps.length + 1) fn.ntmps && Nat.blt c.pos 4096 then codeR E Hdl.no b O (entryO fn.ntmps c d x y) (finO E c fn.results.toList) else none
  | none => none

theorem fun_okO (hE : EnvOK P E) (hP : P.follows .mixedOrders = true) {f : FuncId} {fn : Func} (hf : P.funcs[f]? = some fn) (hn : (fn.name == "runtime.NumGoroutine") = false)
    {c : OCon} (hflat : c.outs.all Ty.flat = true) {O : List (Ev (c.t.den × denL c.outs))} (hO : ∀ b, fn.body = some b → OsOK P (Hdl.no (R := c.t.den × denL c.outs)) false b O)
    (heq : ∀ d x y, funRO E fn c O d x y = c.fn d x y) (hb : fn.body.isSome = true) : OConOK P f c := by
  obtain ⟨b, hc⟩ := Option.isSome_iff_exists.1 hb
  refine ⟨⟨fn, hf, hn, by rw [hc]; rfl⟩, hflat, ?_⟩
  intro w ok p d hs vs cs x y r hv hno hx hy hr
  rw [← heq] at hr
  unfold funRO at hr
  rw [hc] at hr
  dsimp only at hr
  cases hle : (Nat.ble (c.ins.length + c.caps.length + 1) fn.ntmps && Nat.blt c.pos 4096) with
  | false => rw [hle] at hr; cases hr
  | true =>
    rw [hle] at hr
    simp only [cond_true] at hr
    simp only [Bool.and_eq_true] at hle
    have hpos : c.pos < 4096 := Nat.le_of_ble_eq_true hle.2
    obtain ⟨hm, htm⟩ := entryO_models (Nat.le_of_ble_eq_true hle.1) hpos hv hno hx hy (av := bif c.clo then vs ++ cs ++ [p] else p :: (vs ++ cs)) rfl
    have hI : InvOK P (Hdl.no (R := c.t.den × denL c.outs)) false (fun s b => b = r ∧ LinkR (startO w ok p hs ((bif c.clo then vs ++ cs ++ [p] else p :: (vs ++ cs)).toArray ++ Array.replicate (fn.ntmps - (bif c.clo then vs ++ cs ++ [p] else p :: (vs ++ cs)).toArray.size) undef)) s) := {
      link := fun s s' b hb hl => ⟨hb.1, hb.2.trans hl.toR⟩
      nods := fun h => absurd rfl h
      fnl := fun _ _ => ⟨_, r, fun _ _ => Iff.rfl⟩
      yld := fun h => absurd rfl h }
    refine callsIn_wide.1 (callsIn_of_wp_marks (n := 7) hf hc trivial (wpIn_mono (codeR_sound hE hP b O (hO b hc) none rfl _ hI _ _ _ _ _ _ hr hm ⟨rfl, LinkR.refl _⟩) ?_))
    rintro e a' w' ⟨s', ans', st', hm', ⟨rfl, hl⟩, h'⟩
    have fin := fun {ex : Exit} (h' : finO E c fn.results.toList ex st' = some ans') => finO_sound (n := 7) (fn := fn) hE hflat htm a'.defers rfl hl hm' h'
    cases e with
    | normal => exact fin h'
    | ret => exact fin (ex := .ret) h'
    | exit i => cases h'
    | goto i => cases h'
    | panic c => cases h'
    | outgrown => cases h'

end Go.Abs

set_option linter.unusedSimpArgs false
set_option linter.unusedVariables false
namespace Go.Abs
open Go
variable {P : Program} {w : World}

def partOK (P : Program) (T : Nat) (t : Ty) : Bool :=
  bif t.isPair then (match P.underlying T with
    | some (.struct _) => true
    | some (.array _ _) => true
    | _ => false) && (match P.info? T with
    | some i => Nat.beq i.size t.sz
    | none => false)
  else P.plainKey T && !t.isUnit

theorem chunk_take {l : List Value} {off a b : Nat} : (chunk l off (a + b)).take a = chunk l off a := by
  unfold chunk
  rw [List.take_take, Nat.min_eq_left (by omega)]
theorem chunk_drop {l : List Value} {off a b : Nat} : (chunk l off (a + b)).drop a = chunk l (off + a) b := by
  unfold chunk
  rw [List.drop_take, List.drop_drop, show a + b - a = b by omega]

theorem part_run {T : Nat} {t : Ty} (h : partOK P T t = true) {ok : Nat → Prop} {xs : Array Value} {off : Nat} {d : t.den} (hr : Rep P t w ok (chunk xs.toList off t.sz) d) :
    (Go.part T xs off).run P w = .ok (t.val (chunk xs.toList off t.sz)) w := by
  unfold partOK at h
  cases hp : t.isPair
  · rw [hp] at h
    simp only [cond_false, Bool.and_eq_true, Bool.not_eq_true'] at h
    have hu : t ≠ .unit := fun e => by rw [e] at h; cases h.2
    have hl := hr.len
    have h1 := sz_one hp hu
    rw [h1] at hl ⊢
    match hc : chunk xs.toList off 1, hl with
    | [v], _ =>
      have hg : (chunk xs.toList off 1)[0]? = some v := by rw [hc]; rfl
      obtain ⟨_, hx⟩ := chunk_get hg
      rw [Nat.add_zero, Array.getElem?_toList] at hx
      have : t.val [v] = v := by unfold Ty.val; rw [hp]; rfl
      rw [this]
      exact run_part_plain w h.1 hx
  · rw [hp] at h
    simp only [cond_true, Bool.and_eq_true] at h
    obtain ⟨h1, h2⟩ := h
    cases hi : P.info? T with
    | none => rw [hi] at h2; cases h2
    | some i =>
      rw [hi] at h2
      have hs := nbeq_true h2
      have hsz : (sizeOf T).run P w = .ok t.sz w := by simp [sizeOf, typeInfo, hi, hs]
      have hagg : (isAgg T).run P w = .ok true w := by
        unfold isAgg
        split at h1
        · rename_i fs hu
          rw [Sem.run_bind, run_underlying hu]; rfl
        · rename_i n e hu
          rw [Sem.run_bind, run_underlying hu]; rfl
        · cases h1
      have : t.val (chunk xs.toList off t.sz) = .agg (xs.extract off (off + t.sz)) := by
        unfold Ty.val
        rw [hp]
        simp only [if_true]
        congr 1
        apply Array.ext'
        rw [Array.toList_extract]
        simp [List.extract, chunk]
      rw [this]
      simp [Go.part, hagg, hsz]

/-- Two pieces of data of a type, compared. -/
def EqT (P : Program) (dd T : Nat) (t : Ty) : Prop :=
  ∀ (w : World) ok vs us x y, Rep P t w ok vs x → Rep P t w ok us y → (Op.equalIn dd T (t.val vs) (t.val us)).run P w = .ok (t.beq x y) w

/-- A key of a map is looked at. -/
def ChkT (P : Program) (dd T : Nat) (t : Ty) : Prop :=
  ∀ (w : World) ok vs x b, Rep P t w ok vs x → (Instr.checkKey b dd T (t.val vs)).run P w = .ok () w

def chkF (rec : Nat → Ty → Bool) (P : Program) : List Field → Nat → Ty → Bool
  | [f], off, t => f.name != "_" && Nat.beq f.offset off && partOK P f.type t && rec f.type t
  | f :: g :: r, off, .pair a b => f.name != "_" && Nat.beq f.offset off && partOK P f.type a && rec f.type a && chkF rec P (g :: r) (off + a.sz) b
  | _, _, _ => false

def chkEq (P : Program) : Nat → Nat → Ty → Bool
  | 0, _, _ => false
  | d + 1, T, t => match P.underlying T with
    | some (.int k) => decide (t = .int k)
    | some .bool => decide (t = .bool)
    | some .string => decide (t = .str)
    | some (.struct fs) => t.isPair && !P.stoodInHeld T && chkF (chkEq P d) P fs.toList 0 t
    | some (.array n T') => match t with
      | .pair e _ => decide (t = Ty.arr e n) && partOK P T' e && chkEq P d T' e && (match P.info? T' with
        | some i => Nat.beq i.size e.sz
        | none => false)
      | _ => false
    | _ => false

theorem beq_bytes (x y : List UInt8) : ((⟨⟨x⟩⟩ : ByteArray) == ⟨⟨y⟩⟩) = (x == y) := by
  rw [beq_toListBytes, ByteArray.toList_eq, ByteArray.toList_eq]

section
variable {dd : Nat}

theorem eqFields_run {rec : Nat → Ty → Bool} (hrec : ∀ T t, rec T t = true → EqT P dd T t) (w : World) {ok : Nat → Prop} {xs ys : Array Value} : ∀ (fs : List Field) (off : Nat) (t : Ty) {x y : t.den}, chkF rec P fs off t = true →
    Rep P t w ok (chunk xs.toList off t.sz) x → Rep P t w ok (chunk ys.toList off t.sz) y → (Op.eqFields dd xs ys fs).run P w = .ok (t.beq x y) w
  | [], _, _, _, _, h, _, _ => by simp [chkF] at h
  | [f], off, t, x, y, h, hx, hy => by
    simp only [chkF, Bool.and_eq_true, bne_iff_ne, ne_eq] at h
    obtain ⟨⟨⟨hn, ho⟩, hp⟩, hr⟩ := h
    have ho := nbeq_true ho
    rw [← ho] at hx hy
    simp only [Op.eqFields, hn, ne_eq, not_false_eq_true, if_true, Sem.run_bind, part_run hp hx, part_run hp hy, Result.andThen_ok, hrec _ _ hr w ok _ _ x y hx hy]
    cases t.beq x y <;> simp
  | f :: g :: r, off, .pair a b, (x, x'), (y, y'), h, hx, hy => by
    simp only [chkF, Bool.and_eq_true, bne_iff_ne, ne_eq] at h
    obtain ⟨⟨⟨⟨hn, ho⟩, hp⟩, hr⟩, hrest⟩ := h
    have ho := nbeq_true ho
    obtain ⟨hx1, hx2⟩ := hx
    obtain ⟨hy1, hy2⟩ := hy
    simp only [Ty.sz] at hx1 hx2 hy1 hy2
    rw [chunk_take] at hx1 hy1
    rw [chunk_drop] at hx2 hy2
    rw [← ho] at hx1 hy1
    have ih := eqFields_run hrec w (g :: r) (off + a.sz) b hrest hx2 hy2
    rw [Op.eqFields]
    simp only [hn, ne_eq, not_false_eq_true, if_true, Sem.run_bind, part_run hp hx1, part_run hp hy1, Result.andThen_ok, hrec _ _ hr w ok _ _ x y hx1 hy1, Ty.beq]
    cases a.beq x y
    · simp
    · simpa using ih
  | _ :: _ :: _, _, .int _, _, _, h, _, _ => by simp [chkF] at h
  | _ :: _ :: _, _, .bool, _, _, h, _, _ => by simp [chkF] at h
  | _ :: _ :: _, _, .str, _, _, h, _, _ => by simp [chkF] at h
  | _ :: _ :: _, _, .unit, _, _, h, _, _ => by simp [chkF] at h
  | _ :: _ :: _, _, .slice _, _, _, h, _, _ => by simp [chkF] at h
  | _ :: _ :: _, _, .fn1 _ _, _, _, h, _, _ => by simp [chkF] at h
  | _ :: _ :: _, _, .fn2 _ _ _, _, _, h, _, _ => by simp [chkF] at h
  | _ :: _ :: _, _, .seq _, _, _, h, _, _ => by simp [chkF] at h
  | _ :: _ :: _, _, .seq2 _ _, _, _, h, _, _ => by simp [chkF] at h
  | _ :: _ :: _, _, .map _ _, _, _, h, _, _ => by simp [chkF] at h
  | _ :: _ :: _, _, .ptr _, _, _, h, _, _ => by simp [chkF] at h
  | _ :: _ :: _, _, .sliceN _, _, _, h, _, _ => by simp [chkF] at h

theorem chkFields_run {rec : Nat → Ty → Bool} (hrec : ∀ T t, rec T t = true → ChkT P dd T t) (em : Bool) (w : World) {ok : Nat → Prop} {xs : Array Value} : ∀ (fs : List Field) (off : Nat) (t : Ty) {x : t.den}, chkF rec P fs off t = true →
    Rep P t w ok (chunk xs.toList off t.sz) x → (forIn (m := Sem) fs PUnit.unit fun f _ => if f.name ≠ "_" then (do Instr.checkKey em dd f.type (← Go.part f.type xs f.offset); pure (ForInStep.yield PUnit.unit)) else pure (ForInStep.yield PUnit.unit)).run P w = .ok PUnit.unit w
  | [], _, _, _, h, _ => by simp [chkF] at h
  | [f], off, t, x, h, hx => by
    simp only [chkF, Bool.and_eq_true, bne_iff_ne, ne_eq] at h
    obtain ⟨⟨⟨hn, ho⟩, hp⟩, hr⟩ := h
    have ho := nbeq_true ho
    rw [← ho] at hx
    simp only [List.forIn_cons, hn, ne_eq, not_false_eq_true, if_true, Sem.run_bind, part_run hp hx, Result.andThen_ok, hrec _ _ hr w ok _ x em hx, Sem.run_pure, List.forIn_nil]
  | f :: g :: r, off, .pair a b, (x, x'), h, hx => by
    simp only [chkF, Bool.and_eq_true, bne_iff_ne, ne_eq] at h
    obtain ⟨⟨⟨⟨hn, ho⟩, hp⟩, hr⟩, hrest⟩ := h
    have ho := nbeq_true ho
    obtain ⟨hx1, hx2⟩ := hx
    simp only [Ty.sz] at hx1 hx2
    rw [chunk_take] at hx1
    rw [chunk_drop] at hx2
    rw [← ho] at hx1
    have ih := chkFields_run hrec em w (g :: r) (off + a.sz) b hrest hx2
    rw [List.forIn_cons]
    simp only [hn, ne_eq, not_false_eq_true, if_true, Sem.run_bind, part_run hp hx1, Result.andThen_ok, hrec _ _ hr w ok _ x em hx1, Sem.run_pure]
    exact ih
  | _ :: _ :: _, _, .int _, _, h, _ => by simp [chkF] at h
  | _ :: _ :: _, _, .bool, _, h, _ => by simp [chkF] at h
  | _ :: _ :: _, _, .str, _, h, _ => by simp [chkF] at h
  | _ :: _ :: _, _, .unit, _, h, _ => by simp [chkF] at h
  | _ :: _ :: _, _, .slice _, _, h, _ => by simp [chkF] at h
  | _ :: _ :: _, _, .fn1 _ _, _, h, _ => by simp [chkF] at h
  | _ :: _ :: _, _, .fn2 _ _ _, _, h, _ => by simp [chkF] at h
  | _ :: _ :: _, _, .seq _, _, h, _ => by simp [chkF] at h
  | _ :: _ :: _, _, .seq2 _ _, _, h, _ => by simp [chkF] at h
  | _ :: _ :: _, _, .map _ _, _, h, _ => by simp [chkF] at h
  | _ :: _ :: _, _, .ptr _, _, h, _ => by simp [chkF] at h
  | _ :: _ :: _, _, .sliceN _, _, h, _ => by simp [chkF] at h

theorem arr_sz (e : Ty) : ∀ n, (Ty.arr e n).sz = n * e.sz
  | 0 => by simp [Ty.arr, Ty.sz]
  | 1 => by simp [Ty.arr]
  | n + 2 => by
    simp only [Ty.arr, Ty.sz, arr_sz e (n + 1)]
    rw [Nat.succ_mul (n + 1)]; omega

theorem eqItems_run {T' : Nat} {e : Ty} (hp : partOK P T' e = true) (hr : EqT P dd T' e) (w : World) {ok : Nat → Prop} {xs ys : Array Value} : ∀ (k i : Nat) {x y : (Ty.arr e (k + 1)).den},
    Rep P (Ty.arr e (k + 1)) w ok (chunk xs.toList (i * e.sz) (Ty.arr e (k + 1)).sz) x → Rep P (Ty.arr e (k + 1)) w ok (chunk ys.toList (i * e.sz) (Ty.arr e (k + 1)).sz) y →
    (Op.eqItems dd T' e.sz xs ys (List.range' i (k + 1))).run P w = .ok ((Ty.arr e (k + 1)).beq x y) w
  | 0, i, x, y, hx, hy => by
    have hx : Rep P e w ok (chunk xs.toList (i * e.sz) e.sz) x := hx
    have hy : Rep P e w ok (chunk ys.toList (i * e.sz) e.sz) y := hy
    simp only [List.range'_succ, List.range'_zero, Op.eqItems, Sem.run_bind, part_run hp hx, part_run hp hy, Result.andThen_ok, hr w ok _ _ x y hx hy]
    show _ = Result.ok (e.beq x y) w
    cases e.beq x y <;> simp
  | k + 1, i, (x, x'), (y, y'), hx, hy => by
    obtain ⟨hx1, hx2⟩ := hx
    obtain ⟨hy1, hy2⟩ := hy
    simp only [Ty.arr, Ty.sz] at hx1 hx2 hy1 hy2
    rw [chunk_take] at hx1 hy1
    rw [chunk_drop] at hx2 hy2
    rw [← Nat.succ_mul] at hx2 hy2
    have ih := eqItems_run hp hr w k (i + 1) hx2 hy2
    rw [List.range'_succ, Op.eqItems]
    simp only [Sem.run_bind, part_run hp hx1, part_run hp hy1, Result.andThen_ok, hr w ok _ _ x y hx1 hy1]
    show _ = Result.ok (e.beq x y && (Ty.arr e (k + 1)).beq x' y') w
    cases e.beq x y
    · simp
    · simpa using ih

theorem chkItems_run {T' : Nat} {e : Ty} (hp : partOK P T' e = true) (hr : ChkT P dd T' e) (hs : ∀ w : World, (sizeOf T').run P w = .ok e.sz w) (em : Bool) (w : World) {ok : Nat → Prop} {xs : Array Value} : ∀ (k i : Nat) {x : (Ty.arr e (k + 1)).den},
    Rep P (Ty.arr e (k + 1)) w ok (chunk xs.toList (i * e.sz) (Ty.arr e (k + 1)).sz) x →
    (forIn (m := Sem) (List.range' i (k + 1)) PUnit.unit fun i _ => do Instr.checkKey em dd T' (← Go.part T' xs (i * (← sizeOf T'))); pure (ForInStep.yield PUnit.unit)).run P w = .ok PUnit.unit w
  | 0, i, x, hx => by
    have hx : Rep P e w ok (chunk xs.toList (i * e.sz) e.sz) x := hx
    simp only [List.range'_succ, List.range'_zero, List.forIn_cons, Sem.run_bind, hs, part_run hp hx, Result.andThen_ok, hr w ok _ x em hx, Sem.run_pure, List.forIn_nil]
  | k + 1, i, (x, x'), hx => by
    obtain ⟨hx1, hx2⟩ := hx
    simp only [Ty.arr, Ty.sz] at hx1 hx2
    rw [chunk_take] at hx1
    rw [chunk_drop] at hx2
    rw [← Nat.succ_mul] at hx2
    have ih := chkItems_run hp hr hs em w k (i + 1) hx2
    rw [List.range'_succ, List.forIn_cons]
    simp only [Sem.run_bind, hs, part_run hp hx1, Result.andThen_ok, hr w ok _ x em hx1, Sem.run_pure]
    exact ih
end

theorem chunk_all (vs : Array Value) (t : Ty) {ok : Nat → Prop} {x : t.den} (h : Rep P t w ok vs.toList x) : chunk vs.toList 0 t.sz = vs.toList := by
  unfold chunk
  rw [List.drop_zero, List.take_of_length_le]
  have := h.len
  omega

theorem pair_val {t : Ty} (hp : t.isPair = true) (vs : List Value) : t.val vs = .agg vs.toArray := by
  unfold Ty.val; rw [hp]; rfl

theorem arr_ne {a b e : Ty} {n : Nat} (h : Ty.pair a b = Ty.arr e n) (hn : e.sz ≠ 0 ∨ True) : 1 ≤ n := by
  cases n with
  | zero => cases h
  | succ n => omega

theorem chkEq_ok : ∀ (d : Nat) (T : Nat) (t : Ty), chkEq P d T t = true → ∀ m, EqT P (m + d) T t ∧ ChkT P (m + d) T t
  | 0, _, _, h, _ => by simp [chkEq] at h
  | d + 1, T, t, h, m => by
    unfold chkEq at h
    split at h
    · rename_i k hu
      have ht := of_decide_eq_true h
      subst ht
      refine ⟨fun w ok vs us x y hx hy => ?_, fun w ok vs x b hx => ?_⟩
      · simp only [Rep] at hx hy
        subst hx
        subst hy
        show (Op.equalIn (m + d + 1) T (.int k x) (.int k y)).run P w = .ok (x == y) w
        simp [Op.equalIn, run_underlying hu]
      · simp only [Rep] at hx
        subst hx
        show (Instr.checkKey b (m + d + 1) T (.int k x)).run P w = _
        simp only [Instr.checkKey, Sem.run_bind, run_underlying hu, Result.andThen_ok]
        rfl
    · rename_i hu
      have ht := of_decide_eq_true h
      subst ht
      refine ⟨fun w ok vs us x y hx hy => ?_, fun w ok vs x b hx => ?_⟩
      · simp only [Rep] at hx hy
        subst hx
        subst hy
        show (Op.equalIn (m + d + 1) T (.bool x) (.bool y)).run P w = .ok (x == y) w
        simp [Op.equalIn, run_underlying hu]
      · simp only [Rep] at hx
        subst hx
        show (Instr.checkKey b (m + d + 1) T (.bool x)).run P w = _
        simp only [Instr.checkKey, Sem.run_bind, run_underlying hu, Result.andThen_ok]
        rfl
    · rename_i hu
      have ht := of_decide_eq_true h
      subst ht
      refine ⟨fun w ok vs us x y hx hy => ?_, fun w ok vs x b hx => ?_⟩
      · simp only [Rep] at hx hy
        subst hx
        subst hy
        show (Op.equalIn (m + d + 1) T (.string ⟨⟨x⟩⟩) (.string ⟨⟨y⟩⟩)).run P w = .ok (x == y) w
        simp only [Op.equalIn, Sem.run_bind, run_underlying hu, Result.andThen_ok, beq_bytes, Sem.run_pure]
      · simp only [Rep] at hx
        subst hx
        show (Instr.checkKey b (m + d + 1) T (.string ⟨⟨x⟩⟩)).run P w = _
        simp only [Instr.checkKey, Sem.run_bind, run_underlying hu, Result.andThen_ok]
        rfl
    · rename_i fs hu
      simp only [Bool.and_eq_true, Bool.not_eq_true'] at h
      obtain ⟨⟨hp, hst⟩, hF⟩ := h
      have hfs : P.fieldsOf T = fs := by simp [Program.fieldsOf, hu]
      refine ⟨fun w ok vs us x y hx hy => ?_, fun w ok vs x b hx => ?_⟩
      · rw [pair_val hp, pair_val hp, show m + (d + 1) = (m + d) + 1 from rfl, run_equalIn_struct w (m + d) T _ _ (by rw [hfs]; exact hu) hst, hfs]
        refine eqFields_run (ok := ok) (fun T t ht => (chkEq_ok d T t ht m).1) w fs.toList 0 t hF ?_ ?_
        · rw [chunk_all (ok := ok) (x := x) vs.toArray t hx]; exact hx
        · rw [chunk_all (ok := ok) (x := y) us.toArray t hy]; exact hy
      · rw [pair_val hp, show m + (d + 1) = (m + d) + 1 from rfl, Instr.checkKey]
        simp only [Sem.run_bind, run_underlying hu, Result.andThen_ok]
        rw [← Array.forIn_toList]
        have := chkFields_run (ok := ok) (dd := m + d) (xs := vs.toArray) (fun T t ht => (chkEq_ok d T t ht m).2) b w fs.toList 0 t hF (by rw [chunk_all (ok := ok) (x := x) vs.toArray t hx]; exact hx)
        rw [this]
        rfl
    · rename_i n T' hu
      split at h
      · rename_i e r
        simp only [Bool.and_eq_true] at h
        obtain ⟨⟨⟨ht, hpt⟩, hrec⟩, hsz⟩ := h
        have ht := of_decide_eq_true ht
        have hn : 1 ≤ n := arr_ne ht (.inr trivial)
        obtain ⟨k, rfl⟩ : ∃ k, n = k + 1 := ⟨n - 1, by omega⟩
        cases hi : P.info? T' with
        | none => rw [hi] at hsz; cases hsz
        | some i =>
          rw [hi] at hsz
          have hsi := nbeq_true hsz
          have hc : P.cellsOf T' = e.sz := by simp [Program.cellsOf, hi, hsi]
          obtain ⟨ih1, ih2⟩ := chkEq_ok d T' e hrec m
          refine ⟨fun w ok vs us x y hx hy => ?_, fun w ok vs x b hx => ?_⟩
          · rw [pair_val rfl, pair_val rfl, show m + (d + 1) = (m + d) + 1 from rfl, run_equalIn_array w (m + d) _ _ hu hi, hc, List.range_eq_range']
            revert x y
            rw [ht]
            intro x y hx hy
            refine eqItems_run (ok := ok) hpt ih1 w k 0 ?_ ?_
            · rw [Nat.zero_mul, chunk_all (ok := ok) (x := x) vs.toArray _ hx]; exact hx
            · rw [Nat.zero_mul, chunk_all (ok := ok) (x := y) us.toArray _ hy]; exact hy
          · rw [pair_val rfl, show m + (d + 1) = (m + d) + 1 from rfl, Instr.checkKey]
            simp only [Sem.run_bind, run_underlying hu, Result.andThen_ok]
            simp only [Std.Legacy.Range.forIn_eq_forIn_range', Std.Legacy.Range.size, Nat.sub_zero, Nat.add_one_sub_one, Nat.div_one]
            revert x
            rw [ht]
            intro x hx
            have := chkItems_run (ok := ok) (dd := m + d) (xs := vs.toArray) hpt ih2 (fun w => by simp [sizeOf, typeInfo, hi, hsi]) b w k 0 (by rw [Nat.zero_mul, chunk_all (ok := ok) (x := x) vs.toArray _ hx]; exact hx)
            rw [this]
            rfl
      · cases h
    · cases h

theorem chkEq_eqs : ∀ (d : Nat) (T : Nat) (t : Ty), chkEq P d T t = true → t.eqs = true
  | 0, _, _, h => by simp [chkEq] at h
  | d + 1, T, t, h => by
    have arr : ∀ (e : Ty) (n : Nat), e.eqs = true → (Ty.arr e (n + 1)).eqs = true := by
      intro e n he
      induction n with
      | zero => exact he
      | succ n ih => simp only [Ty.arr, Ty.eqs, he, ih, Bool.and_self]
    have fld : ∀ (fs : List Field) (off : Nat) (t : Ty), chkF (chkEq P d) P fs off t = true → t.eqs = true := by
      intro fs
      induction fs with
      | nil => intro off t h; simp [chkF] at h
      | cons f fs ih =>
        intro off t h
        cases fs with
        | nil =>
          simp only [chkF, Bool.and_eq_true] at h
          exact chkEq_eqs d f.type t h.2
        | cons g r =>
          cases t <;> simp only [chkF, Bool.and_eq_true, Bool.false_eq_true] at h <;> try (exact h.elim)
          rename_i a b
          simp only [Ty.eqs, Bool.and_eq_true]
          exact ⟨chkEq_eqs d f.type a h.1.2, ih _ b h.2⟩
    unfold chkEq at h
    split at h
    · rw [of_decide_eq_true h]; rfl
    · rw [of_decide_eq_true h]; rfl
    · rw [of_decide_eq_true h]; rfl
    · simp only [Bool.and_eq_true] at h
      exact fld _ _ _ h.2
    · rename_i n T' hu
      split at h
      · rename_i e r
        simp only [Bool.and_eq_true] at h
        have ht := of_decide_eq_true h.1.1.1
        have hn := arr_ne ht (.inr trivial)
        obtain ⟨k, rfl⟩ : ∃ k, n = k + 1 := ⟨n - 1, by omega⟩
        rw [ht]
        exact arr e k (chkEq_eqs d T' e h.1.2)
      · cases h
    · cases h

theorem beq_symm : (t : Ty) → t.eqs = true → (x y : t.den) → t.beq x y = t.beq y x
  | .int _, _, x, y => (BEq.comm : ((x : Int) == y) = (y == x))
  | .bool, _, x, y => (BEq.comm : ((x : Bool) == y) = (y == x))
  | .str, _, x, y => (BEq.comm : ((x : List UInt8) == y) = (y == x))
  | .pair a b, h, (x, x'), (y, y') => by
    simp only [Ty.eqs, Bool.and_eq_true] at h
    simp only [Ty.beq, beq_symm a h.1 x y, beq_symm b h.2 x' y']
  | .unit, h, _, _ => by cases h
  | .slice _, h, _, _ => by cases h
  | .fn1 _ _, h, _, _ => by cases h
  | .fn2 _ _ _, h, _, _ => by cases h
  | .seq _, h, _, _ => by cases h
  | .seq2 _ _, h, _, _ => by cases h
  | .map _ _, h, _, _ => by cases h
  | .ptr _, h, _, _ => by cases h
  | .sliceN _, h, _, _ => by cases h

theorem findAsking_run {K : Nat} {k : Ty} (he : EqT P 10000 K k) (hq : k.eqs = true) (w : World) {ok : Nat → Prop} {ks : List Value} {x : k.den} (hx : Rep P k w ok ks x) : ∀ (ys : List k.den) (es : List MapEntry) (j : Nat), es.length = ys.length →
    (∀ (i : Nat) y e, ys[i]? = some y → es[i]? = some e → ∃ us, e.key = k.val us ∧ Rep P k w ok us y) → (Instr.findAsking K (k.val ks) es j).run P w = .ok (findR k x ys es j) w
  | [], [], j, _, _ => by simp [Instr.findAsking, findR]
  | [], _ :: _, _, h, _ => by simp at h
  | _ :: _, [], _, h, _ => by simp at h
  | y :: ys, e :: es, j, h, hr => by
    obtain ⟨us, h1, h2⟩ := hr 0 y e rfl rfl
    have ih := findAsking_run he hq w hx ys es (j + 1) (by simpa using h) (fun i z f hz hf => hr (i + 1) z f (by simpa using hz) (by simpa using hf))
    have hb : (Op.equal K (k.val ks) e.key).run P w = .ok (k.beq y x) w := by
      rw [h1, beq_symm k hq]
      exact he w ok ks us x y hx h2
    simp only [Instr.findAsking, Sem.run_bind, hb, Result.andThen_ok, findR]
    cases k.beq y x
    · simpa using ih
    · simp

theorem keyOK_gen {K : Nat} {k : Ty} {d : Nat} (hd : d ≤ 10000) (h : chkEq P d K k = true) : KeyOK P K k := by
  obtain ⟨h1, h2⟩ := chkEq_ok d K k h (10000 - d)
  rw [show 10000 - d + d = 10000 by omega] at h1 h2
  have hq := chkEq_eqs d K k h
  refine ⟨hq, h2' h2, fun w ok ks x ys es hx hl hr => ?_⟩
  have hask := findAsking_run h1 hq w hx ys es 0 hl hr
  have now : ∀ (D : TypeDesc) (ys : List k.den) (es : List MapEntry) (j : Nat) r, es.length = ys.length → (∀ (i : Nat) y e, ys[i]? = some y → es[i]? = some e → ∃ us, e.key = k.val us ∧ Rep P k w ok us y) →
      Instr.findNow D (k.val ks) es j = some r → r = findR k x ys es j := by
    intro D ys
    induction ys with
    | nil =>
      intro es j r hl _ hf
      match es, hl with
      | [], _ => simp [Instr.findNow] at hf; simp [findR, hf]
    | cons y ys ih =>
      intro es j r hl hr hf
      match es, hl with
      | e :: es, hl =>
        obtain ⟨us, g1, g2⟩ := hr 0 y e rfl rfl
        have hs : ∀ b, Instr.sameNow D (k.val ks) e.key = some b → b = k.beq y x := by
          intro b hb
          rw [g1] at hb
          cases k <;> try (cases hq; done)
          · simp only [Rep] at hx g2
            subst hx
            subst g2
            simp only [Ty.val, Ty.isPair, Bool.false_eq_true, if_false, List.headD_cons] at hb
            unfold Instr.sameNow at hb
            split at hb
            · rename_i q k1 a k2 b' e1 e2
              cases e1
              cases e2
              simp at hb
              rw [← hb]
              exact BEq.comm
            · rename_i e1 _; cases e1
            · rename_i e1 _; cases e1
            · cases hb
          · simp only [Rep] at hx g2
            subst hx
            subst g2
            simp only [Ty.val, Ty.isPair, Bool.false_eq_true, if_false, List.headD_cons] at hb
            unfold Instr.sameNow at hb
            split at hb
            · rename_i e1 _; cases e1
            · rename_i e1 _; cases e1
            · rename_i e1 e2
              cases e1
              cases e2
              simp at hb
              rw [← hb]
              exact BEq.comm
            · cases hb
          · simp only [Rep] at hx g2
            subst hx
            subst g2
            simp only [Ty.val, Ty.isPair, Bool.false_eq_true, if_false, List.headD_cons] at hb
            unfold Instr.sameNow at hb
            split at hb
            · rename_i e1 _; cases e1
            · rename_i e1 e2
              cases e1
              cases e2
              simp only [Option.some.injEq] at hb
              rw [← hb, beq_bytes]
              exact BEq.comm
            · rename_i e1 _; cases e1
            · cases hb
          · rw [pair_val rfl, pair_val rfl] at hb
            unfold Instr.sameNow at hb
            split at hb
            · rename_i e1 _; cases e1
            · rename_i e1 _; cases e1
            · rename_i e1 _; cases e1
            · cases hb
        unfold Instr.findNow at hf
        cases hb : Instr.sameNow D (k.val ks) e.key with
        | none => rw [hb] at hf; cases hf
        | some b =>
          rw [hb] at hf
          have hbb := hs b hb
          unfold findR
          rw [← hbb]
          cases b
          · exact ih es (j + 1) r (by simpa using hl) (fun i z f hz hf => hr (i + 1) z f (by simpa using hz) (by simpa using hf)) hf
          · cases hf; rfl
  cases hu : P.underlying K with
  | none =>
    have : chkEq P d K k = false := by
      cases d with
      | zero => rfl
      | succ d => simp [chkEq, hu]
    rw [this] at h
    cases h
  | some D =>
    simp only [Instr.findKey, Sem.run_bind, run_underlying hu, Result.andThen_ok]
    cases hf : Instr.findNow D (k.val ks) es 0 with
    | none => exact hask
    | some r =>
      rw [now D ys es 0 r hl hr hf]
      rfl
where
  h2' {K : Nat} {k : Ty} (h : ChkT P 10000 K k) (w : World) (ok : Nat → Prop) (ks : List Value) (x : k.den) (b : Bool) (hr : Rep P k w ok ks x) : (Instr.checkKey b 10000 K (k.val ks)).run P w = .ok () w := h w ok ks x b hr

theorem beqTy_eqs : (t : Ty) → {x y : t.den} → {r : Bool} → beqTy t x y = some r → r = t.beq x y
  | .int _, _, _, _, h => by cases h; rfl
  | .bool, _, _, _, h => by cases h; rfl
  | .str, _, _, _, h => by cases h; rfl
  | .pair a b, (x, x'), (y, y'), r, h => by
    simp only [beqTy] at h
    cases h1 : beqTy a x y with
    | none => rw [h1] at h; cases h
    | some p =>
      cases h2 : beqTy b x' y' with
      | none => rw [h1, h2] at h; cases h
      | some q =>
        rw [h1, h2] at h
        cases h
        rw [beqTy_eqs a h1, beqTy_eqs b h2]
        rfl
  | .unit, _, _, _, h => by cases h
  | .slice _, _, _, _, h => by cases h
  | .fn1 _ _, _, _, _, h => by cases h
  | .fn2 _ _ _, _, _, _, h => by cases h
  | .seq _, _, _, _, h => by cases h
  | .seq2 _ _, _, _, _, h => by cases h
  | .map _ _, _, _, _, h => by cases h
  | .ptr _, _, _, _, h => by cases h
  | .sliceN _, _, _, _, h => by cases h

/-- What is asked of a type that is compared. -/
def EqOK (P : Program) (T : Nat) (t : Ty) : Prop :=
  ∀ w ok vs vs' d d' r, Rep P t w ok vs d → Rep P t w ok vs' d' → beqTy t d d' = some r → ∀ (x y : Operand),
    (do eqGuard .eql T x y (t.val vs) (t.val vs'); Go.binOp .eql T (t.val vs) (t.val vs')).run P w = .ok (.bool r) w ∧
    (do eqGuard .neq T x y (t.val vs) (t.val vs'); Go.binOp .neq T (t.val vs) (t.val vs')).run P w = .ok (.bool (!r)) w

theorem eqOK_gen {T : Nat} {t : Ty} {d : Nat} (hd : d ≤ 10000) (h : chkEq P d T t = true) (hp : t.isPair = true) (hg : P.eqGuardType P.depth T = false) : EqOK P T t := by
  obtain ⟨h1, _⟩ := chkEq_ok d T t h (10000 - d)
  rw [show 10000 - d + d = 10000 by omega] at h1
  intro w ok vs vs' x y r hv hv' hr a b
  have hr := beqTy_eqs t hr
  have run := h1 w ok vs vs' x y hv hv'
  rw [pair_val hp, pair_val hp] at run ⊢
  constructor
  · rw [Sem.run_bind, run_eqGuard_agg w .eql T a b _ _ hg, Result.andThen_ok, run_eql_struct, run, hr]; rfl
  · rw [Sem.run_bind, run_eqGuard_agg w .neq T a b _ _ hg, Result.andThen_ok, run_neq_struct, run, hr]; rfl

end Go.Abs

set_option linter.unusedSimpArgs false
set_option linter.unusedVariables false
namespace Go.Abs
open Go
variable {P : Program}

def veq1 : Value → Value → Bool
  | .bool a, .bool b => a == b
  | .int k n, .int j m => decide (k = j) && decide (n = m)
  | .string a, .string b => decide (a.data.toList = b.data.toList)
  | .slice none a b, .slice none c d => Nat.beq a c && Nat.beq b d
  | .nilFunc, .nilFunc => true
  | .map none, .map none => true
  | .pointer none, .pointer none => true
  | _, _ => false

theorem veq1_eq {a b : Value} (h : veq1 a b = true) : a = b := by
  unfold veq1 at h
  split at h
  · have := eq_of_beq h; rw [this]
  · simp only [Bool.and_eq_true, decide_eq_true_eq] at h; rw [h.1, h.2]
  · rename_i a b
    have : a.data.toList = b.data.toList := of_decide_eq_true h
    obtain ⟨⟨a⟩⟩ := a
    obtain ⟨⟨b⟩⟩ := b
    simp at this
    rw [this]
  · simp only [Bool.and_eq_true] at h
    rw [nbeq_true h.1, nbeq_true h.2]
  · rfl
  · rfl
  · rfl
  · cases h

def veqL : List Value → List Value → Bool
  | [], [] => true
  | a :: l, b :: m => veq1 a b && veqL l m
  | _, _ => false

theorem veqL_eq : {l m : List Value} → veqL l m = true → l = m
  | [], [], _ => rfl
  | a :: l, b :: m, h => by
    simp only [veqL, Bool.and_eq_true] at h
    rw [veq1_eq h.1, veqL_eq h.2]
  | [], _ :: _, h => by cases h
  | _ :: _, [], h => by cases h

def veq : Value → Value → Bool
  | .agg a, .agg b => veqL a.toList b.toList
  | a, b => veq1 a b

theorem veq_eq {a b : Value} (h : veq a b = true) : a = b := by
  unfold veq at h
  split at h
  · rename_i a b
    have := veqL_eq h
    rw [show a = b from Array.toList_inj.1 this]
  · exact veq1_eq h

def chkEl (P : Program) (T : Nat) (t : Ty) : Bool :=
  match P.info? T with
  | some i => Nat.beq i.size t.sz && Nat.ble i.bytes 32768 && (match i.zero with | some z => veq z (t.val (zeroVals t)) | none => false) && Nat.blt 0 t.sz
  | none => false

theorem chkEl_ok {T : Nat} {t : Ty} (h : chkEl P T t = true) : ElOK P T t := by
  unfold chkEl at h
  split at h
  · rename_i i hi
    simp only [Bool.and_eq_true] at h
    obtain ⟨⟨⟨h1, h2⟩, h3⟩, h4⟩ := h
    refine ⟨i, hi, nbeq_true h1, Nat.le_of_ble_eq_true h2, ?_, Nat.le_of_ble_eq_true h4⟩
    split at h3
    · rename_i z hz
      rw [hz, veq_eq h3]
    · cases h3
  · cases h

def chkFields (P : Program) (te : TyE) : Nat → List Field → Bool
  | _, [] => true
  | i, f :: r => (match offOf te.nf i te.ty with | some o => Nat.beq o f.offset | none => false) && (match P.info? f.type with | some inf => !Nat.beq inf.size 0 | none => false) && chkFields P te (i + 1) r

theorem chkFields_ok {te : TyE} : (l : List Field) → (i : Nat) → chkFields P te i l = true → ∀ k f, l[k]? = some f → offOf te.nf (i + k) te.ty = some f.offset ∧ ∃ inf, P.info? f.type = some inf ∧ inf.size ≠ 0
  | [], i, h, k, f, hf => by simp at hf
  | g :: r, i, h, k, f, hf => by
    simp only [chkFields, Bool.and_eq_true] at h
    cases k with
    | zero =>
      simp only [List.getElem?_cons_zero, Option.some.injEq] at hf
      subst hf
      obtain ⟨⟨h1, h2⟩, _⟩ := h
      refine ⟨?_, ?_⟩
      · split at h1
        · rename_i o ho
          rw [Nat.add_zero, ho, nbeq_true h1]
        · cases h1
      · split at h2
        · rename_i inf hinf
          refine ⟨inf, hinf, fun e => ?_⟩
          rw [e] at h2
          cases h2
        · cases h2
    | succ k =>
      have := chkFields_ok r (i + 1) h.2 k f (by simpa using hf)
      rw [show i + 1 + k = i + (k + 1) from by omega] at this
      exact this

def chkPlaces (P : Program) : List Field → List (Nat × Nat) → Bool
  | [], [] => true
  | f :: r, (o, n) :: q => (match P.info? f.type with | some i => Nat.beq f.offset o && Nat.beq i.size n | none => false) && chkPlaces P r q
  | _, _ => false

theorem chkPlaces_ok : (l : List Field) → (q : List (Nat × Nat)) → chkPlaces P l q = true → l.mapM (fun f => (P.info? f.type).map fun i => (f.offset, i.size)) = some q
  | [], [], _ => rfl
  | f :: r, (o, n) :: q, h => by
    simp only [chkPlaces, Bool.and_eq_true] at h
    obtain ⟨h1, h2⟩ := h
    split at h1
    · rename_i i hi
      simp only [Bool.and_eq_true] at h1
      rw [List.mapM_cons, hi, chkPlaces_ok r q h2]
      have e1 := nbeq_true h1.1
      have e2 := nbeq_true h1.2
      subst e1
      subst e2
      rfl
    · cases h1
  | [], _ :: _, h => by cases h
  | _ :: _, [], h => by simp [chkPlaces] at h

def chkBytes (P : Program) (T : Nat) : Ty → Bool
  | .slice (.int .u8) => match P.underlying T with
    | some (.slice T') => match P.underlying T' with
      | some (.int .u8) => true
      | _ => false
    | _ => false
  | _ => true

theorem chkBytes_ok {T : Nat} {t : Ty} (h : chkBytes P T t = true) (ht : t = .slice (.int .u8)) : ∃ T', P.underlying T = some (.slice T') ∧ P.underlying T' = some (.int .u8) := by
  subst ht
  simp only [chkBytes] at h
  split at h
  · rename_i T' hT
    split at h
    · rename_i hu
      exact ⟨T', hT, hu⟩
    · cases h
  · cases h

def chkKey (P : Program) (K : Nat) (k : Ty) : Bool := chkEq P 40 K k

theorem chkKey_ok {K : Nat} {t : Ty} (h : chkKey P K t = true) : KeyOK P K t := keyOK_gen (by decide) h

def chkAgg (P : Program) (te : TyE) : Nat → List Field → Bool
  | _, [] => true
  | i, f :: r => (match typAt te.nf i te.ty, aggB P f.type, P.info? f.type with | some u, some b, some inf => (bif b then u.isPair else !u.isPair) && Nat.beq inf.size u.sz | _, _, _ => false) && chkAgg P te (i + 1) r

theorem chkAgg_ok {te : TyE} : (l : List Field) → (i : Nat) → chkAgg P te i l = true → ∀ k f u, l[k]? = some f → typAt te.nf (i + k) te.ty = some u → aggB P f.type = some u.isPair ∧ ∃ inf, P.info? f.type = some inf ∧ inf.size = u.sz
  | [], i, h, k, f, u, hf, hu => by simp at hf
  | g :: r, i, h, k, f, u, hf, hu => by
    simp only [chkAgg, Bool.and_eq_true] at h
    cases k with
    | zero =>
      simp only [List.getElem?_cons_zero, Option.some.injEq] at hf
      subst hf
      have h1 := h.1
      rw [Nat.add_zero] at hu
      rw [hu] at h1
      split at h1
      · rename_i u' b inf e1 e2 e3
        cases e1
        simp only [Bool.and_eq_true] at h1
        refine ⟨?_, inf, e3, nbeq_true h1.2⟩
        rw [e2]
        have h1 := h1.1
        cases b <;> simp at h1 <;> simp [h1]
      · cases h1
    | succ k =>
      exact chkAgg_ok r (i + 1) h.2 k f u (by simpa using hf) (by rw [show i + 1 + k = i + (k + 1) from by omega]; exact hu)

def chkAggs (P : Program) (T : Nat) (te : TyE) : Bool :=
  match P.underlying T with
  | some (.struct fs) => chkAgg P te 0 fs.toList
  | _ => true

theorem chkAggs_ok {T : Nat} {te : TyE} (h : chkAggs P T te = true) : ∀ fs, P.underlying T = some (.struct fs) → ∀ (i : Nat) (f : Field) (u : Ty), fs[i]? = some f → typAt te.nf i te.ty = some u → aggB P f.type = some u.isPair ∧ ∃ inf, P.info? f.type = some inf ∧ inf.size = u.sz := by
  intro fs hfs i f u hf hu
  unfold chkAggs at h
  rw [hfs] at h
  exact chkAgg_ok fs.toList 0 h i f u (by simpa using hf) (by rw [Nat.zero_add]; exact hu)

def chkTy (P : Program) (T : Nat) (te : TyE) : Bool :=
  chkEl P T te.ty && chkBytes P T te.ty && chkAggs P T te && (!te.arr || te.ty.isPair) && match P.underlying T, te.ty with
    | some (.int k), .int k' => decide (k = k')
    | some .bool, .bool => true
    | some .string, .str => true
    | some (.slice T'), .slice e => chkEl P T' e
    | some (.array n T'), .pair e _ => te.arr && decide (te.ty = Ty.arr e n) && Nat.beq te.nf n && chkEl P T' e
    | some (.struct fs), .pair _ _ => !te.arr && Nat.beq fs.size te.nf && chkFields P te 0 fs.toList && chkPlaces P fs.toList (placesOf te.nf te.ty)
    | some (.func _ _ _), .fn1 _ _ => true
    | some (.func _ _ _), .fn2 _ _ _ => true
    | some (.func _ _ _), .seq _ => true
    | some (.func _ _ _), .seq2 _ _ => true
    | some (.map K V), .map k v => chkKey P K k && chkEl P V v
    | some (.pointer _), .ptr _ => true
    | _, _ => false

theorem chkTy_ok {T : Nat} {te : TyE} (h : chkTy P T te = true) : TyOK P T te := by
  unfold chkTy at h
  simp only [Bool.and_eq_true] at h
  obtain ⟨⟨⟨⟨h1, hby⟩, hag⟩, har⟩, h2⟩ := h
  have hag := chkAggs_ok hag
  have har : te.arr = true → te.ty.isPair = true := fun h => by rw [h] at har; simpa using har
  have hi := chkEl_ok h1
  have hby := chkBytes_ok hby
  have no : ∀ {d : TypeDesc}, P.underlying T = some d → (∀ fs, d ≠ .struct fs) → ∀ fs, P.underlying T = some (.struct fs) → (∀ i f, fs[i]? = some f → offOf te.nf i te.ty = some f.offset ∧ ∃ inf, P.info? f.type = some inf ∧ inf.size ≠ 0) ∧
      fs.toList.mapM (fun f => (P.info? f.type).map fun i => (f.offset, i.size)) = some (placesOf te.nf te.ty) := by
    intro d hd hn fs hfs
    rw [hd] at hfs
    cases hfs
    exact absurd rfl (hn fs)
  split at h2
  · rename_i k k' hu ht
    have hk : k = k' := of_decide_eq_true h2
    subst hk
    exact ⟨hi, by rw [ht]; exact hu, no hu (fun _ e => (by cases e)), har, hag, hby⟩
  · rename_i hu ht
    exact ⟨hi, by rw [ht]; exact hu, no hu (fun _ e => (by cases e)), har, hag, hby⟩
  · rename_i hu ht
    exact ⟨hi, by rw [ht]; exact hu, no hu (fun _ e => (by cases e)), har, hag, hby⟩
  · rename_i T' e hu ht
    exact ⟨hi, by rw [ht]; exact ⟨T', hu, chkEl_ok h2⟩, no hu (fun _ e => (by cases e)), har, hag, hby⟩
  · rename_i n T' e r hu ht
    simp only [Bool.and_eq_true] at h2
    obtain ⟨⟨⟨g0, g1⟩, g2⟩, g3⟩ := h2
    refine ⟨hi, ?_, no hu (fun _ e => (by cases e)), har, hag, hby⟩
    have g1 := of_decide_eq_true g1
    rw [ht]
    dsimp only
    rw [g0]
    exact ⟨n, T', e, hu, by rw [← g1, ht], nbeq_true g2, chkEl_ok g3⟩
  · rename_i fs a b hu ht
    simp only [Bool.and_eq_true, Bool.not_eq_true'] at h2
    obtain ⟨⟨⟨g0, g1⟩, g2⟩, g3⟩ := h2
    refine ⟨hi, by rw [ht]; dsimp only; rw [g0]; exact ⟨fs, hu, nbeq_true g1⟩, fun fs' hfs => ?_, har, hag, hby⟩
    rw [hu] at hfs
    cases hfs
    refine ⟨fun i f hf => ?_, chkPlaces_ok _ _ g3⟩
    have := chkFields_ok fs.toList 0 g2 i f (by simpa using hf)
    rwa [Nat.zero_add] at this
  · rename_i p q r a b hu ht
    exact ⟨hi, by rw [ht]; exact ⟨p, q, r, hu⟩, no hu (fun _ e => (by cases e)), har, hag, hby⟩
  · rename_i p q r a b c hu ht
    exact ⟨hi, by rw [ht]; exact ⟨p, q, r, hu⟩, no hu (fun _ e => (by cases e)), har, hag, hby⟩
  · rename_i p q r a hu ht
    exact ⟨hi, by rw [ht]; exact ⟨p, q, r, hu⟩, no hu (fun _ e => (by cases e)), har, hag, hby⟩
  · rename_i p q r a b hu ht
    exact ⟨hi, by rw [ht]; exact ⟨p, q, r, hu⟩, no hu (fun _ e => (by cases e)), har, hag, hby⟩
  · rename_i K V k v hu ht
    simp only [Bool.and_eq_true] at h2
    exact ⟨hi, by rw [ht]; exact ⟨K, V, hu, chkKey_ok h2.1, chkEl_ok h2.2⟩, no hu (fun _ e => (by cases e)), har, hag, hby⟩
  · rename_i p a hu ht
    exact ⟨hi, by rw [ht]; exact ⟨p, hu⟩, no hu (fun _ e => (by cases e)), har, hag, hby⟩
  · cases h2

def chkG (P : Program) (G : List (Nat × TyE)) : Bool := G.all fun p => chkTy P p.1 p.2

theorem env_nil {G : List (Nat × TyE)} (h : chkG P G = true) : EnvOK P ⟨G, [], [], [], [], [], [], [], [], []⟩ where
  rt := (fun f h => (by cases h))
  fl := (fun f h => (by cases h))
  ty := fun T te hT => chkTy_ok (List.all_eq_true.1 h _ (Map.get_mem hT))
  con := (fun f c h => (by cases h))
  it := (fun f c h => (by cases h))
  mu := (fun f c h => (by cases h))
  oc := (fun f c h => (by cases h))
  eq := (fun f c h => (by cases h))

/-- Slots that hold slices of slices of the call's own. -/
theorem env_n {E : Env} (h : EnvOK P E) (l : List Nat) : EnvOK P ⟨E.G, E.C, E.Q, E.I, E.M, E.S, E.D, l, E.O, E.K⟩ where
  rt := h.rt
  fl := h.fl
  ty := h.ty
  con := h.con
  it := h.it
  mu := h.mu
  oc := h.oc
  eq := h.eq

/-- Slots whose slices are built with other elements. -/
theorem env_k {E : Env} (h : EnvOK P E) (l : List (Nat × Ty)) : EnvOK P ⟨E.G, E.C, E.Q, E.I, E.M, E.S, E.D, E.N, E.O, l⟩ where
  rt := h.rt
  fl := h.fl
  ty := h.ty
  con := h.con
  it := h.it
  mu := h.mu
  oc := h.oc
  eq := h.eq

theorem env_add {G : List (Nat × TyE)} {C : List (Nat × Con)} {Q : List (Nat × Ty)} {I : List (Nat × ICon)} {M : List (Nat × MCon)} {S D : List Nat} {O : List (Nat × OCon)} {K : List (Nat × Ty)} (h : EnvOK P ⟨G, C, Q, I, M, S, D, [], O, K⟩) {f : Nat} {c : Con} (hc : ConOK P f c) : EnvOK P ⟨G, (f, c) :: C, Q, I, M, S, D, [], O, K⟩ where
  rt := h.rt
  fl := h.fl
  ty := h.ty
  con := fun g d hg => by
    simp only [Map.get, nbeq] at hg
    by_cases e : f = g
    · subst e
      simp at hg
      subst hg
      exact hc
    · simp [e] at hg
      exact h.con g d hg
  it := h.it
  mu := h.mu
  oc := h.oc
  eq := h.eq

theorem env_it {G : List (Nat × TyE)} {C : List (Nat × Con)} {Q : List (Nat × Ty)} {I : List (Nat × ICon)} {M : List (Nat × MCon)} {S D : List Nat} {O : List (Nat × OCon)} {K : List (Nat × Ty)} (h : EnvOK P ⟨G, C, Q, I, M, S, D, [], O, K⟩) {f : Nat} {c : ICon} (hc : IConOK P f c) : EnvOK P ⟨G, C, Q, (f, c) :: I, M, S, D, [], O, K⟩ where
  rt := h.rt
  fl := h.fl
  ty := h.ty
  con := h.con
  it := fun g d hg => by
    simp only [Map.get, nbeq] at hg
    by_cases e : f = g
    · subst e
      simp at hg
      subst hg
      exact hc
    · simp [e] at hg
      exact h.it g d hg
  mu := h.mu
  oc := h.oc
  eq := h.eq

theorem env_mu {G : List (Nat × TyE)} {C : List (Nat × Con)} {Q : List (Nat × Ty)} {I : List (Nat × ICon)} {M : List (Nat × MCon)} {S D : List Nat} {O : List (Nat × OCon)} {K : List (Nat × Ty)} (h : EnvOK P ⟨G, C, Q, I, M, S, D, [], O, K⟩) {f : Nat} {c : MCon} (hc : MConOK P f c) : EnvOK P ⟨G, C, Q, I, (f, c) :: M, S, D, [], O, K⟩ where
  rt := h.rt
  fl := h.fl
  ty := h.ty
  con := h.con
  it := h.it
  mu := fun g d hg => by
    simp only [Map.get, nbeq] at hg
    by_cases e : f = g
    · subst e
      simp at hg
      subst hg
      exact hc
    · simp [e] at hg
      exact h.mu g d hg
  oc := h.oc
  eq := h.eq

theorem env_oc {G : List (Nat × TyE)} {C : List (Nat × Con)} {Q : List (Nat × Ty)} {I : List (Nat × ICon)} {M : List (Nat × MCon)} {S D : List Nat} {O : List (Nat × OCon)} {K : List (Nat × Ty)} (h : EnvOK P ⟨G, C, Q, I, M, S, D, [], O, K⟩) {f : Nat} {c : OCon} (hc : OConOK P f c) : EnvOK P ⟨G, C, Q, I, M, S, D, [], (f, c) :: O, K⟩ where
  rt := h.rt
  fl := h.fl
  ty := h.ty
  con := h.con
  it := h.it
  mu := h.mu
  oc := fun g d hg => by
    simp only [Map.get, nbeq] at hg
    by_cases e : f = g
    · subst e
      simp at hg
      subst hg
      exact hc
    · simp [e] at hg
      exact h.oc g d hg
  eq := h.eq

theorem env_eq {G : List (Nat × TyE)} {C : List (Nat × Con)} {Q : List (Nat × Ty)} {I : List (Nat × ICon)} {M : List (Nat × MCon)} {S D : List Nat} {O : List (Nat × OCon)} {K : List (Nat × Ty)} (h : EnvOK P ⟨G, C, Q, I, M, S, D, [], O, K⟩) {T : Nat} {t : Ty} (hq : EqOK P T t) : EnvOK P ⟨G, C, (T, t) :: Q, I, M, S, D, [], O, K⟩ where
  rt := h.rt
  fl := h.fl
  ty := h.ty
  con := h.con
  it := h.it
  mu := h.mu
  oc := h.oc
  eq := fun U u hu => by
    simp only [Map.get, nbeq] at hu
    by_cases e : T = U
    · subst e
      simp at hu
      subst hu
      exact hq
    · simp [e] at hu
      exact h.eq U u hu

theorem env_fl {G : List (Nat × TyE)} {C : List (Nat × Con)} {Q : List (Nat × Ty)} {I : List (Nat × ICon)} {M : List (Nat × MCon)} {S D : List Nat} {O : List (Nat × OCon)} {K : List (Nat × Ty)} (h : EnvOK P ⟨G, C, Q, I, M, S, D, [], O, K⟩) {f T : Nat} (hf : SqrtOK P f) (hT : P.underlying T = some (.float .f64)) : EnvOK P ⟨G, C, Q, I, M, f :: S, T :: D, [], O, K⟩ where
  rt := fun g hg => by
    rcases List.mem_cons.1 hg with rfl | hg
    · exact hf
    · exact h.rt g hg
  fl := fun U hU => by
    rcases List.mem_cons.1 hU with rfl | hU
    · exact hT
    · exact h.fl U hU
  ty := h.ty
  con := h.con
  it := h.it
  mu := h.mu
  oc := h.oc
  eq := h.eq

end Go.Abs

set_option linter.unusedSimpArgs false
set_option linter.unusedVariables false
namespace Go.Abs
open Go
variable {P : Program} {E : Env} {R : Type} {H : Hdl R} {i : Bool}

def bd (f : Func) : Code := match f.body with
  | some c => c
  | none => .skip

/-- The outer loops. -/
def loopsOf : Code → List Code
  | .seq a b => loopsOf a ++ loopsOf b
  | .cond _ a b => loopsOf a ++ loopsOf b
  | .block _ c => loopsOf c
  | .loop c => [.loop c]
  | .rangeFunc g ps a b => [.rangeFunc g ps a b]
  | _ => []

def nth : List Code → Nat → Code
  | [], _ => .skip
  | c :: _, 0 => c
  | _ :: r, n + 1 => nth r n

def lp (c : Code) (i : Nat) : Code := nth (loopsOf c) i

/-- What is looped. -/
def inn : Code → Code
  | .loop c => c
  | _ => .skip

def isLoop : Code → Bool
  | .loop _ => true
  | _ => false

def rgG : Code → Operand
  | .rangeFunc g _ _ _ => g
  | _ => .func 0
def rgA : Code → Code
  | .rangeFunc _ _ a _ => a
  | _ => .skip
def rgB : Code → Code
  | .rangeFunc _ _ _ b => b
  | _ => .skip

def isRange (p : Nat) : Code → Bool
  | .rangeFunc _ ps _ _ => match ps.toList with
    | [q] => Nat.beq q p
    | _ => false
  | _ => false

theorem isLoop_eq {w : Code} (h : isLoop w = true) : w = .loop (inn w) := by
  cases w <;> first | rfl | cases h

theorem isRange_eq {p : Nat} {w : Code} (h : isRange p w = true) : w = .rangeFunc (rgG w) #[p] (rgA w) (rgB w) := by
  cases w <;> try (cases h; done)
  rename_i g ps a b
  simp only [isRange] at h
  split at h
  · rename_i q hq
    have := nbeq_true h
    subst this
    have : ps = #[q] := by rw [← Array.toArray_toList (xs := ps), hq]
    subst this
    rfl
  · cases h

def SndL (P : Program) (H : Hdl R) (i : Bool) (l : List Code) : Nat → List (Ev R) → Prop
  | _, [] => True
  | n, f :: r => Sound P H i (nth l n) f ∧ SndL P H i l (n + 1) r

theorem loopsOf_len : (c : Code) → (loopsOf c).length = loops c
  | .seq a b => by simp [loopsOf, loops, loopsOf_len a, loopsOf_len b]
  | .cond _ a b => by simp [loopsOf, loops, loopsOf_len a, loopsOf_len b]
  | .block _ c => by simp [loopsOf, loops, loopsOf_len c]
  | .loop c => rfl
  | .skip => rfl
  | .region .. => rfl
  | .exit _ => rfl
  | .ret => rfl
  | .rangeFunc _ _ _ _ => rfl
  | .scope _ => rfl
  | .label _ => rfl
  | .goto _ => rfl
  | .refuse _ => rfl

theorem SndL.get {l : List Code} : {O : List (Ev R)} → {n : Nat} → SndL P H i l n O → ∀ k f, O[k]? = some f → Sound P H i (nth l (n + k)) f
  | [], n, h, k, f, hf => by simp at hf
  | g :: r, n, ⟨h1, h2⟩, 0, f, hf => by
    simp at hf
    subst hf
    exact h1
  | g :: r, n, ⟨h1, h2⟩, k + 1, f, hf => by
    have := SndL.get h2 k f (by simpa using hf)
    rwa [show n + 1 + k = n + (k + 1) from by omega] at this

theorem nth_append_left {l m : List Code} : {i : Nat} → i < l.length → nth (l ++ m) i = nth l i := by
  induction l with
  | nil => intro i h; simp at h
  | cons c l ih =>
    intro i h
    cases i with
    | zero => rfl
    | succ i => exact ih (by simpa using h)

theorem nth_append_right {l m : List Code} (i : Nat) : nth (l ++ m) (l.length + i) = nth m i := by
  induction l with
  | nil => simp
  | cons c l ih =>
    rw [List.length_cons, show l.length + 1 + i = (l.length + i) + 1 from by omega]
    exact ih

theorem osOK_aux : (c : Code) → (O : List (Ev R)) → (∀ k f, k < loops c → O[k]? = some f → Sound P H i (nth (loopsOf c) k) f) → OsOK P H i c O
  | .seq a b, O, h => by
    refine ⟨osOK_aux a _ fun i f hi hf => ?_, osOK_aux b _ fun i f hi hf => ?_⟩
    · rw [List.getElem?_take_of_lt hi] at hf
      have := h i f (by simp [loops]; omega) hf
      rw [loopsOf, nth_append_left (by rw [loopsOf_len]; exact hi)] at this
      exact this
    · rw [List.getElem?_drop] at hf
      have := h _ f (by simp [loops]; omega) hf
      rw [loopsOf, ← loopsOf_len a, nth_append_right] at this
      exact this
  | .cond _ a b, O, h => by
    refine ⟨osOK_aux a _ fun i f hi hf => ?_, osOK_aux b _ fun i f hi hf => ?_⟩
    · rw [List.getElem?_take_of_lt hi] at hf
      have := h i f (by simp [loops]; omega) hf
      rw [loopsOf, nth_append_left (by rw [loopsOf_len]; exact hi)] at this
      exact this
    · rw [List.getElem?_drop] at hf
      have := h _ f (by simp [loops]; omega) hf
      rw [loopsOf, ← loopsOf_len a, nth_append_right] at this
      exact this
  | .block _ c, O, h => osOK_aux c O h
  | .loop c, O, h => fun f hf => by
    subst hf
    exact h 0 f (by simp [loops]) rfl
  | .skip, _, _ => trivial
  | .region .., _, _ => trivial
  | .exit _, _, _ => trivial
  | .ret, _, _ => trivial
  | .rangeFunc g ps x y, O, h => fun f hf => by
    subst hf
    exact h 0 f (by simp [loops]) rfl
  | .scope _, _, _ => trivial
  | .label _, _, _ => trivial
  | .goto _, _, _ => trivial
  | .refuse _, _, _ => trivial

theorem osOK_of {c : Code} {O : List (Ev R)} (h : SndL P H i (loopsOf c) 0 O) : OsOK P H i c O :=
  osOK_aux c O fun i f _ hf => by simpa using h.get i f hf

theorem loop_ok {n : Nat} (hE : EnvOK P E) (hP : P.follows .mixedOrders = true) {w : Code} (hw : isLoop w = true) {O : List (Ev R)} {T : Templ} {X : List (Way × Templ)} {body : denU T.tys → (denU T.tys → Option R) → conts R X → Option R}
    (hi : SndL P H i (loopsOf (inn w)) 0 O) (hb : ∀ d again k, codeR E H (inn w) O (mk T d) (turnR E T X again k) = body d again k) : Sound P H i w (loopO n E T X body) := by
  rw [isLoop_eq hw]
  exact loop_sound hE (codeR_sound hE hP (inn w) O (osOK_of hi)) hb

theorem range_ok (hE : EnvOK P E) (hP : P.follows .mixedOrders = true) {w : Code} {e : Ty} {p : Nat} {Oa Ob : List (Ev R)} {T : Templ} {F : List Nat} {X : List (Way × Templ)} {body : denU T.tys → e.den → (denU T.tys → Option R) → conts R X → Option R}
    (hw : isRange p w = true) (hfx : T.fx = []) (hpN : p < T.N) (hpF : p ∉ F) (hX : (X.all fun x => x.2.fx.isEmpty) = true)
    (ha : SndL P (Hdl.no (R := R)) true (loopsOf (rgA w)) 0 Oa) (hb : SndL P (Hdl.no (R := R)) true (loopsOf (rgB w)) 0 Ob)
    (heq : ∀ d x again k, codeR E Hdl.no (rgA w) Oa (mkB T F p e d x) (thenB fun st => codeR E Hdl.no (rgB w) Ob st (turnB E T F X again k)) = body d x again k) :
    Sound P (Hdl.no (R := R)) false w (rangeO E e (rgG w) T X body) := by
  have := isRange_eq hw
  rw [this]
  simp only [rgG]
  exact range_sound hE rfl {
    fx := hfx
    pN := hpN
    pF := hpF
    xfx := fun x hx => by simpa using List.all_eq_true.1 hX x hx
    a := codeR_sound hE hP _ _ (osOK_of ha)
    b := codeR_sound hE hP _ _ (osOK_of hb)
    eq := heq }

theorem func_ok (hE : EnvOK P E) (hP : P.follows .mixedOrders = true) {f : FuncId} {fn : Func} (hf : P.funcs[f]? = some fn) (hn : (fn.name == "runtime.NumGoroutine") = false) (hb : fn.body.isSome = true)
    {ins caps outs : List Ty} {g : denL ins → denL caps → Option (denL outs)} {fresh : Bool} {O : List (Ev (denL outs))} (hO : SndL P (Hdl.no (R := denL outs)) false (loopsOf (bd fn)) 0 O)
    (heq : ∀ x y, funR E fn ins caps outs fresh O x y = g x y) : ConOK P f ⟨ins, caps, outs, g, fresh⟩ :=
  fun_ok hE hP hf hn (fun c hc => osOK_of (by have := hO; unfold bd at this; rw [hc] at this; exact this)) heq hb

theorem funcO_ok (hE : EnvOK P E) (hP : P.follows .mixedOrders = true) {f : FuncId} {fn : Func} (hf : P.funcs[f]? = some fn) (hn : (fn.name == "runtime.NumGoroutine") = false) (hb : fn.body.isSome = true)
    {c : OCon} (hflat : c.outs.all Ty.flat = true) {O : List (Ev (c.t.den × denL c.outs))} (hO : SndL P (Hdl.no (R := c.t.den × denL c.outs)) false (loopsOf (bd fn)) 0 O)
    (heq : ∀ d x y, funRO E fn c O d x y = c.fn d x y) : OConOK P f c :=
  fun_okO hE hP hf hn hflat (fun c hc => osOK_of (by have := hO; unfold bd at this; rw [hc] at this; exact this)) heq hb

theorem itf1_ok (hE : EnvOK P E) (hP : P.follows .mixedOrders = true) {f : FuncId} {fn : Func} (hf : P.funcs[f]? = some fn) (hn : (fn.name == "runtime.NumGoroutine") = false) (hb : fn.body.isSome = true)
    {e : Ty} {caps : List Ty} {g : denL caps → Option (List e.den)} {O : List (Ev (List (denL [e])))} (hO : SndL P (hdlL [e]) false (loopsOf (bd fn)) 0 O)
    (heq : ∀ y, iterR E fn [e] caps O y = g y) : IConOK P f ⟨caps, .seq e, g⟩ :=
  iter1_ok hE hP hf hn (fun c hc => osOK_of (by have := hO; unfold bd at this; rw [hc] at this; exact this)) heq hb

theorem itf2_ok (hE : EnvOK P E) (hP : P.follows .mixedOrders = true) {f : FuncId} {fn : Func} (hf : P.funcs[f]? = some fn) (hn : (fn.name == "runtime.NumGoroutine") = false) (hb : fn.body.isSome = true)
    {a b : Ty} {caps : List Ty} {g : denL caps → Option (List (a.den × b.den))} {O : List (Ev (List (denL [a, b])))} (hO : SndL P (hdlL [a, b]) false (loopsOf (bd fn)) 0 O)
    (heq : ∀ y, iterR E fn [a, b] caps O y = g y) : IConOK P f ⟨caps, .seq2 a b, g⟩ :=
  iter2_ok hE hP hf hn (fun c hc => osOK_of (by have := hO; unfold bd at this; rw [hc] at this; exact this)) heq hb

end Go.Abs
