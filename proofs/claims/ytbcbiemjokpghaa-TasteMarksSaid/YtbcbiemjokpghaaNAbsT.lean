/- Regions whose order is drawn: whatever the order, the outcome is that of the text's order. -/
import Derived.Test.YtbcbiemjokpghaaNAbsS
set_option linter.unusedSimpArgs false
set_option linter.unusedVariables false
namespace Go.Abs
open Go
variable {P : Program} {E : Env} {w0 : Start} {w : World} {st : ASt} {a : Act}

/-- States that say the same. -/
structure Eqv (st st' : ASt) : Prop where
  N : st'.N = st.N
  marks : ∀ m, m ∈ st'.marks ↔ m ∈ st.marks
  slots : ∀ d, Map.get st'.slots d = Map.get st.slots d
  heap : ∀ id, Map.get st'.heap id = Map.get st.heap id
  fixed : st'.fixed = st.fixed

theorem Eqv.refl (st : ASt) : Eqv st st := ⟨rfl, fun _ => Iff.rfl, fun _ => rfl, fun _ => rfl, rfl⟩
theorem Eqv.symm {st st' : ASt} (h : Eqv st st') : Eqv st' st := ⟨h.N.symm, fun m => (h.marks m).symm, fun d => (h.slots d).symm, fun d => (h.heap d).symm, h.fixed.symm⟩
theorem Eqv.trans {a b c : ASt} (h : Eqv a b) (h' : Eqv b c) : Eqv a c := ⟨h'.N.trans h.N, fun m => (h'.marks m).trans (h.marks m), fun d => (h'.slots d).trans (h.slots d), fun d => (h'.heap d).trans (h.heap d), h'.fixed.trans h.fixed⟩

theorem Eqv.models {st st' : ASt} (h : Eqv st st') (hm : Models P w0 st a w) : Models P w0 st' a w := by
  obtain ⟨conc, m⟩ := hm
  exact ⟨conc, { defers := m.defers, size := by rw [m.size, h.N], marks := fun d sl hd p hp => (h.marks _).2 (m.marks d sl (by rw [← h.slots]; exact hd) p hp), slots := fun d sl hd => m.slots d sl (by rw [← h.slots]; exact hd), heap := fun id ver o ho => m.heap id ver o (by rw [← h.heap]; exact ho), dead := fun id hd => m.dead id (by rw [← h.heap]; exact hd), inj := m.inj, base := m.base, keeps := m.keeps, cB := m.cB, cY := m.cY, okS := m.okS, fixed := fun s hs => m.fixed s (by rw [← h.fixed]; exact hs) }⟩

theorem keys_local {β : Type} (m : RM β) : ∀ {st st' : ASt}, (∀ d, (d, true) ∈ m.keys st → Map.get st'.slots d = Map.get st.slots d) → (∀ d, (d, false) ∈ m.keys st → Map.get st'.heap d = Map.get st.heap d) →
    m.run st' = m.run st ∧ m.keys st' = m.keys st := by
  induction m with
  | ret b => intros; exact ⟨rfl, rfl⟩
  | fail => intros; exact ⟨rfl, rfl⟩
  | slot d f ih =>
    intro st st' h1 h2
    have hd := h1 d (by simp [RM.keys])
    have := ih (Map.get st.slots d) (st := st) (st' := st') (fun k hk => h1 k (by simp only [RM.keys]; exact List.mem_cons_of_mem _ hk)) (fun k hk => h2 k (by simp only [RM.keys]; exact List.mem_cons_of_mem _ hk))
    simp only [RM.run, RM.keys, hd]
    exact ⟨this.1, by rw [this.2]⟩
  | obj d f ih =>
    intro st st' h1 h2
    have hd := h2 d (by simp [RM.keys])
    have := ih (Map.get st.heap d) (st := st) (st' := st') (fun k hk => h1 k (by simp only [RM.keys]; exact List.mem_cons_of_mem _ hk)) (fun k hk => h2 k (by simp only [RM.keys]; exact List.mem_cons_of_mem _ hk))
    simp only [RM.run, RM.keys, hd]
    exact ⟨this.1, by rw [this.2]⟩
  | opt γ m f ih =>
    intro st st' h1 h2
    cases m with
    | none => exact ⟨rfl, rfl⟩
    | some x => exact ih x h1 h2

theorem runKK_eq {R β : Type} (m : RM β) (st : ASt) : ∀ K : β → List Key → Option R, m.runKK st K = (m.run st).bind fun x => K x (m.keys st) := by
  induction m with
  | ret b => intro K; rfl
  | fail => intro K; rfl
  | slot d f ih => intro K; simp only [RM.runKK, RM.run, RM.keys, ih]
  | obj id f ih => intro K; simp only [RM.runKK, RM.run, RM.keys, ih]
  | opt γ m f ih =>
    intro K
    cases m with
    | none => rfl
    | some x => simp only [RM.runKK, RM.run, RM.keys, Option.bind_some, ih]

/-- The records of operations, as they are carried out one behind the other. -/
def Runs (E : Env) (ops : Array Oper) (F : Nat → FP) : List Nat → ASt → ASt → Prop
  | [], st, st' => Eqv st st'
  | i :: l, st, st' => ∃ o u st1, ops[i]? = some o ∧ (opRM E ops o).run st = some u ∧ (opRM E ops o).keys st = (F i).r ∧ u.keys = (F i).w ∧ applyU st (guardSlot ops o) u = some st1 ∧ Runs E ops F l st1 st'

theorem get_setObjs_not {l : W} {id : Nat} (h : id ∉ ids l) (m : List (Nat × (Nat × AObj))) : Map.get (setObjs m l) id = Map.get m id := by
  rcases get_setObjs m l id with ⟨h1, _⟩ | ⟨o, _, h2⟩
  · exact h1
  · exact absurd (List.mem_map.2 ⟨_, h2, rfl⟩) h

theorem get_setObjs_eq {l : W} {m m' : List (Nat × (Nat × AObj))} {id : Nat} (h : Map.get m' id = Map.get m id) : Map.get (setObjs m' l) id = Map.get (setObjs m l) id := by
  induction l generalizing m m' with
  | nil => exact h
  | cons p l ih =>
    obtain ⟨j, o⟩ := p
    exact ih (by simp only [Map.get_set, h])

theorem applyU_get {m : Option Nat} {u : Upd} {st1 : ASt} (h : applyU st m u = some st1) : st1.N = st.N ∧ st1.marks = moreMarks m st.marks ∧
    (∀ d, (d, true) ∉ u.keys → Map.get st1.slots d = Map.get st.slots d) ∧ (∀ d, (d, false) ∉ u.keys → Map.get st1.heap d = Map.get st.heap d) ∧ st1.heap = setObjs st.heap u.objs ∧
    (∀ d sl, u.dst = some (d, sl) → st.may d = true ∧ isMark m d = false ∧ st1.slots = Map.set st.slots d sl) ∧ (u.dst = none → st1.slots = st.slots) ∧ st1.fixed = st.fixed := by
  unfold applyU at h
  obtain ⟨dst, objs⟩ := u
  have hheap : ∀ d, (d, false) ∉ (Upd.keys ⟨dst, objs⟩) → Map.get (setObjs st.heap objs) d = Map.get st.heap d := by
    intro d hd
    refine get_setObjs_not (fun hm => hd ?_) _
    unfold Upd.keys
    refine List.mem_append_right _ ?_
    obtain ⟨p, hp, he⟩ := List.mem_map.1 hm
    exact List.mem_map.2 ⟨p, hp, by rw [he]⟩
  cases dst with
  | none =>
    cases h
    exact ⟨rfl, rfl, fun _ _ => rfl, hheap, rfl, fun _ _ h => by simp at h, fun _ => rfl, rfl⟩
  | some p =>
    obtain ⟨d, sl⟩ := p
    dsimp only at h
    cases hb : (st.may d && !isMark m d) with
    | false => rw [hb] at h; cases h
    | true =>
      rw [hb] at h
      cases h
      simp only [Bool.and_eq_true, Bool.not_eq_true'] at hb
      refine ⟨rfl, rfl, fun k hk => ?_, hheap, rfl, fun k s hks => ?_, fun h => by simp at h, rfl⟩
      · rw [Map.get_set, if_neg]
        intro e
        subst e
        exact hk (by unfold Upd.keys; simp)
      · simp only [Option.some.injEq, Prod.mk.injEq] at hks
        obtain ⟨rfl, rfl⟩ := hks
        exact ⟨hb.1, hb.2, rfl⟩

/-- An update of a state that says the same. -/
theorem applyU_eqv {m : Option Nat} {u : Upd} {st1 sta : ASt} (h : applyU st m u = some st1) (he : Eqv st sta) : ∃ sta1, applyU sta m u = some sta1 ∧ Eqv st1 sta1 := by
  obtain ⟨dst, objs⟩ := u
  have hm : ∀ q, q ∈ moreMarks m sta.marks ↔ q ∈ moreMarks m st.marks := by
    intro q
    cases m with
    | none => exact he.marks q
    | some s => simp only [moreMarks, List.mem_cons, he.marks]
  unfold applyU at h ⊢
  cases dst with
  | none =>
    cases h
    exact ⟨_, rfl, he.N, hm, he.slots, fun id => get_setObjs_eq (he.heap id), he.fixed⟩
  | some p =>
    obtain ⟨d, sl⟩ := p
    dsimp only at h ⊢
    have hmay : sta.may d = st.may d := by
      rw [Bool.eq_iff_iff, may_iff, may_iff, he.N, he.marks, he.fixed]
    rw [hmay]
    cases hb : (st.may d && !isMark m d) with
    | false => rw [hb] at h; cases h
    | true =>
      rw [hb] at h
      cases h
      exact ⟨_, rfl, he.N, hm, fun k => by simp only [Map.get_set, he.slots], fun id => get_setObjs_eq (he.heap id), he.fixed⟩

theorem Runs.eqv {ops : Array Oper} {F : Nat → FP} : (l : List Nat) → {st st' sta : ASt} → Runs E ops F l st st' → Eqv st sta → Runs E ops F l sta st'
  | [], st, st', sta, h, he => he.symm.trans h
  | i :: l, st, st', sta, ⟨o, u, st1, h1, h2, h3, h4, h5, h6⟩, he => by
    have hk := keys_local (opRM E ops o) (st := st) (st' := sta) (fun d _ => he.slots d) (fun d _ => he.heap d)
    obtain ⟨sta1, k1, k2⟩ := applyU_eqv h5 he
    exact ⟨o, u, sta1, h1, hk.1.trans h2, hk.2.trans h3, h4, k1, Runs.eqv l h6 k2⟩

theorem guard_key {ops : Array Oper} {o : Oper} {u : Upd} {s : Nat} (hr : (opRM E ops o).run st = some u) (hs : guardSlot ops o = some s) : (s, true) ∈ (opRM E ops o).keys st := by
  unfold guardSlot at hs
  unfold opRM at hr ⊢
  cases hg : o.guard with
  | none => rw [hg] at hs; cases hs
  | some p =>
    obtain ⟨j, want⟩ := p
    rw [hg] at hs hr
    dsimp only at hs hr ⊢
    rw [hs] at hr ⊢
    simp [guardOp, RM.keys]

theorem disj_not {l m : List Key} (h : disj l m = true) {k : Key} (hk : k ∈ l) : k ∉ m := by
  intro hm
  have := List.all_eq_true.1 h k hk
  simp only [Bool.not_eq_true', List.any_eq_false] at this
  exact this k hm (by simp [keyEq, nbeq])

/-- Two neighbours that do not touch each other, exchanged. -/
theorem Runs.swap {ops : Array Oper} {F : Nat → FP} {i j : Nat} {l : List Nat} {st st' : ASt} (h : Runs E ops F (i :: j :: l) st st') (hij : indep (F i) (F j) = true) : Runs E ops F (j :: i :: l) st st' := by
  obtain ⟨o, u, st1, h1, h2, h3, h4, h5, o', u', st2, g1, g2, g3, g4, g5, h6⟩ := h
  simp only [indep, Bool.and_eq_true] at hij
  obtain ⟨⟨d1, d2⟩, d3⟩ := hij
  obtain ⟨p1, p2, p3, p4, p5, p6, p7, p8⟩ := applyU_get h5
  -- the second one, first
  have hk := keys_local (opRM E ops o') (st := st1) (st' := st) (fun d hd => (p3 d (fun hm => by rw [g3] at hd; rw [h4] at hm; exact disj_not d1 hm hd)).symm)
    (fun d hd => (p4 d (fun hm => by rw [g3] at hd; rw [h4] at hm; exact disj_not d1 hm hd)).symm)
  have r2 : (opRM E ops o').run st = some u' := hk.1.trans g2
  have k2 : (opRM E ops o').keys st = (F j).r := hk.2.trans g3
  obtain ⟨q1, q2, q3, q4, q5, q6, q7, q8⟩ := applyU_get g5
  have hst : ∃ sta, applyU st (guardSlot ops o') u' = some sta := by
    unfold applyU
    cases hd : u'.dst with
    | none => exact ⟨_, rfl⟩
    | some p =>
      obtain ⟨d, sl⟩ := p
      obtain ⟨m1, m2, _⟩ := q6 d sl hd
      have : st.may d = true := by
        obtain ⟨m3, m4, m5⟩ := may_iff.1 m1
        refine may_iff.2 ⟨by rw [← p1]; exact m3, fun hm => m4 ?_, by rw [← p8]; exact m5⟩
        rw [p2]
        cases guardSlot ops o <;> simp [moreMarks, hm]
      dsimp only
      rw [this, m2]
      exact ⟨_, rfl⟩
  obtain ⟨sta, hsta⟩ := hst
  obtain ⟨s1, s2, s3, s4, s5, s6, s7, s8⟩ := applyU_get hsta
  have hk' := keys_local (opRM E ops o) (st := st) (st' := sta) (fun d hd => s3 d (fun hm => by rw [h3] at hd; rw [g4] at hm; exact disj_not d2 hm hd))
    (fun d hd => s4 d (fun hm => by rw [h3] at hd; rw [g4] at hm; exact disj_not d2 hm hd))
  have hstb : ∃ stb, applyU sta (guardSlot ops o) u = some stb := by
    unfold applyU
    cases hd : u.dst with
    | none => exact ⟨_, rfl⟩
    | some p =>
      obtain ⟨d, sl⟩ := p
      obtain ⟨m1, m2, _⟩ := p6 d sl hd
      have : sta.may d = true := by
        obtain ⟨m3, m4, m5⟩ := may_iff.1 m1
        refine may_iff.2 ⟨by rw [s1]; exact m3, fun hm => ?_, by rw [s8]; exact m5⟩
        rw [s2] at hm
        cases hgs : guardSlot ops o' with
        | none => rw [hgs] at hm; exact m4 hm
        | some s =>
          rw [hgs] at hm
          rcases List.mem_cons.1 hm with e | hm
          · have hkey := guard_key g2 hgs
            rw [g3] at hkey
            refine disj_not d1 (k := (d, true)) ?_ (by rw [e]; exact hkey)
            rw [← h4]; unfold Upd.keys; rw [hd]; simp
          · exact m4 hm
      dsimp only
      rw [this, m2]
      exact ⟨_, rfl⟩
  obtain ⟨stb, hstb⟩ := hstb
  obtain ⟨t1, t2, t3, t4, t5, t6, t7, t8⟩ := applyU_get hstb
  have heq : Eqv st2 stb := by
    refine ⟨by rw [t1, s1, q1, p1], fun m => ?_, fun d => ?_, fun id => ?_, by rw [t8, s8, q8, p8]⟩
    · rw [t2, s2, q2, p2]
      cases guardSlot ops o <;> cases guardSlot ops o' <;> simp only [moreMarks, List.mem_cons]
      constructor
      · rintro (h | h | h)
        · exact .inr (.inl h)
        · exact .inl h
        · exact .inr (.inr h)
      · rintro (h | h | h)
        · exact .inr (.inl h)
        · exact .inl h
        · exact .inr (.inr h)
    · by_cases hd : (d, true) ∈ u.keys
      · have hd' : (d, true) ∉ u'.keys := by rw [g4]; exact disj_not d3 (by rw [← h4]; exact hd)
        rw [q3 d hd']
        cases hu : u.dst with
        | none => rw [t7 hu, p7 hu, s3 d hd']
        | some p =>
          obtain ⟨e, sl⟩ := p
          rw [(t6 e sl hu).2.2, (p6 e sl hu).2.2, Map.get_set, Map.get_set, s3 d hd']
      · rw [t3 d hd]
        by_cases hd' : (d, true) ∈ u'.keys
        · cases hu : u'.dst with
          | none => rw [s7 hu, q7 hu, p3 d hd]
          | some p =>
            obtain ⟨e, sl⟩ := p
            rw [(s6 e sl hu).2.2, (q6 e sl hu).2.2, Map.get_set, Map.get_set, p3 d hd]
        · rw [s3 d hd', q3 d hd', p3 d hd]
    · by_cases hd : (id, false) ∈ u.keys
      · have hd' : (id, false) ∉ u'.keys := by rw [g4]; exact disj_not d3 (by rw [← h4]; exact hd)
        rw [q4 id hd', t5, p5]
        exact get_setObjs_eq (s4 id hd')
      · rw [t4 id hd, s5, q5]
        exact (get_setObjs_eq (p4 id hd)).symm
  exact ⟨o', u', sta, g1, r2, k2, g4, hsta, o, u, stb, h1, hk'.1.trans h2, hk'.2.trans h3, h4, hstb, Runs.eqv l h6 heq⟩

theorem Runs.bubble {ops : Array Oper} {F : Nat → FP} {i : Nat} {q : List Nat} : (p : List Nat) → {st st' : ASt} → Runs E ops F (p ++ i :: q) st st' → (∀ j ∈ p, indep (F j) (F i) = true) → Runs E ops F (i :: (p ++ q)) st st'
  | [], st, st', h, _ => h
  | j :: p, st, st', ⟨o, u, st1, h1, h2, h3, h4, h5, h6⟩, hi => by
    have := Runs.bubble p h6 fun k hk => hi k (List.mem_cons_of_mem _ hk)
    exact Runs.swap (i := j) (j := i) (l := p ++ q) ⟨o, u, st1, h1, h2, h3, h4, h5, this⟩ (hi j List.mem_cons_self)

theorem indepTo_spec {bits : Nat} {g : FP} : ∀ (fs : List FP) (i : Nat), indepTo bits g i fs = true → ∀ k f, fs[k]? = some f → Nat.testBit bits (i + k) = true ∨ indep f g = true
  | [], i, h, k, f, hf => by simp at hf
  | f0 :: r, i, h, k, f, hf => by
    simp only [indepTo, Bool.and_eq_true, Bool.or_eq_true] at h
    cases k with
    | zero =>
      simp only [List.getElem?_cons_zero, Option.some.injEq] at hf
      subst hf
      exact h.1
    | succ k =>
      simp only [List.getElem?_cons_succ] at hf
      have := indepTo_spec r (i + 1) h.2 k f hf
      rw [show i + 1 + k = i + (k + 1) from by omega] at this
      exact this

theorem opsRD_runs {R : Type} {ops : Array Oper} {bs : List Nat} {K : ASt → Option R} {r : R} : ∀ (l : List Oper) (fs : List FP) (st : ASt), (∀ k o, l[k]? = some o → ops[fs.length + k]? = some o) →
    opsRD E ops bs l fs st K = some r → ∃ gs st', gs.length = l.length ∧ K st' = some r ∧
      (∀ F : Nat → FP, (∀ k g, gs[k]? = some g → F (fs.length + k) = g) → Runs E ops F (List.range' fs.length l.length) st st') ∧
      (∀ i j f g, fs.length ≤ i → j < i → (fs ++ gs)[i]? = some g → (fs ++ gs)[j]? = some f → Nat.testBit (bs.getD i 0) j = true ∨ indep f g = true)
  | [], fs, st, hl, h => by
    refine ⟨[], st, rfl, h, fun F hF => Eqv.refl st, ?_⟩
    intro i j f g h1 h2 h3 h4
    rw [List.append_nil, List.getElem?_eq_none h1] at h3
    cases h3
  | o :: l, fs, st, hl, h => by
    rw [opsRD, runKK_eq] at h
    cases hr : (opRM E ops o).run st with
    | none => rw [hr] at h; cases h
    | some u =>
      rw [hr] at h
      simp only [Option.bind_some] at h
      cases hap : applyU st (guardSlot ops o) u with
      | none => rw [hap] at h; cases h
      | some st1 =>
        rw [hap] at h
        dsimp only at h
        cases hi : indepTo (bs.getD fs.length 0) ⟨(opRM E ops o).keys st, u.keys⟩ 0 fs with
        | false => rw [hi] at h; cases h
        | true =>
          rw [hi] at h
          simp only [cond_true] at h
          obtain ⟨gs, st', g1, g2, g3, g4⟩ := opsRD_runs l (fs ++ [⟨(opRM E ops o).keys st, u.keys⟩]) st1 (fun k o' ho => by
            have := hl (k + 1) o' (by simpa using ho)
            rw [List.length_append, List.length_singleton, show fs.length + 1 + k = fs.length + (k + 1) from by omega]
            exact this) h
          refine ⟨⟨(opRM E ops o).keys st, u.keys⟩ :: gs, st', by simp [g1], g2, fun F hF => ?_, ?_⟩
          · have h0 : F fs.length = ⟨(opRM E ops o).keys st, u.keys⟩ := hF 0 _ rfl
            rw [List.length_cons, List.range'_succ]
            refine ⟨o, u, st1, by simpa using hl 0 o rfl, hr, by rw [h0], by rw [h0], hap, ?_⟩
            have := g3 F (fun k g hg => by
              rw [List.length_append, List.length_singleton, show fs.length + 1 + k = fs.length + (k + 1) from by omega]
              exact hF (k + 1) g (by simpa using hg))
            simpa using this
          · intro i j f g h1 h2 h3 h4
            rw [show fs ++ ⟨(opRM E ops o).keys st, u.keys⟩ :: gs = (fs ++ [⟨(opRM E ops o).keys st, u.keys⟩]) ++ gs from by simp] at h3 h4
            by_cases he : i = fs.length
            · subst he
              rw [List.getElem?_append_left (by simp), List.getElem?_append_right (by omega)] at h3
              simp only [Nat.sub_self, List.getElem?_cons_zero, Option.some.injEq] at h3
              rw [List.getElem?_append_left (by simp; omega), List.getElem?_append_left h2] at h4
              have := indepTo_spec fs 0 hi j f h4
              rw [Nat.zero_add, h3] at this
              exact this
            · exact g4 i j f g (by simp; omega) h2 h3 h4

theorem bitsE_spec {acc : List Nat} {j : Nat} : ∀ (es : List Edge) (s : Nat), Nat.testBit (bitsE es acc s) j = true → Nat.testBit s j = true ∨ ∃ e ∈ es, Region.binds .any e = true ∧ (e.on = j ∨ Nat.testBit (acc.getD e.on 0) j = true)
  | [], s, h => .inl h
  | e :: r, s, h => by
    rw [bitsE] at h
    rcases bitsE_spec r _ h with h | ⟨e', h1, h2, h3⟩
    · cases hb : Region.binds .any e with
      | false => rw [hb] at h; exact .inl h
      | true =>
        rw [hb] at h
        simp only [cond_true, Nat.testBit_or, Bool.or_eq_true, Nat.testBit_two_pow, decide_eq_true_eq] at h
        rcases h with (h | h) | h
        · exact .inl h
        · exact .inr ⟨e, List.mem_cons_self, hb, .inl h⟩
        · exact .inr ⟨e, List.mem_cons_self, hb, .inr h⟩
    · exact .inr ⟨e', List.mem_cons_of_mem _ h1, h2, h3⟩

theorem bef_spec : ∀ (l : List Oper) (acc : List Nat), ∃ r, bef l acc = acc ++ r ∧ ∀ k o, l[k]? = some o → ∀ j, Nat.testBit (r.getD k 0) j = true → ∃ e ∈ o.after.toList, Region.binds .any e = true ∧ (e.on = j ∨ Nat.testBit ((bef l acc).getD e.on 0) j = true)
  | [], acc => ⟨[], by simp [bef], fun k o h => by simp at h⟩
  | o :: l, acc => by
    obtain ⟨r, h1, h2⟩ := bef_spec l (acc ++ [bitsE o.after.toList acc 0])
    have hb : bef (o :: l) acc = bef l (acc ++ [bitsE o.after.toList acc 0]) := by rw [bef, CheckFast.force_eq]
    refine ⟨bitsE o.after.toList acc 0 :: r, by rw [hb, h1]; simp, ?_⟩
    intro k o' ho j hj
    rw [hb]
    cases k with
    | zero =>
      simp only [List.getElem?_cons_zero, Option.some.injEq] at ho
      subst ho
      rw [List.getD_cons_zero] at hj
      rcases bitsE_spec _ _ hj with h | ⟨e, e1, e2, e3⟩
      · simp at h
      · refine ⟨e, e1, e2, e3.imp id fun h => ?_⟩
        by_cases hlt : e.on < acc.length
        · rw [h1, List.append_assoc, List.getD_eq_getElem?_getD, List.getElem?_append_left hlt, ← List.getD_eq_getElem?_getD]; exact h
        · rw [List.getD_eq_getElem?_getD, List.getElem?_eq_none (by omega)] at h
          simp at h
    | succ k =>
      exact h2 k o' (by simpa using ho) j (by simpa using hj)

theorem fwd_spec : ∀ (l : List Oper) (i : Nat), fwd i l = true → ∀ k o, l[k]? = some o → ∀ e ∈ o.after.toList, Region.binds .any e = true → e.on < i + k
  | [], i, h, k, o, ho => by simp at ho
  | o0 :: r, i, h, k, o, ho => by
    simp only [fwd, Bool.and_eq_true] at h
    cases k with
    | zero =>
      simp only [List.getElem?_cons_zero, Option.some.injEq] at ho
      subst ho
      intro e he hb
      have := List.all_eq_true.1 h.1 e he
      rw [hb] at this
      simpa using this
    | succ k =>
      have := fwd_spec r (i + 1) h.2 k o (by simpa using ho)
      intro e he hb
      have := this e he hb
      omega

theorem wpAny_runs (hE : EnvOK P E) {rd : Option Nat} {nn : Nat} {ops : Array Oper} {F : Nat → FP} {B : Nat → Nat} {Q : Exit → Act → World → Prop} {st2 : ASt}
    (hB : ∀ i o, ops[i]? = some o → ∀ j, Nat.testBit (B i) j = true → ∃ e ∈ o.after.toList, Region.binds .any e = true ∧ (e.on = j ∨ Nat.testBit (B e.on) j = true))
    (hfw : ∀ i o, ops[i]? = some o → ∀ e ∈ o.after.toList, Region.binds .any e = true → e.on < i)
    (hI : ∀ i j, i < ops.size → j < i → Nat.testBit (B i) j = true ∨ indep (F j) (F i) = true) (hq : ∀ a' w', Models P w0 st2 a' w' → Q .normal a' w') :
    ∀ (n : Nat) (listed : Array Bool) (l : List Nat) {st : ASt} {a : Act} {w : World}, l.length = n → l.Pairwise (· < ·) → listed.size = ops.size → (∀ i, i ∈ l ↔ i < ops.size ∧ listed.getD i true = false) →
      (∀ i, i < ops.size → i ∉ l → ∀ j, Nat.testBit (B i) j = true → j ∉ l) → Models P w0 st a w → Runs E ops F l st st2 → wpAnyIn (Fr rd) nn P .any ops Q n listed a w := by
  have ready_iff : ∀ (listed : Array Bool) i, i ∈ Region.ready .any ops listed ↔ i < ops.size ∧ listed.getD i true = false ∧ ∃ o, ops[i]? = some o ∧ ∀ e ∈ o.after.toList, Region.binds .any e = true → listed.getD e.on false = true := by
    intro listed i
    unfold Region.ready
    simp only [List.mem_filter, List.mem_range, Bool.and_eq_true, Bool.not_eq_true']
    constructor
    · rintro ⟨h1, h2, h3⟩
      refine ⟨h1, h2, ops[i], by simp [h1], ?_⟩
      simp only [h1, getElem?_pos, Option.map_some, Option.getD_some, Array.all_eq_true_iff_forall_mem] at h3
      intro e he hb
      have := h3 e (by simpa using he)
      rw [hb] at this
      simpa using this
    · rintro ⟨h1, h2, o, h3, h4⟩
      refine ⟨h1, h2, ?_⟩
      rw [h3]
      simp only [Option.map_some, Option.getD_some, Array.all_eq_true_iff_forall_mem]
      intro e he
      cases hb : Region.binds .any e with
      | false => rfl
      | true => simpa using h4 e (by simpa using he) hb
  have listed_of : ∀ (listed : Array Bool) (l : List Nat), listed.size = ops.size → (∀ i, i ∈ l ↔ i < ops.size ∧ listed.getD i true = false) → ∀ i, i < ops.size → (listed.getD i false = true ↔ i ∉ l) := by
    intro listed l hs hl i hi
    rw [hl]
    simp only [hi, true_and]
    simp [Array.getD, hs, hi]
  intro n
  induction n with
  | zero =>
    intro listed l st a w hn hp hs hl hc hm hr
    have : l = [] := List.eq_nil_of_length_eq_zero hn
    subst this
    refine ⟨?_, hq a w (Eqv.models hr hm)⟩
    refine List.eq_nil_iff_forall_not_mem.2 fun i hi => ?_
    obtain ⟨h1, h2, _⟩ := (ready_iff _ _).1 hi
    exact absurd ((hl i).2 ⟨h1, h2⟩) (by simp)
  | succ n ih =>
    intro listed l st a w hn hp hs hl hc hm hr
    constructor
    · intro hnil
      cases l with
      | nil => simp at hn
      | cons h0 t =>
        obtain ⟨g1, g2⟩ := (hl h0).1 List.mem_cons_self
        have : h0 ∈ Region.ready .any ops listed := by
          refine (ready_iff _ _).2 ⟨g1, g2, ops[h0], by simp [g1], fun e he hb => ?_⟩
          have hlt := hfw h0 _ (by simp [g1]) e he hb
          refine (listed_of listed _ hs hl e.on (by omega)).2 fun hmem => ?_
          rcases List.mem_cons.1 hmem with e1 | e1
          · omega
          · have := (List.pairwise_cons.1 hp).1 _ e1
            omega
        rw [hnil] at this
        cases this
    · intro i hi
      obtain ⟨h1, h2, o, h3, h4⟩ := (ready_iff _ _).1 hi
      have hil : i ∈ l := (hl i).2 ⟨h1, h2⟩
      obtain ⟨p, q, rfl⟩ := List.append_of_mem hil
      -- what stands ahead has been listed
      have hahead : ∀ j, Nat.testBit (B i) j = true → j ∉ p ++ i :: q := by
        intro j hj
        obtain ⟨e, e1, e2, e3⟩ := hB i o h3 j hj
        have hel := h4 e e1 e2
        have hlt := hfw i o h3 e e1 e2
        have hen := (listed_of listed _ hs hl e.on (by omega)).1 hel
        rcases e3 with rfl | e3
        · exact hen
        · exact hc e.on (by omega) hen j e3
      have hpw := List.pairwise_append.1 hp
      have hpi : ∀ j ∈ p, j < i := fun j hj => hpw.2.2 j hj i List.mem_cons_self
      have hruns := Runs.bubble p hr fun j hj => (hI i j h1 (hpi j hj)).resolve_left fun hb => hahead j hb (by simp [hj])
      obtain ⟨o', u, st1, r1, r2, r3, r4, r5, r6⟩ := hruns
      have ho : o' = o := by rw [h3] at r1; exact (Option.some.inj r1).symm
      subst ho
      have hstep := opRM_sound hE hm r2 r5
      have hnotin : i ∉ p ++ q := by
        intro hm
        rcases List.mem_append.1 hm with hm | hm
        · exact absurd (hpi i hm) (by omega)
        · have := (List.pairwise_cons.1 hpw.2.1).1 i hm
          omega
      have next : ∀ a' w', Models P w0 st1 a' w' → wpAnyIn (Fr rd) nn P .any ops Q n (listed.setIfInBounds i true) a' w' := by
        intro a' w' hm'
        refine ih _ (p ++ q) (by simp at hn ⊢; omega) ?_ (by simp [hs]) ?_ ?_ hm' r6
        · exact List.pairwise_append.2 ⟨hpw.1, (List.pairwise_cons.1 hpw.2.1).2, fun x hx y hy => hpw.2.2 x hx y (List.mem_cons_of_mem _ hy)⟩
        · intro k
          have hk := hl k
          by_cases hki : k = i
          · subst hki
            constructor
            · intro h; exact absurd h hnotin
            · rintro ⟨_, h⟩
              simp [Array.getD, hs, h1] at h
          · have : (k ∈ p ++ q) ↔ (k ∈ p ++ i :: q) := by simp [hki]
            rw [this, hk]
            by_cases hks : k < ops.size
            · simp [Array.getD, hs, hks, Array.getElem_setIfInBounds, Ne.symm hki]
            · simp [hks]
        · intro k hk hkn j hj
          by_cases hki : k = i
          · subst hki
            intro hm
            exact hahead j hj (by rcases List.mem_append.1 hm with h | h <;> simp [h])
          · intro hm
            refine hc k hk (fun hmem => hkn ?_) j hj (by rcases List.mem_append.1 hm with h | h <;> simp [h])
            rcases List.mem_append.1 hmem with h | h
            · exact List.mem_append_left _ h
            · rcases List.mem_cons.1 h with e | h
              · exact absurd e hki
              · exact List.mem_append_right _ h
      unfold wpOpIn
      rw [h3]
      dsimp only
      cases hw : Region.wanted o' (yielded ops a.tmps) with
      | true =>
        simp only [if_true]
        exact op_in (no_defer r2) (hstep.1 hw _ Q fun a' w' hm' => next a' w' hm')
      | false =>
        simp only [Bool.false_eq_true, if_false]
        exact ⟨fun _ _ => trivial, next _ _ (hstep.2 hw)⟩

end Go.Abs
