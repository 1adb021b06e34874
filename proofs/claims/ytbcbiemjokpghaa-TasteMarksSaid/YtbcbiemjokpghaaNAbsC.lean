/- How a state's frame and objects are changed. -/
import Derived.Test.YtbcbiemjokpghaaNAbsB
set_option linter.unusedSimpArgs false
set_option linter.unusedVariables false
namespace Go.Abs
open Go
variable {P : Program}

theorem labs_put {a : Act} {d : Nat} {v : Value} {L : List (Nat × Bool)} (h : ∀ p ∈ L, p.1 ≠ d) : labs (a.put (some d) v).tmps L ↔ labs a.tmps L := by
  constructor
  · intro hl p hp
    have := hl p hp
    rwa [put_get_ne _ _ _ _ (fun e => h p hp (by simpa using e.symm))] at this
  · intro hl p hp
    rw [put_get_ne _ _ _ _ (fun e => h p hp (by simpa using e.symm))]
    exact hl p hp

theorem any_nbeq {l : List Nat} {d : Nat} : l.any (Nat.beq d) = false ↔ d ∉ l := by
  constructor
  · intro h2 hm
    have : l.any (Nat.beq d) = true := List.any_eq_true.2 ⟨d, hm, by simp [nbeq]⟩
    rw [this] at h2; cases h2
  · intro h2
    rw [Bool.eq_false_iff]
    intro h3
    obtain ⟨x, hx, he⟩ := List.any_eq_true.1 h3
    rw [nbeq] at he
    have : d = x := by simpa using he
    exact h2 (this ▸ hx)

theorem may_iff {st : ASt} {d : Nat} : st.may d = true ↔ d < st.N ∧ d ∉ st.marks ∧ d ∉ st.fixed := by
  simp only [ASt.may, Bool.and_eq_true, Bool.not_eq_true', any_nbeq, and_assoc]
  refine and_congr ⟨fun h1 => ?_, fun h1 => ?_⟩ Iff.rfl
  · have : d + 1 ≤ st.N := by simpa [Nat.blt] using h1
    omega
  · have : d + 1 ≤ st.N := h1
    simpa [Nat.blt] using this

/-- A slot is written. -/
theorem Mod.put {w0 : Start} {w : World} {conc : Conc} {st : ASt} {a : Act} (h : Mod P w0 conc st a w) {d : Nat} {sl : Slot} {v : Value} {ms : List Nat}
    (hm : st.may d = true) (hms : ∀ m ∈ st.marks, m ∈ ms) (hL : ∀ p ∈ sl.L, p.1 ∈ ms ∧ p.1 ≠ d) (hv : SlotRel P w conc (okOf conc) a.tmps sl v) :
    Mod P w0 conc { N := st.N, marks := ms, slots := Map.set st.slots d sl, heap := st.heap, fixed := st.fixed } (a.put (some d) v) w where
  defers := h.defers
  fixed := fun s hs => by
    obtain ⟨_, _, hnf⟩ := may_iff.1 hm
    rw [put_get_ne _ _ _ _ (fun e => hnf (by cases e; exact hs))]
    exact h.fixed s hs
  size := by rw [put_size]; exact h.size
  marks := fun k sl' hk p hp => by
    simp only [Map.get_set] at hk
    split at hk
    · cases hk; exact (hL p hp).1
    · exact hms _ (h.marks k sl' hk p hp)
  slots := fun k sl' hk => by
    obtain ⟨hd, hnm, _⟩ := may_iff.1 hm
    simp only [Map.get_set] at hk
    split at hk
    · rename_i e; subst e; cases hk
      have hl := labs_put (a := a) (v := v) (L := sl.L) fun p hp => (hL p hp).2
      refine ⟨v, put_get a d v (by rw [h.size]; exact hd), ⟨fun g => hv.yes (hl.1 g), fun g => hv.no fun g' => g (hl.2 g')⟩⟩
    · rename_i e
      obtain ⟨u, h1, h2⟩ := h.slots k sl' hk
      have hl := labs_put (a := a) (v := v) (L := sl'.L) fun p hp e' => hnm (by have := h.marks k sl' hk p hp; rwa [e'] at this)
      refine ⟨u, by rw [put_get_ne _ _ _ _ (by simpa using e)]; exact h1, ⟨fun g => h2.yes (hl.1 g), fun g => h2.no fun g' => g (hl.2 g')⟩⟩
  heap := h.heap
  dead := h.dead
  inj := h.inj
  base := h.base
  keeps := h.keeps
  cB := h.cB
  cY := h.cY
  okS := h.okS

theorem Mod.marks_more {w0 : Start} {w : World} {conc : Conc} {st : ASt} {a : Act} (h : Mod P w0 conc st a w) {ms : List Nat} (hms : ∀ m ∈ st.marks, m ∈ ms) :
    Mod P w0 conc { st with marks := ms } a w where
  defers := h.defers
  size := h.size
  marks := fun k sl' hk p hp => hms _ (h.marks k sl' hk p hp)
  slots := h.slots
  heap := h.heap
  dead := h.dead
  inj := h.inj
  base := h.base
  keeps := h.keeps
  cB := h.cB
  cY := h.cY
  okS := h.okS
  fixed := h.fixed

/-- An object in another's place, or written: only its own block may have changed. -/
theorem Mod.obj {w0 : Start} {w w' : World} {conc : Conc} {st : ASt} {a : Act} (h : Mod P w0 conc st a w) {id ver : Nat} {c : Value} {o : AObj}
    (hver : ∀ cv c0 ow, conc id = some (cv, c0, ow) → cv < ver ∨ (ver = cv ∧ c = c0))
    (hos : w'.os = w.os) (htape : w'.tape = w.tape) (hout : w'.output = w.output) (hsize : w.heap.size ≤ w'.heap.size)
    (hblocks : ∀ b, b < w.heap.size → (∀ cv c0, conc id = some (cv, c0, true) → blockOf c0 ≠ some b) → w'.heap[b]? = w.heap[b]?)
    (hnew : ∀ b, blockOf c = some b → (w.heap.size ≤ b ∨ ∃ cv c0, conc id = some (cv, c0, true) ∧ blockOf c0 = some b) ∧ b < w'.heap.size)
    (hO : ∀ conc', CLe conc conc' → conc' id = some (ver, c, true) → Ext (okOf conc) w w' → Sub w (okOf conc) (okOf conc') → (∀ b, w.heap.size ≤ b → blockOf c ≠ some b → okOf conc' b) → ORel P w' conc' (okOf conc') c true o) :
    ∃ conc', Mod P w0 conc' { st with heap := Map.set st.heap id (ver, o) } a w' ∧ conc' id = some (ver, c, true) ∧ CLe conc conc' ∧ Ext (okOf conc) w w' ∧ Sub w (okOf conc) (okOf conc') := by
  let conc' : Conc := ⟨fun j => if j = id then some (ver, c, true) else conc j, conc.B, conc.yl⟩
  have e1 : conc' id = some (ver, c, true) := by simp [conc']
  have e2 : ∀ j, j ≠ id → conc' j = conc j := fun j hj => by simp [conc', hj]
  have hle : CLe conc conc' := by
    refine ⟨rfl, ?_⟩
    intro j cv c0 ow hj
    by_cases e : j = id
    · subst e; exact ⟨ver, c, true, e1, hver cv c0 ow hj⟩
    · exact ⟨cv, c0, ow, by rw [e2 j e]; exact hj, .inr ⟨rfl, rfl⟩⟩
  have hx : Ext (okOf conc) w w' := ⟨hsize, fun b hb hl => hblocks b hl fun cv c0 hi => hb.2 id cv c0 hi⟩
  have hs : Sub w (okOf conc) (okOf conc') := by
    intro b hb hl
    refine ⟨hb.1, fun j cv c0 hj hbl => ?_⟩
    by_cases e : j = id
    · subst e
      rw [e1] at hj; cases hj
      rcases (hnew b hbl).1 with h1 | ⟨cv', c', h1, h2⟩
      · omega
      · exact hb.2 _ _ _ h1 h2
    · rw [e2 j e] at hj
      exact hb.2 j cv c0 hj hbl
  have hz : ∀ b, w.heap.size ≤ b → blockOf c ≠ some b → okOf conc' b := by
    intro b hb hn
    refine ⟨by show conc.B b; rw [h.cB]; exact h.up b (Nat.le_trans h.keeps.size hb), fun j cv c0 hj hbl => ?_⟩
    by_cases e : j = id
    · subst e
      rw [e1] at hj; cases hj
      exact hn hbl
    · rw [e2 j e] at hj
      have := (h.base j cv c0 b hj hbl).2
      omega
  refine ⟨conc', ?_, e1, hle, hx, hs⟩
  refine
    { defers := h.defers, size := h.size, marks := h.marks, slots := ?_, heap := ?_, dead := ?_, inj := ?_, base := ?_, keeps := ?_, cB := h.cB, cY := h.cY, okS := h.okS, fixed := h.fixed }
  · intro d sl hd
    obtain ⟨v, h1, h2⟩ := h.slots d sl hd
    exact ⟨v, h1, ⟨fun hl => ⟨(h2.yes hl).1, (h2.yes hl).2.mono hx hs hle⟩, h2.no⟩⟩
  · intro j vj oj hj
    simp only [Map.get_set] at hj
    split at hj
    · rename_i e; subst e
      cases hj
      exact ⟨c, true, e1, hO conc' hle e1 hx hs hz⟩
    · rename_i e
      obtain ⟨c0, ow, g1, g2⟩ := h.heap j vj oj hj
      refine ⟨c0, ow, by rw [e2 j (fun q => e q.symm)]; exact g1, g2.mono hx hs hle fun eo b hb => ?_⟩
      subst eo
      refine hblocks b (h.base j vj c0 b g1 hb).2 fun cv c1 hi hb' => e ?_
      exact h.inj id j cv vj c1 c0 b hi g1 hb' hb
  · intro j hj
    simp only [Map.get_set] at hj
    split at hj
    · cases hj
    · rename_i e; rw [e2 j (fun q => e q.symm)]; exact h.dead j hj
  · intro i j vi vj ci cj b hi hj hbi hbj
    by_cases ei : i = id
    · by_cases ej : j = id
      · rw [ei, ej]
      · subst ei
        rw [e1] at hi; cases hi
        rw [e2 j ej] at hj
        rcases (hnew b hbi).1 with g | ⟨cv, c0, g1, g2⟩
        · have := (h.base j vj cj b hj hbj).2; omega
        · exact h.inj _ _ _ _ _ _ b g1 hj g2 hbj
    · rw [e2 i ei] at hi
      by_cases ej : j = id
      · subst ej
        rw [e1] at hj; cases hj
        rcases (hnew b hbj).1 with g | ⟨cv, c0, g1, g2⟩
        · have := (h.base i vi ci b hi hbi).2; omega
        · exact h.inj _ _ _ _ _ _ b hi g1 hbi g2
      · rw [e2 j ej] at hj
        exact h.inj i j vi vj ci cj b hi hj hbi hbj
  · intro i vi ci b hi hb
    by_cases ei : i = id
    · subst ei
      rw [e1] at hi; cases hi
      refine ⟨?_, (hnew b hb).2⟩
      rcases (hnew b hb).1 with g | ⟨cv, c0, g1, g2⟩
      · exact .inl (Nat.le_trans h.keeps.size g)
      · exact (h.base _ _ _ _ g1 g2).1
    · rw [e2 i ei] at hi
      exact ⟨(h.base i vi ci b hi hb).1, Nat.lt_of_lt_of_le (h.base i vi ci b hi hb).2 hsize⟩
  · refine ⟨hos.trans h.keeps.os, htape.trans h.keeps.tape, hout.trans h.keeps.output, Nat.le_trans h.keeps.size hsize, fun b hb hM => ?_⟩
    rw [hblocks b (Nat.lt_of_lt_of_le hb h.keeps.size) fun cv c0 hi hbl => ?_]
    · exact h.keeps.block b hb hM
    · rcases (h.base _ _ _ _ hi hbl).1 with g | g
      · omega
      · exact hM g

/-! Objects that are written no more. -/

def frzL (conc : Conc) (F : List Nat) : Conc := ⟨fun id => match conc id with
  | some (cv, c, ow) => some (cv, c, ow && !F.contains id)
  | none => none, conc.B, conc.yl⟩

theorem frzL_le (conc : Conc) (F : List Nat) : CLe conc (frzL conc F) := by
  refine ⟨rfl, ?_⟩
  intro id cv c ow h
  exact ⟨cv, c, _, by simp [frzL, h]; rfl, .inr ⟨rfl, rfl⟩⟩

theorem frzL_sub (w : World) (conc : Conc) (F : List Nat) : Sub w (okOf conc) (okOf (frzL conc F)) := by
  intro b hb _
  refine ⟨hb.1, fun id cv c hi => ?_⟩
  unfold frzL at hi
  cases hc : conc id with
  | none => simp [hc] at hi
  | some q =>
    obtain ⟨cv', c', ow⟩ := q
    simp [hc] at hi
    obtain ⟨rfl, rfl, rfl, _⟩ := hi
    exact hb.2 id _ _ hc

theorem frzL_own {conc : Conc} {F : List Nat} {id cv : Nat} {c : Value} (h : frzL conc F id = some (cv, c, true)) : conc id = some (cv, c, true) ∧ id ∉ F := by
  unfold frzL at h
  cases hc : conc id with
  | none => simp [hc] at h
  | some q =>
    obtain ⟨cv', c', ow⟩ := q
    simp [hc] at h
    obtain ⟨rfl, rfl, rfl, hF⟩ := h
    exact ⟨rfl, hF⟩

theorem frzL_nil (conc : Conc) : frzL conc [] = conc := by
  obtain ⟨m, B, yl⟩ := conc
  simp only [frzL, Conc.mk.injEq, and_true]
  funext id
  cases m id with
  | none => rfl
  | some q => obtain ⟨cv, c, ow⟩ := q; simp

/-- A frozen object's block is ok. -/
theorem okOf_frz {w0 : Start} {w : World} {conc : Conc} {st : ASt} {a : Act} (h : Mod P w0 conc st a w) {F : List Nat} {id cv b : Nat} {c : Value} (hid : id ∈ F)
    (hc : conc id = some (cv, c, true)) (hb : blockOf c = some b) : okOf (frzL conc F) b := by
  refine ⟨by show conc.B b; rw [h.cB]; exact h.inB hc hb, fun j vj cj hj hbj => ?_⟩
  obtain ⟨h1, h2⟩ := frzL_own hj
  exact h2 (h.inj id j _ _ _ _ b hc h1 hb hbj ▸ hid)

def ids (W : W) : List Nat := W.map (·.1)

def FrzW (P : Program) (conc : Conc) (st : ASt) (w : World) (F : List Nat) (l : W) : Prop :=
  ∀ id cv o, (id, (cv, o)) ∈ l → (∃ o0, Map.get st.heap id = some (cv, o0)) ∧ ∃ c, conc id = some (cv, c, true) ∧ ORel P w (frzL conc F) (okOf (frzL conc F)) c false o

theorem setObjs_append (h : List (Nat × (Nat × AObj))) (l m : W) : setObjs h (l ++ m) = setObjs (setObjs h l) m := by
  induction l generalizing h with
  | nil => rfl
  | cons p l ih => obtain ⟨id, o⟩ := p; simp only [List.cons_append, setObjs, ih]

theorem get_setObjs (h : List (Nat × (Nat × AObj))) (l : W) (id : Nat) :
    (Map.get (setObjs h l) id = Map.get h id ∧ id ∉ ids l) ∨ ∃ o, Map.get (setObjs h l) id = some o ∧ (id, o) ∈ l := by
  induction l generalizing h with
  | nil => exact .inl ⟨rfl, by simp [ids]⟩
  | cons p l ih =>
    obtain ⟨j, o⟩ := p
    rcases ih (Map.set h j o) with ⟨h1, h2⟩ | ⟨o', h1, h2⟩
    · simp only [setObjs, h1, Map.get_set]
      by_cases e : j = id
      · subst e; exact .inr ⟨o, by simp, by simp⟩
      · refine .inl ⟨by simp [e], ?_⟩
        simp only [ids, List.map_cons, List.mem_cons, not_or]
        exact ⟨fun q => e q.symm, h2⟩
    · exact .inr ⟨o', by simpa [setObjs] using h1, List.mem_cons_of_mem _ h2⟩

theorem Mod.freeze {w0 : Start} {w : World} {conc : Conc} {st : ASt} {a : Act} (h : Mod P w0 conc st a w) {l : W} (hl : FrzW P conc st w (ids l) l) :
    Mod P w0 (frzL conc (ids l)) { st with heap := setObjs st.heap l } a w where
  defers := h.defers
  size := h.size
  marks := h.marks
  slots := fun d sl hd => by
    obtain ⟨v, h1, h2⟩ := h.slots d sl hd
    exact ⟨v, h1, ⟨fun g => ⟨(h2.yes g).1, (h2.yes g).2.mono ⟨Nat.le_refl _, fun _ _ _ => rfl⟩ (frzL_sub w _ _) (frzL_le _ _)⟩, h2.no⟩⟩
  heap := fun id ver o ho => by
    rcases get_setObjs st.heap l id with ⟨h1, h2⟩ | ⟨o', h1, h2⟩
    · simp only [h1] at ho
      obtain ⟨c, ow, g1, g2⟩ := h.heap id ver o ho
      refine ⟨c, ow, ?_, g2.mono ⟨Nat.le_refl _, fun _ _ _ => rfl⟩ (frzL_sub w _ _) (frzL_le _ _) (fun _ _ _ => rfl)⟩
      simp [frzL, g1, h2]
    · simp only [h1, Option.some.injEq] at ho
      subst ho
      obtain ⟨_, c, g1, g2⟩ := hl id ver o h2
      refine ⟨c, false, ?_, g2⟩
      have : id ∈ ids l := List.mem_map.2 ⟨_, h2, rfl⟩
      simp [frzL, g1, this]
  dead := fun id hd => by
    rcases get_setObjs st.heap l id with ⟨h1, h2⟩ | ⟨o', h1, h2⟩
    · simp only [h1] at hd
      simp [frzL, h.dead id hd]
    · simp [h1] at hd
  inj := fun i j vi vj ci cj b hi hj => h.inj i j vi vj ci cj b (frzL_own hi).1 (frzL_own hj).1
  base := fun i vi c b hi => h.base i vi c b (frzL_own hi).1
  keeps := h.keeps
  cB := h.cB
  cY := h.cY
  okS := h.okS
  fixed := h.fixed

theorem FrzW.append {conc : Conc} {st : ASt} {w : World} {F : List Nat} {l m : W} (h : FrzW P conc st w F l) (h' : FrzW P conc st w F m) : FrzW P conc st w F (l ++ m) := by
  intro id cv o hm
  rcases List.mem_append.1 hm with hm | hm
  · exact h id cv o hm
  · exact h' id cv o hm

theorem FrzW.nil {conc : Conc} {st : ASt} {w : World} {F : List Nat} : FrzW P conc st w F [] := fun _ _ _ h => by simp at h

theorem ids_append (l m : W) : ids (l ++ m) = ids l ++ ids m := by simp [ids]

end Go.Abs
