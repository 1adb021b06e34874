/- Guards; regions in the order of the text; code. -/
import Derived.Test.YtbcbiemjokpghaaNAbsR
import Derived.OrdersIn
set_option linter.unusedSimpArgs false
set_option linter.unusedVariables false
namespace Go.Abs
open Go
variable {P : Program} {E : Env} {w0 : Start} {w : World} {conc : Conc} {st : ASt} {a : Act}

/-- One operation of a region, carried out or passed over. -/
def StepOK (P : Program) (w0 : Start) (ops : Array Oper) (o : Oper) (a : Act) (w : World) (st' : ASt) : Prop :=
  (Region.wanted o (yielded ops a.tmps) = true → OpOK P w0 o a w st') ∧ (Region.wanted o (yielded ops a.tmps) = false → Models P w0 st' (a.put o.dst undef) w)

/-- A slot under a test is written. -/
theorem lab_done (h : Mod P w0 conc st a w) {L : List (Nat × Bool)} {g : Bool} {s : SVal} {q : Nat} {W0 : W} {d : Option Nat} {st' : ASt} {v : Value} {w1 : World} (hk : Keeps w w1) (hW : W0 = [])
    (hap : applyU st (some q) (.slot d L g s W0) = some st') (hL : ∀ p ∈ L, p.1 = q ∨ p.1 ∈ st.marks) (hv : SlotRel P w1 conc (okOf conc) a.tmps ⟨L, g, s⟩ v) : Models P w0 st' (a.put d v) w1 := by
  subst hW
  refine ⟨conc, ?_⟩
  have h1 := h.grow hk
  rcases applyU_slot hap with ⟨d', rfl, g1, g2, rfl⟩ | ⟨rfl, rfl⟩
  · refine h1.put (d := d') (sl := ⟨L, g, s⟩) (v := v) (ms := moreMarks (some q) st.marks) g1 (fun m hm => List.mem_cons_of_mem _ hm) (fun p hp => ?_) hv
    rcases hL p hp with e | e
    · exact ⟨by rw [e]; exact List.mem_cons_self, fun e2 => g2 q rfl (by rw [← e2, e])⟩
    · exact ⟨List.mem_cons_of_mem _ e, fun e2 => (may_iff.1 g1).2.1 (e2 ▸ e)⟩
  · exact h1.marks_more (ms := moreMarks (some q) st.marks) fun m hm => List.mem_cons_of_mem _ hm

def boolV : Value → Option Bool
  | .bool b => some b
  | _ => none

theorem boolV_some {v : Value} {b : Bool} (h : boolV v = some b) : v = .bool b := by
  cases v <;> simp [boolV] at h
  rw [h]

theorem guardOp_sound (hE : EnvOK P E) (h : Mod P w0 conc st a w) {ops : Array Oper} {o : Oper} {j s : Nat} {want : Bool} (hg : o.guard = some (j, want)) (hs : (ops[j]?).bind (·.dst) = some s)
    {u : Upd} (hr : (guardOp E o s want).run st = some u) {st' : ASt} (hap : applyU st (some s) u = some st') : StepOK P w0 ops o a w st' := by
  simp only [guardOp, RM.run] at hr
  split at hr
  · rename_i L g b hsl
    obtain ⟨v, hv1, hv2⟩ := h.slots s _ hsl
    have hmk := h.marks s _ hsl
    dsimp only at hmk
    have hy : yielded ops a.tmps j = boolV v := by
      unfold yielded
      rw [hs]
      simp only [Option.bind_some, hv1]
      cases v <;> rfl
    have hw : Region.wanted o (yielded ops a.tmps) = ((yielded ops a.tmps j) == some want) := by
      unfold Region.wanted; rw [hg]
    let L' : List (Nat × Bool) := (s, want) :: L
    let g' : Bool := gAnd L g (bif want then b else !b)
    have hL' : ∀ p ∈ L', p.1 = s ∨ p.1 ∈ st.marks := by
      intro p hp
      rcases List.mem_cons.1 hp with rfl | hp
      · exact .inl rfl
      · exact .inr (hmk p hp)
    have yes : Region.wanted o (yielded ops a.tmps) = true → labs a.tmps L' ∧ g' = true := by
      intro hwt
      rw [hw, hy] at hwt
      have hvb : v = .bool want := boolV_some (by simpa using hwt)
      by_cases hl : labs a.tmps L
      · obtain ⟨k1, k2⟩ := hv2.yes hl
        obtain ⟨us, e1, e2⟩ := k2
        have := rep_bool e1 e2
        rw [hvb] at this
        have hbw : b = want := by cases this; rfl
        refine ⟨labs_cons (by rw [hv1, hvb]) hl, ?_⟩
        have hb' : (bif want then b else !b) = true := by
          rw [hbw]; cases want <;> rfl
        show gAnd L g (bif want then b else !b) = true
        rw [hb']
        have hgt : g = true := k1
        rw [hgt]
        unfold gAnd
        split <;> rfl
      · have := hv2.no hl
        rw [hvb] at this; cases this
    have no : labs a.tmps L' → Region.wanted o (yielded ops a.tmps) = true := by
      intro hl
      have h1 := hl (s, want) (List.mem_cons_self)
      dsimp only at h1
      rw [hv1] at h1
      cases h1
      rw [hw, hy]
      simp [boolV]
    split at hr
    · rename_i f args tys hop
      obtain ⟨q, g1, hr⟩ := RM.bind_some hr
      split at hr
      · rename_i hnil
        cases hr
        constructor
        · intro hwt
          obtain ⟨hl, hgt⟩ := yes hwt
          have g1' : (callOp E L' g' f args.toList).run st = some q := g1
          rw [hgt] at g1'
          obtain ⟨hfrz, fid, cargs, hex, hcall⟩ := callOp_sound hE h hl hop g1'
          refine OpOK.enter hex hcall ?_
          rintro v' w' ⟨e2, e3, _⟩
          rw [hnil, show ids [] = [] from rfl, frzL_nil] at e3
          exact lab_done (W0 := []) h e2 rfl hap hL' ⟨fun _ => ⟨hgt, e3⟩, fun hn => absurd hl hn⟩
        · intro hwf
          have hn : ¬ labs a.tmps L' := fun hl => by rw [no hl] at hwf; cases hwf
          exact lab_done (W0 := []) h (Keeps.refl w) rfl hap hL' ⟨fun hl => absurd hl hn, fun _ => rfl⟩
      · cases hr
    · rename_i T n ps hop
      split at hr
      · rename_i e hT
        obtain ⟨l, g1, hr1⟩ := RM.bind_some hr
        split at hr1
        · rename_i hnil
          obtain ⟨g2, hr2⟩ := cond_some hr1
          simp only [Bool.and_eq_true] at g2
          cases hr2
          constructor
          · intro hwt
            obtain ⟨hl, hgt⟩ := yes hwt
            obtain ⟨k3, k2, cs', T', hcs, k5, hrun⟩ := buildSlice_run hE h hop hT g2.1 (by simpa using g2.2) g1
            rw [hnil, show ids [] = [] from rfl, frzL_nil] at k5
            refine OpOK.value hrun ?_
            refine lab_done (W0 := []) h (Keeps.alloc w _) rfl hap hL' ⟨fun _ => ⟨hgt, [_], rfl, some ⟨w.heap.size, 0, none⟩, n, by rw [k2], by rw [k2]; exact Nat.le_refl _, .inr ⟨w.heap.size, 0, cs', T', _, rfl, ?_, heap_alloc_new _ _, ?_, fun i y hi => ?_⟩⟩, fun hn => absurd hl hn⟩
            · refine ⟨by rw [h.cB]; exact h.up _ h.keeps.size, fun id ver c hc hbl => ?_⟩
              have := (h.base id ver c _ hc hbl).2
              omega
            · rw [k2, Nat.zero_add, hcs]
              exact Nat.le_refl _
            · rw [Nat.zero_add]
              exact (k5.2.2 i y hi).mono e (Keeps.ext (Keeps.alloc w _) _) (Sub.refl _ _)
          · intro hwf
            have hn : ¬ labs a.tmps L' := fun hl => by rw [no hl] at hwf; cases hwf
            exact lab_done (W0 := []) h (Keeps.refl w) rfl hap hL' ⟨fun hl => absurd hl hn, fun _ => rfl⟩
        · cases hr1
      · cases hr
    · obtain ⟨q, g1, hr⟩ := RM.bind_some hr
      cases hr
      constructor
      · intro hwt
        obtain ⟨hl, hgt⟩ := yes hwt
        have g1' : (valOp E L' g' o.op).run st = some q := g1
        rw [hgt] at g1'
        obtain ⟨v', e1, e2⟩ := valOp_sound hE h hl g1'
        refine OpOK.value e1 ?_
        exact lab_done (W0 := []) h (Keeps.refl w) rfl hap hL' ⟨fun _ => ⟨hgt, e2⟩, fun hn => absurd hl hn⟩
      · intro hwf
        have hn : ¬ labs a.tmps L' := fun hl => by rw [no hl] at hwf; cases hwf
        exact lab_done (W0 := []) h (Keeps.refl w) rfl hap hL' ⟨fun hl => absurd hl hn, fun _ => rfl⟩
  · cases hr

theorem opRM_sound (hE : EnvOK P E) (h : Models P w0 st a w) {ops : Array Oper} {o : Oper} {u : Upd} (hr : (opRM E ops o).run st = some u) {st' : ASt} (hap : applyU st (guardSlot ops o) u = some st') : StepOK P w0 ops o a w st' := by
  obtain ⟨conc, h⟩ := h
  unfold opRM at hr
  unfold guardSlot at hap
  cases hg : o.guard with
  | none =>
    rw [hg] at hr hap
    have hw : Region.wanted o (yielded ops a.tmps) = true := by unfold Region.wanted; rw [hg]
    exact ⟨fun _ => effOp_sound hE h hr hap, fun hf => by rw [hw] at hf; cases hf⟩
  | some p =>
    obtain ⟨j, want⟩ := p
    rw [hg] at hr hap
    dsimp only at hr hap
    cases hs : (ops[j]?).bind (·.dst) with
    | none => rw [hs] at hr; cases hr
    | some s =>
      rw [hs] at hr hap
      exact guardOp_sound hE h hg hs hr hap

/-- What one operation does to a state, by itself. -/
def stepD (E : Env) (ops : Array Oper) (o : Oper) (st : ASt) : Option ASt := ((opRM E ops o).run st).bind fun u => applyU st (guardSlot ops o) u

theorem opR_eq {R : Type} (ops : Array Oper) (o : Oper) (st : ASt) (K : ASt → Option R) : opR E ops o st K = (stepD E ops o st).bind K := by
  unfold opR stepD
  rw [RM.runK_eq]
  cases (opRM E ops o).run st with
  | none => rfl
  | some u =>
    simp only [Option.bind_some]
    cases applyU st (guardSlot ops o) u <;> rfl

def stepsD (E : Env) (ops : Array Oper) : List Oper → ASt → Option ASt
  | [], st => some st
  | o :: r, st => (stepD E ops o st).bind (stepsD E ops r)

theorem opsR_eq {R : Type} (ops : Array Oper) : ∀ (l : List Oper) (st : ASt) (K : ASt → Option R), opsR E ops l st K = (stepsD E ops l st).bind K
  | [], st, K => rfl
  | o :: r, st, K => by
    rw [opsR, opR_eq, stepsD]
    cases stepD E ops o st with
    | none => rfl
    | some st' => simp only [Option.bind_some]; exact opsR_eq ops r st' K

theorem stepD_sound (hE : EnvOK P E) (h : Models P w0 st a w) {ops : Array Oper} {o : Oper} {st' : ASt} (hr : stepD E ops o st = some st') : StepOK P w0 ops o a w st' := by
  unfold stepD at hr
  cases hu : (opRM E ops o).run st with
  | none => rw [hu] at hr; cases hr
  | some u => rw [hu] at hr; exact opRM_sound hE h hu hr

/-! Fences: the wide one, and that of a round of a loop over a function. -/
def Fr (r : Option Nat) : Fence := { Fence.wide with round := r }
theorem fr_none : Fr none = Fence.wide := rfl
theorem fr_room (r : Option Nat) (n : Nat) : (Fr r).room n := fun _ h => by simp [Fr, Fence.wide] at h
theorem fr_calls {r : Option Nat} {n : Nat} {f : FuncId} {args : Array Value} {w : World} {R : Ending → World → Prop} (h : Calls P f args w R) : CallsIn (Fr r) n P f args w R :=
  (callsIn_wide (n := n)).2 h
theorem fr_rows {r : Option Nat} {n : Nat} {row : String} {args : Array Value} {w : World} {R : Value → World → Prop} (h : Rows P row args w R) : RowsIn (Fr r) n P row args w R :=
  fun c cs _ => let ⟨v, w', q, s⟩ := h c cs; ⟨v, w', q, (stepsIn_wide (P := P)).2 s⟩

theorem wpIn_n {r : Option Nat} {n m : Nat} {c : Code} {Q : Exit → Act → World → Prop} {a : Act} {w : World} (h : c.wpIn (Fr r) n P Q a w) : c.wpIn (Fr r) m P Q a w :=
  fun b k cs hro hb _ => h b k cs hro hb (fr_room _ _)

theorem op_in {r : Option Nat} {n : Nat} {o : Oper} {a : Act} {w : World} {K : Act → World → Prop} {Q : Exit → Act → World → Prop} (hd : ∀ c, o.op ≠ .defer c) (h : o.wp P a w K Q) : o.wpIn (Fr r) n P a w K Q := by
  refine ⟨fun _ _ => trivial, ?_⟩
  rw [Oper.semAt_eq _ _ _ hd]
  unfold Oper.wp at h
  generalize (execOp a.eval o).run P w = z at *
  cases z with
  | ok x w' =>
    cases x <;> simp only [Oper.upon, Oper.uponIn] at h ⊢ <;> first | exact h | exact h.elim | skip
    · refine ⟨fun e => by simp [Fr, Fence.wide] at e, (fr_calls h).mono ?_⟩
      intro e w'' he
      cases e <;> exact he
    · exact ⟨fun e => by simp [Fr, Fence.wide] at e, fr_rows h⟩
  | halt x w' => cases x <;> simp only [Oper.upon, Oper.uponIn] at h ⊢ <;> first | exact h | exact h.elim

theorem no_defer {ops : Array Oper} {o : Oper} {u : Upd} (hr : (opRM E ops o).run st = some u) : ∀ c, o.op ≠ .defer c := by
  intro c hc
  unfold opRM at hr
  cases hg : o.guard with
  | none =>
    rw [hg] at hr
    simp [effOp, hc, valOp, RM.bind, RM.run] at hr
  | some p =>
    obtain ⟨j, want⟩ := p
    rw [hg] at hr
    dsimp only at hr
    cases hs : (ops[j]?).bind (·.dst) with
    | none => rw [hs] at hr; cases hr
    | some s =>
      rw [hs] at hr
      simp only [guardOp, RM.run] at hr
      split at hr
      · simp [hc, valOp, RM.bind, RM.run] at hr
      · cases hr

theorem stepD_no_defer {ops : Array Oper} {o : Oper} {st' : ASt} (hr : stepD E ops o st = some st') : ∀ c, o.op ≠ .defer c := by
  unfold stepD at hr
  cases hu : (opRM E ops o).run st with
  | none => rw [hu] at hr; cases hr
  | some u => exact no_defer hu

/-- Operations along a list of their numbers. -/
theorem wpOps_sound (hE : EnvOK P E) {r : Option Nat} {n : Nat} {ops : Array Oper} {Q : Exit → Act → World → Prop} {st2 : ASt} : ∀ (is : List Nat) (l : List Oper), is.map (fun i => ops[i]?) = l.map some → ∀ {st : ASt} {a : Act} {w : World}, Models P w0 st a w →
    stepsD E ops l st = some st2 → (∀ a' w', Models P w0 st2 a' w' → Q .normal a' w') → wpOpsIn (Fr r) n P ops Q is a w
  | [], l, hl, st, a, w, h, hr, hq => by
    have : l = [] := by cases l <;> simp at hl ⊢
    subst this
    cases hr
    exact hq a w h
  | i :: is, l, hl, st, a, w, h, hr, hq => by
    cases l with
    | nil => simp at hl
    | cons o l =>
      simp only [List.map_cons, List.cons.injEq] at hl
      obtain ⟨h1, h2⟩ := hl
      simp only [stepsD] at hr
      cases hs : stepD E ops o st with
      | none => rw [hs] at hr; cases hr
      | some st1 =>
        rw [hs] at hr
        have hstep := stepD_sound hE h hs
        simp only [wpOpsIn, h1]
        cases hw : Region.wanted o (yielded ops a.tmps) with
        | true =>
          simp only [if_true]
          exact op_in (stepD_no_defer hs) (hstep.1 hw _ Q fun a' w' hm => wpOps_sound hE is l h2 hm hr hq)
        | false =>
          simp only [Bool.false_eq_true, if_false]
          exact ⟨fun _ _ => trivial, wpOps_sound hE is l h2 (hstep.2 hw) hr hq⟩

theorem range_ops (ops : Array Oper) : (List.range ops.size).map (fun i => ops[i]?) = ops.toList.map some := by
  apply List.ext_getElem?
  intro i
  simp only [List.getElem?_map, List.getElem?_range', Array.getElem?_toList]
  by_cases h : i < ops.size
  · rw [List.getElem?_range h]
    simp [h]
  · rw [List.getElem?_eq_none (by simp; omega)]
    simp [h]

/-- What stands under a test is forgotten. -/
theorem unlab_mod (h : Mod P w0 conc st a w) : Mod P w0 conc (unlab st) a w := by
  refine ({ defers := h.defers, size := h.size, marks := ?_, slots := ?_, heap := h.heap, dead := h.dead, inj := h.inj, base := h.base, keeps := h.keeps, cB := h.cB, cY := h.cY, okS := h.okS, fixed := h.fixed } : Mod P w0 conc (unlab st) a w)
  · intro d sl hd
    unfold unlab at hd
    simp only at hd
    rw [Map.get_map (fun sl : Slot => if sl.L.isEmpty then sl else ⟨[], true, .v .junk⟩)] at hd
    cases hg : Map.get st.slots d with
    | none => rw [hg] at hd; cases hd
    | some sl0 =>
      rw [hg] at hd
      simp only [Option.map_some, Option.some.injEq] at hd
      intro p hp
      split at hd
      · rename_i he
        subst hd
        rw [List.isEmpty_iff] at he
        rw [he] at hp; cases hp
      · subst hd; cases hp
  · intro d sl hd
    unfold unlab at hd
    simp only at hd
    rw [Map.get_map (fun sl : Slot => if sl.L.isEmpty then sl else ⟨[], true, .v .junk⟩)] at hd
    cases hg : Map.get st.slots d with
    | none => rw [hg] at hd; cases hd
    | some sl0 =>
      rw [hg] at hd
      simp only [Option.map_some, Option.some.injEq] at hd
      obtain ⟨v, h1, h2⟩ := h.slots d sl0 hg
      refine ⟨v, h1, ?_⟩
      split at hd
      · subst hd; exact h2
      · subst hd; exact ⟨fun _ => ⟨rfl, trivial⟩, fun hn => absurd (labs_nil _) hn⟩

theorem unlab_models (h : Models P w0 st a w) : Models P w0 (unlab st) a w := by
  obtain ⟨conc, h⟩ := h
  exact ⟨conc, unlab_mod h⟩

theorem unlab_L {st : ASt} {d : Nat} {sl : Slot} (hd : Map.get (unlab st).slots d = some sl) : sl.L = [] := by
  unfold unlab at hd
  simp only at hd
  rw [Map.get_map (fun sl : Slot => if sl.L.isEmpty then sl else ⟨[], true, .v .junk⟩)] at hd
  cases hg : Map.get st.slots d with
  | none => rw [hg] at hd; cases hd
  | some sl0 =>
    rw [hg] at hd
    simp only [Option.map_some, Option.some.injEq] at hd
    split at hd
    · rename_i he
      subst hd
      exact List.isEmpty_iff.1 he
    · subst hd
      rfl

end Go.Abs
