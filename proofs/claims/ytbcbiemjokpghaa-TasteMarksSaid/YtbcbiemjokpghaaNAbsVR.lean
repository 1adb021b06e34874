/- Ranges over functions. -/
import Derived.Test.YtbcbiemjokpghaaNAbsV
import Derived.RangeFuncIn
import Derived.RangeFuncRecord
set_option linter.unusedSimpArgs false
set_option linter.unusedVariables false
namespace Go.Abs
open Go
variable {P : Program} {E : Env} {R : Type}

def seqOf (e : Ty) : AVal → RM (List e.den)
  | .pure u d => .ofOpt (castTy (t := u) (t' := .seq e) d)
  | _ => .fail

/-- The slots that outlive a round. -/
def onlyF (F : List Nat) (st : ASt) : ASt := { N := st.N, marks := [], slots := st.slots.filter fun p => F.any (Nat.beq p.1), heap := st.heap, fixed := [] }

def mkB (T : Templ) (F : List Nat) (p : Nat) (e : Ty) (d : denU T.tys) (x : e.den) : ASt :=
  { N := T.N, marks := [], slots := Map.set (mk T d).slots p ⟨[], true, .v (.pure e x)⟩, heap := (mk T d).heap, fixed := F }

def turnB (E : Env) (T : Templ) (F : List Nat) (X : List (Way × Templ)) (again : denU T.tys → Option R) (k : conts R X) : Exit → ASt → Option R
  | .normal, st => bif eqN st.fixed F && Nat.beq st.N T.N then (dec E T (onlyF F (unlab st))).bind again else none
  | e, st => bif eqN st.fixed F && Nat.beq st.N T.N then leave E X k e (onlyF F (unlab st)) else none

/-- Behind the assignment to the loop's variable: the body. -/
def thenB (K : ASt → Option R) : Exit → ASt → Option R
  | .normal, st => K st
  | _, _ => none

/-- The evaluator of a loop over a function. -/
def rangeO (E : Env) (e : Ty) (g : Operand) (T : Templ) (X : List (Way × Templ)) (body : denU T.tys → e.den → (denU T.tys → Option R) → conts R X → Option R) : Ev R := fun st K =>
  (dec E T st).bind fun d => ((rdA [] g).bind (seqOf e)).runK (mk T d) fun xs => rangeG body (kOf K X) (fun d => K .normal (mk T d)) xs d

theorem mk_head {T : Templ} (d : denU T.tys) : (mk T d).N = T.N ∧ (mk T d).marks = [] ∧ (mk T d).fixed = T.fx := by
  unfold mk
  split
  · split <;> exact ⟨rfl, rfl, rfl⟩
  · exact ⟨rfl, rfl, rfl⟩

theorem get_filter_any {α : Type} (F : List Nat) (m : List (Nat × α)) (k : Nat) : Map.get (m.filter fun p => F.any (Nat.beq p.1)) k = if F.any (Nat.beq k) then Map.get m k else none :=
  Map.get_filter (fun n => F.any (Nat.beq n)) m k

/-- A state seen from another activation with the same slots, and with other blocks that are ok. -/
theorem Mod.move {s s' : Start} {conc : Conc} {st st' : ASt} {a a' : Act} {w w' : World} (h : Mod P s conc st a w) (B' : Nat → Prop)
    (hN : st'.N = st.N) (hmk : ∀ d sl, Map.get st'.slots d = some sl → Map.get st.slots d = some sl ∧ sl.L = [] ∧ a'.tmps[d]? = a.tmps[d]?) (hheap : ∀ id, Map.get st'.heap id = Map.get st.heap id)
    (hsz : a'.tmps.size = a.tmps.size) (hds : a'.defers = s'.ds) (hfx : ∀ d ∈ st'.fixed, a'.tmps[d]? = s'.tmps[d]?)
    (hw : w.heap.size ≤ w'.heap.size) (hok : ∀ b, b < w.heap.size → conc.B b → w'.heap[b]? = w.heap[b]?) (hBB : ∀ b, b < w.heap.size → conc.B b → B' b)
    (hsw : s'.w = w') (hsB : s'.B = B') (hsM : ∀ b, ownedB conc b → s'.M b) (hsy : s'.yl = s.yl) (hS : StartOK s') : Mod P s' ⟨conc.m, B', conc.yl⟩ st' a' w' := by
  have hle : CLe conc ⟨conc.m, B', conc.yl⟩ := ⟨rfl, fun id cv c ow hc => ⟨cv, c, ow, hc, .inr ⟨rfl, rfl⟩⟩⟩
  have hx : Ext (okOf conc) w w' := ⟨hw, fun b hb hlt => hok b hlt hb.1⟩
  have hs : Sub w (okOf conc) (okOf ⟨conc.m, B', conc.yl⟩) := fun b hb hlt => ⟨hBB b hlt hb.1, hb.2⟩
  exact {
    defers := hds
    size := by rw [hsz, hN]; exact h.size
    marks := fun d sl hd p hp => by
      have := (hmk d sl hd).2.1
      rw [this] at hp
      cases hp
    slots := fun d sl hd => by
      obtain ⟨g1, g2, g3⟩ := hmk d sl hd
      obtain ⟨v, k1, k2⟩ := h.slots d sl g1
      refine ⟨v, g3.trans k1, ⟨fun _ => ?_, fun hn => absurd (by rw [g2]; exact labs_nil _) hn⟩⟩
      have := k2.yes (by rw [g2]; exact labs_nil _)
      exact ⟨this.1, this.2.mono hx hs hle⟩
    heap := fun id ver o ho => by
      rw [hheap] at ho
      obtain ⟨c, ow, k1, k2⟩ := h.heap id ver o ho
      refine ⟨c, ow, k1, k2.mono hx hs hle fun eo b hb => ?_⟩
      subst eo
      exact hok b (h.base id ver c b k1 hb).2 (by rw [h.cB]; exact h.inB k1 hb)
    dead := fun id hd => h.dead id (by rw [← hheap]; exact hd)
    inj := h.inj
    base := fun i v c b hi hb => ⟨.inr (hsM b ⟨i, v, c, hi, hb⟩), Nat.lt_of_lt_of_le (h.base i v c b hi hb).2 hw⟩
    keeps := by rw [← hsw]; exact ⟨rfl, rfl, rfl, Nat.le_refl _, fun _ _ _ => rfl⟩
    cB := hsB.symm
    cY := h.cY.trans hsy.symm
    okS := hS
    fixed := hfx }

/-- The same activation and slots, in a world where what is ok is as it was. -/
theorem Mod.move' {s s' : Start} {conc : Conc} {st : ASt} {a : Act} {w w' : World} (h : Mod P s conc st a w) (B' : Nat → Prop)
    (hw : w.heap.size ≤ w'.heap.size) (hok : ∀ b, b < w.heap.size → conc.B b → w'.heap[b]? = w.heap[b]?) (hBB : ∀ b, b < w.heap.size → conc.B b → B' b)
    (hsw : s'.w = w') (hsB : s'.B = B') (hsM : ∀ b, ownedB conc b → s'.M b) (hsy : s'.yl = s.yl) (hds : a.defers = s'.ds) (htm : s'.tmps = s.tmps) (hS : StartOK s') : Mod P s' ⟨conc.m, B', conc.yl⟩ st a w' := by
  have hle : CLe conc ⟨conc.m, B', conc.yl⟩ := ⟨rfl, fun id cv c ow hc => ⟨cv, c, ow, hc, .inr ⟨rfl, rfl⟩⟩⟩
  have hx : Ext (okOf conc) w w' := ⟨hw, fun b hb hlt => hok b hlt hb.1⟩
  have hs : Sub w (okOf conc) (okOf ⟨conc.m, B', conc.yl⟩) := fun b hb hlt => ⟨hBB b hlt hb.1, hb.2⟩
  exact {
    defers := hds
    size := h.size
    marks := h.marks
    slots := fun d sl hd => by
      obtain ⟨v, k1, k2⟩ := h.slots d sl hd
      exact ⟨v, k1, ⟨fun hl => ⟨(k2.yes hl).1, (k2.yes hl).2.mono hx hs hle⟩, k2.no⟩⟩
    heap := fun id ver o ho => by
      obtain ⟨c, ow, k1, k2⟩ := h.heap id ver o ho
      refine ⟨c, ow, k1, k2.mono hx hs hle fun eo b hb => ?_⟩
      subst eo
      exact hok b (h.base id ver c b k1 hb).2 (by rw [h.cB]; exact h.inB k1 hb)
    dead := h.dead
    inj := h.inj
    base := fun i v c b hi hb => ⟨.inr (hsM b ⟨i, v, c, hi, hb⟩), Nat.lt_of_lt_of_le (h.base i v c b hi hb).2 hw⟩
    keeps := by rw [← hsw]; exact ⟨rfl, rfl, rfl, Nat.le_refl _, fun _ _ _ => rfl⟩
    cB := hsB.symm
    cY := h.cY.trans hsy.symm
    okS := hS
    fixed := fun s hs => by rw [htm]; exact h.fixed s hs }

/-- What holds at each point between two rounds, beside the state. base: the world at the loop's start; own0: what was owned there. -/
structure Between (P : Program) (w0 : Start) (wb : World) (own0 : Nat → Prop) (a : Act) (fn : FuncId) (ps : Array Tmp) (ca cb : Code) (stt : LoopState) (pe : Option Code) (A S : Nat → Prop) (conc : Conc) (st : ASt) (W : World) : Prop where
  mod : Mod P ⟨W, fun b => (b < wb.heap.size ∧ w0.B b) ∨ (wb.heap.size + 2 ≤ b ∧ ¬ S b), ownedB conc, a.defers, a.tmps, w0.yl, w0.lo⟩ conc st a W
  rec' : W.heap[wb.heap.size + 1]? = some (.loop { state := stt, pending := pe, fn, tmps := a.tmps, params := ps, assign := ca, body := cb, defers := wb.heap.size })
  dfr : W.heap[wb.heap.size]? = some (.deferred (some []))
  os : W.os = wb.os
  tape : W.tape = wb.tape
  output : W.output = wb.output
  size : wb.heap.size + 2 ≤ W.heap.size
  old : ∀ b, b < wb.heap.size → ¬ own0 b → W.heap[b]? = wb.heap[b]?
  own : ∀ b, ownedB conc b → own0 b ∨ wb.heap.size + 2 ≤ b
  disj : ∀ b, ownedB conc b → ¬ A b
  SA : ∀ b, S b → A b
  A2 : ∀ b, A b → wb.heap.size + 2 ≤ b ∧ b < W.heap.size

section
variable {w0 : Start} {wb : World} {own0 : Nat → Prop} {a : Act} {fn : FuncId} {ps : Array Tmp} {ca cb : Code} {stt : LoopState} {pe : Option Code} {conc : Conc} {st : ASt}

/-- The iterator takes a step. -/
theorem Between.steps {A S A' S' : Nat → Prop} {W W' : World} (h : Between P w0 wb own0 a fn ps ca cb stt pe A S conc st W) (hmk : st.marks = [] ∧ ∀ d sl, Map.get st.slots d = some sl → sl.L = []) (hfx : st.fixed = [])
    (hk : Steps A S W A' S' W') (hds : ∀ d ∈ a.defers, ∃ D, d = { target := .collected D, args := #[] } ∧ wb.heap[D]? = some (.deferred (some [])) ∧ ¬ own0 D ∧ ¬ w0.B D ∧ w0.lo ≤ D) :
    ∃ conc', conc'.m = conc.m ∧ Between P w0 wb own0 a fn ps ca cb stt pe A' S' conc' st W' := by
  have hsz := h.size
  have hsz' := hk.size
  have notS : ∀ b, b < wb.heap.size + 2 → ¬ S b := fun b hb hs => by have := (h.A2 b (h.SA b hs)).1; omega
  have hB : conc.B = fun b => (b < wb.heap.size ∧ w0.B b) ∨ (wb.heap.size + 2 ≤ b ∧ ¬ S b) := h.mod.cB
  have hBS : ∀ b, conc.B b → ¬ S b := fun b hb => by
    rw [hB] at hb
    rcases hb with ⟨h1, _⟩ | ⟨_, h2⟩
    · exact notS b (by omega)
    · exact h2
  have hBB : ∀ b, b < W.heap.size → conc.B b → (b < wb.heap.size ∧ w0.B b) ∨ (wb.heap.size + 2 ≤ b ∧ ¬ S' b) := fun b hlt hb => by
    rw [hB] at hb
    rcases hb with hb | ⟨h1, h2⟩
    · exact .inl hb
    · refine .inr ⟨h1, fun hs => ?_⟩
      rcases hk.S2 b hs with h3 | h3
      · exact h2 h3
      · omega
  have hold : ∀ b, b < wb.heap.size + 2 → W'.heap[b]? = W.heap[b]? := fun b hb => hk.block b (by omega) (notS b hb)
  refine ⟨⟨conc.m, fun b => (b < wb.heap.size ∧ w0.B b) ∨ (wb.heap.size + 2 ≤ b ∧ ¬ S' b), conc.yl⟩, rfl, ?_⟩
  refine {
    mod := h.mod.move _ rfl (fun d sl hd => ⟨hd, hmk.2 d sl hd, rfl⟩) (fun _ => rfl) rfl rfl (fun d hd => absurd hd (by rw [hfx]; simp)) hsz' (fun b hlt hb => hk.block b hlt (hBS b hb)) hBB rfl rfl (fun b hb => hb) rfl ?_
    rec' := (hold _ (by omega)).trans h.rec'
    dfr := (hold _ (by omega)).trans h.dfr
    os := hk.os.trans h.os
    tape := hk.tape.trans h.tape
    output := hk.output.trans h.output
    size := by omega
    old := fun b hb ho => (hold b (by omega)).trans (h.old b hb ho)
    own := h.own
    disj := fun b hb hA => by
      rcases hk.A2 b hA with h1 | h1
      · exact h.disj b hb h1
      · obtain ⟨i, v, c, g1, g2⟩ := hb
        have := (h.mod.base i v c b g1 g2).2
        omega
    SA := hk.SA
    A2 := fun b hb => ⟨by
      rcases hk.A2 b hb with h1 | h1
      · exact (h.A2 b h1).1
      · omega, hk.A3 b hb⟩ }
  exact {
    up := fun b hb => .inr ⟨by have h1 : W'.heap.size ≤ b := hb
                               omega, fun hs => by
      have := hk.A3 b (hk.SA b hs)
      have h1 : W'.heap.size ≤ b := hb
      omega⟩
    mB := fun b ⟨i, v, c, g1, g2⟩ => hBB b (h.mod.base i v c b g1 g2).2 (by rw [h.mod.cB]; exact h.mod.inB g1 g2)
    ds := fun d hd => by
      obtain ⟨D, e, h1, h2, h5⟩ := hds d hd
      have hlt := (Array.getElem?_eq_some_iff.1 h1).1
      refine ⟨D, e, ((hold D (by omega)).trans (h.old D hlt h2)).trans h1, fun hb => ?_, h5.2⟩
      rcases hb with ⟨_, h3⟩ | ⟨h3, _⟩
      · exact h5.1 h3
      · omega
    dn := h.mod.okS.dn
    lo := by
      have := h.mod.okS.lo
      have : w0.lo ≤ W.heap.size := this
      show w0.lo ≤ W'.heap.size
      omega }
end

theorem mkSlots_labs : {l : List (Nat × SlotT)} → {r : List Dyn} → {m : List (Nat × Slot)} → {r' : List Dyn} → mkSlots l r = some (m, r') → ∀ p ∈ m, p.2.L = []
  | [], r, m, r', h => by
    simp only [mkSlots, Option.some.injEq, Prod.mk.injEq] at h
    intro p hp
    rw [← h.1] at hp
    cases hp
  | (d, t) :: l, r, m, r', h => by
    simp only [mkSlots] at h
    split at h
    · split at h
      · rename_i m' r2 hm
        simp only [Option.some.injEq, Prod.mk.injEq] at h
        obtain ⟨rfl, _⟩ := h
        intro p hp
        rcases List.mem_cons.1 hp with rfl | hp
        · rfl
        · exact mkSlots_labs hm p hp
      · cases h
    · cases h

theorem mk_labs {T : Templ} (d : denU T.tys) {k : Nat} {sl : Slot} (h : Map.get (mk T d).slots k = some sl) : sl.L = [] := by
  unfold mk at h
  split at h
  · rename_i s r hs
    split at h
    · exact mkSlots_labs hs _ (Map.get_mem h)
    · cases h
  · cases h

theorem leave_mod (hE : EnvOK P E) {w0 : Start} {K : Exit → ASt → Option R} {ans : R} {e : Exit} {conc : Conc} {st : ASt} {a : Act} {w : World} (hm : Mod P w0 conc st a w) : (X : List (Way × Templ)) → leave E X (kOf K X) e st = some ans →
    ∃ x ∈ X, ∃ d conc', e = x.1.exit' ∧ Mod P w0 conc' (mk x.2 d) a w ∧ (∀ b, ownedB conc' b → ownedB conc b) ∧ K e (mk x.2 d) = some ans
  | [], h => by cases h
  | x :: r, h => by
    simp only [leave, kOf] at h
    cases hi : x.1.is e with
    | true =>
      rw [hi] at h
      simp only [cond_true] at h
      cases hd : dec E x.2 st with
      | none => rw [hd] at h; cases h
      | some d =>
        rw [hd] at h
        have he : x.1.exit' = e := by
          cases hx : x.1 <;> cases e <;> simp [hx, Way.is, nbeq] at hi <;> simp [Way.exit', hi]
        obtain ⟨conc', h1, h2⟩ := dec_mod hE hm hd
        exact ⟨x, List.mem_cons_self, d, conc', he.symm, h1, fun b ⟨i, v, c, k1, k2⟩ => h2 i v c b k1 k2, by rw [← he]; exact h⟩
    | false =>
      rw [hi] at h
      obtain ⟨y, hy, r⟩ := leave_mod hE hm r h
      exact ⟨y, List.mem_cons_of_mem _ hy, r⟩

/-- The jump that a round leaves. -/
def jumpOf : Exit → Code
  | .exit i => .exit i
  | _ => .ret

theorem onlyF_get (F : List Nat) (st : ASt) (k : Nat) : Map.get (onlyF F st).slots k = if F.any (Nat.beq k) then Map.get st.slots k else none := get_filter_any F st.slots k

/-- Behind a round's body: the state as the loop sees it. -/
theorem Between.round {w0 : Start} {wb : World} {own0 : Nat → Prop} {a a3 : Act} {fn : FuncId} {ps : Array Tmp} {ca cb : Code} {A S : Nat → Prop} {conc conc3 : Conc} {st st3 : ASt} {W W3 W4 : World} {p : Nat} {v : Value} {F : List Nat} {stt : LoopState} {pe : Option Code}
    {st4 : LoopState} {pe4 : Option Code} (h : Between P w0 wb own0 a fn ps ca cb stt pe A S conc st W) {sE : Start} (hm : Mod P sE conc3 st3 a3 W3) (hfx : st3.fixed = F) (hp : p ∉ F) (htm : sE.tmps = a.tmps.setIfInBounds p v) (hsz3 : a3.tmps.size = a.tmps.size)
    (hlab : ∀ k sl, Map.get st3.slots k = some sl → F.any (Nat.beq k) = true → sl.L = [])
    (hB : sE.B = fun b => (b < wb.heap.size ∧ w0.B b) ∨ (wb.heap.size + 2 ≤ b ∧ ¬ S b)) (hyl : sE.yl = w0.yl) (hlo : sE.lo = w0.lo)
    (hos : W3.os = W.os) (htape : W3.tape = W.tape) (hout : W3.output = W.output) (hsize : W.heap.size ≤ W3.heap.size) (hblk : ∀ b, b < W.heap.size → ¬ ownedB conc b → b ≠ wb.heap.size + 1 → W3.heap[b]? = W.heap[b]?)
    (hown : ∀ b, ownedB conc3 b → ownedB conc b ∨ W.heap.size ≤ b) (hds : ∀ d ∈ a.defers, ∃ D, d = { target := .collected D, args := #[] } ∧ wb.heap[D]? = some (.deferred (some [])) ∧ ¬ own0 D ∧ ¬ w0.B D ∧ w0.lo ≤ D)
    (hW4 : W4 = W3.putObj (wb.heap.size + 1) (.loop { state := st4, pending := pe4, fn, tmps := a.tmps, params := ps, assign := ca, body := cb, defers := wb.heap.size })) :
    ∃ conc4, conc4.m = conc3.m ∧ Between P w0 wb own0 a fn ps ca cb st4 pe4 A S conc4 (onlyF F st3) W4 := by
  have hs := h.size
  have notOwn : ∀ b, b < wb.heap.size + 2 → ¬ own0 b → ¬ ownedB conc b := fun b hb ho hc => by
    rcases h.own b hc with h1 | h1
    · exact ho h1
    · omega
  have h4 : ∀ b, b ≠ wb.heap.size + 1 → W4.heap[b]? = W3.heap[b]? := fun b hb => by rw [hW4]; exact World.putObj_heap_other hb
  have hsz4 : W4.heap.size = W3.heap.size := by rw [hW4]; simp [World.putObj]
  have hl3 : wb.heap.size + 1 < W3.heap.size := by omega
  have hB3 : conc3.B = fun b => (b < wb.heap.size ∧ w0.B b) ∨ (wb.heap.size + 2 ≤ b ∧ ¬ S b) := hm.cB.trans hB
  have hBl : ¬ conc3.B (wb.heap.size + 1) := by
    rw [hB3]
    rintro (⟨h1, _⟩ | ⟨h1, _⟩) <;> omega
  have hslot : ∀ d sl, Map.get (onlyF F st3).slots d = some sl → Map.get st3.slots d = some sl ∧ sl.L = [] ∧ a.tmps[d]? = a3.tmps[d]? := by
    intro d sl hd
    rw [onlyF_get] at hd
    split at hd
    · rename_i hF
      have hmem : d ∈ F := by
        obtain ⟨q, hq, he⟩ := List.any_eq_true.1 hF
        rw [nbeq_true he]; exact hq
      refine ⟨hd, hlab d sl hd hF, ?_⟩
      rw [hm.fixed d (by rw [hfx]; exact hmem), htm, Array.getElem?_setIfInBounds_ne (fun e => hp (by rw [e]; exact hmem))]
    · cases hd
  have hold : ∀ b, b < wb.heap.size + 2 → ¬ ownedB conc b → b ≠ wb.heap.size + 1 → W4.heap[b]? = W.heap[b]? := fun b hb ho hn => (h4 b hn).trans (hblk b (by omega) ho hn)
  have hinB : ∀ b, ownedB conc3 b → conc3.B b := fun b ⟨i, v, c, g1, g2⟩ => by rw [hm.cB]; exact hm.inB g1 g2
  refine ⟨⟨conc3.m, fun b => (b < wb.heap.size ∧ w0.B b) ∨ (wb.heap.size + 2 ≤ b ∧ ¬ S b), conc3.yl⟩, rfl, ?_⟩
  refine {
    mod := hm.move _ rfl hslot (fun _ => rfl) hsz3.symm rfl (fun d hd => by cases hd) (by omega) (fun b hlt hb => h4 b fun e => hBl (by rw [← e]; exact hb)) (fun b _ hb => by rw [hB3] at hb; exact hb) rfl rfl (fun b hb => hb) hyl.symm ?_
    rec' := by rw [hW4]; exact World.putObj_heap_same hl3
    dfr := (hold _ (by omega) (fun hc => ?_) (by omega)).trans h.dfr
    os := by rw [hW4]; exact hos.trans h.os
    tape := by rw [hW4]; exact htape.trans h.tape
    output := by rw [hW4]; exact hout.trans h.output
    size := by omega
    old := fun b hb ho => (hold b (by omega) (notOwn b (by omega) ho) (by omega)).trans (h.old b hb ho)
    own := fun b hb => by
      rcases hown b hb with h1 | h1
      · exact h.own b h1
      · exact .inr (by omega)
    disj := fun b hb hA => by
      rcases hown b hb with h1 | h1
      · exact h.disj b h1 hA
      · have := (h.A2 b hA).2
        omega
    SA := h.SA
    A2 := fun b hb => ⟨(h.A2 b hb).1, by have := (h.A2 b hb).2; omega⟩ }
  · exact {
      up := fun b hb => .inr ⟨by
        have h1 : W4.heap.size ≤ b := hb
        omega, fun hs => by
        have := (h.A2 b (h.SA b hs)).2
        have h1 : W4.heap.size ≤ b := hb
        omega⟩
      mB := fun b hb => by have := hinB b hb; rw [hB3] at this; exact this
      ds := fun d hd => by
        obtain ⟨D, e, h1, h2, h5⟩ := hds d hd
        have hlt := (Array.getElem?_eq_some_iff.1 h1).1
        refine ⟨D, e, ((hold D (by omega) (notOwn D (by omega) h2) (by omega)).trans (h.old D hlt h2)).trans h1, fun hb => ?_, h5.2⟩
        rcases hb with ⟨_, h3⟩ | ⟨h3, _⟩
        · exact h5.1 h3
        · omega
      dn := h.mod.okS.dn
      lo := by
        have := h.mod.okS.lo
        have : w0.lo ≤ W.heap.size := this
        show w0.lo ≤ W4.heap.size
        omega }
  · obtain ⟨i, v, c, g1, g2⟩ := hc
    have hb := h.mod.inB g1 g2
    rcases hb with ⟨h1, _⟩ | ⟨h1, _⟩ <;> omega

/-- A state that holds no more than the one before. -/
theorem Between.narrow {w0 : Start} {wb : World} {own0 : Nat → Prop} {a : Act} {fn : FuncId} {ps : Array Tmp} {ca cb : Code} {A S : Nat → Prop} {conc conc' : Conc} {st st' : ASt} {W : World} {stt : LoopState} {pe : Option Code}
    (h : Between P w0 wb own0 a fn ps ca cb stt pe A S conc st W) (hm : Mod P ⟨W, fun b => (b < wb.heap.size ∧ w0.B b) ∨ (wb.heap.size + 2 ≤ b ∧ ¬ S b), ownedB conc, a.defers, a.tmps, w0.yl, w0.lo⟩ conc' st' a W)
    (hs : ∀ b, ownedB conc' b → ownedB conc b) : ∃ conc2, Between P w0 wb own0 a fn ps ca cb stt pe A S conc2 st' W := by
  have hc : conc'.B = fun b => (b < wb.heap.size ∧ w0.B b) ∨ (wb.heap.size + 2 ≤ b ∧ ¬ S b) := hm.cB
  refine ⟨⟨conc'.m, fun b => (b < wb.heap.size ∧ w0.B b) ∨ (wb.heap.size + 2 ≤ b ∧ ¬ S b), conc'.yl⟩, {
    mod := Mod.move' hm _ (Nat.le_refl _) (fun _ _ _ => rfl) (fun b _ hb => by rw [hc] at hb; exact hb) rfl rfl (fun b hb => hb) rfl rfl rfl {
      up := h.mod.okS.up
      mB := fun b hb => h.mod.okS.mB b (hs b hb)
      ds := h.mod.okS.ds
      dn := h.mod.okS.dn
      lo := h.mod.okS.lo }
    rec' := h.rec'
    dfr := h.dfr
    os := h.os
    tape := h.tape
    output := h.output
    size := h.size
    old := h.old
    own := fun b hb => h.own b (hs b hb)
    disj := fun b hb => h.disj b (hs b hb)
    SA := h.SA
    A2 := h.A2 }⟩

/-- What the texts of a range's parts owe. -/
structure RangeOK (P : Program) {R : Type} (E : Env) (e : Ty) (p : Nat) (ca cb : Code) (Oa Ob : List (Ev R)) (T : Templ) (F : List Nat) (X : List (Way × Templ)) (body : denU T.tys → e.den → (denU T.tys → Option R) → conts R X → Option R) : Prop where
  fx : T.fx = []
  pN : p < T.N
  pF : p ∉ F
  xfx : ∀ x ∈ X, x.2.fx = []
  a : Sound P (Hdl.no (R := R)) true ca (codeR E Hdl.no ca Oa)
  b : Sound P (Hdl.no (R := R)) true cb (codeR E Hdl.no cb Ob)
  eq : ∀ d x again k, codeR E Hdl.no ca Oa (mkB T F p e d x) (thenB fun st => codeR E Hdl.no cb Ob st (turnB E T F X again k)) = body d x again k

/-- One round. -/
theorem round_ok (hE : EnvOK P E) {e : Ty} {p : Nat} {ca cb : Code} {Oa Ob : List (Ev R)} {T : Templ} {F : List Nat} {X : List (Way × Templ)} {body : denU T.tys → e.den → (denU T.tys → Option R) → conts R X → Option R}
    (hR : RangeOK P E e p ca cb Oa Ob T F X body) {w0 : Start} {wb : World} {own0 : Nat → Prop} {a : Act} {fn : FuncId} {A S : Nat → Prop} {conc : Conc} {W : World} {d : denU T.tys} {x : e.den} {cs : List Value}
    (h : Between P w0 wb own0 a fn #[p] ca cb .ready none A S conc (mk T d) W) (hds : ∀ d ∈ a.defers, ∃ D, d = { target := .collected D, args := #[] } ∧ wb.heap[D]? = some (.deferred (some [])) ∧ ¬ own0 D ∧ ¬ w0.B D ∧ w0.lo ≤ D)
    (hx : Rep P e W (okOf conc) cs x) {K : Exit → ASt → Option R} {again : denU T.tys → Option R} {ans : R} (hans : body d x again (kOf K X) = some ans) :
    YieldAt Fence.wide 5 P (wb.heap.size + 1) #[e.val cs] W fun en W' => (∀ b, b < W.heap.size → ¬ ownedB conc b → b ≠ wb.heap.size + 1 → W'.heap[b]? = W.heap[b]?) ∧ W.heap.size ≤ W'.heap.size ∧ W'.os = W.os ∧ W'.tape = W.tape ∧ W'.output = W.output ∧
      ((en = .returned (.bool true) ∧ ∃ conc' d', Between P w0 wb own0 a fn #[p] ca cb .ready none A S conc' (mk T d') W' ∧ again d' = some ans) ∨
       (en = .returned (.bool false) ∧ ∃ conc', ∃ y ∈ X, ∃ d', Between P w0 wb own0 a fn #[p] ca cb .done (some (jumpOf y.1.exit')) A S conc' (mk y.2 d') W' ∧ K y.1.exit' (mk y.2 d') = some ans)) := by
  have hs := h.size
  have hrec := h.rec'
  have hy := run_yield (P := P) (args := #[e.val cs]) hrec rfl
  refine ⟨_, _, _, _, hy, ?_⟩
  dsimp only
  -- the activation of the round
  have haR : (#[p].zip #[e.val cs]).foldl (fun tmps (x : Nat × Value) => tmps.setIfInBounds x.1 x.2) a.tmps = a.tmps.setIfInBounds p (e.val cs) := by simp [Array.zip]
  have hnl : ¬ ownedB conc (wb.heap.size + 1) := fun ⟨i, v, c, g1, g2⟩ => by
    rcases h.mod.inB g1 g2 with ⟨h1, _⟩ | ⟨h1, _⟩ <;> omega
  obtain ⟨hmN, hmm, hmf⟩ := mk_head d
  let a0 : Act := { tmps := a.tmps, defers := [] }
  let aR : Act := a0.put (some p) (e.val cs)
  let B : Nat → Prop := fun b => (b < wb.heap.size ∧ w0.B b) ∨ (wb.heap.size + 2 ≤ b ∧ ¬ S b)
  let s0 : Start := ⟨W, B, ownedB conc, [], a.tmps, w0.yl, w0.lo⟩
  let sA : Start := ⟨W, B, ownedB conc, [], aR.tmps, w0.yl, w0.lo⟩
  have okS0 : ∀ tm, StartOK ⟨W, B, ownedB conc, [], tm, w0.yl, w0.lo⟩ := fun tm => {
    up := h.mod.okS.up
    mB := h.mod.okS.mB
    ds := fun _ hd => by cases hd
    dn := List.nodup_nil
    lo := h.mod.okS.lo }
  have hcB : conc.B = B := h.mod.cB
  have m0 : Mod P s0 ⟨conc.m, B, conc.yl⟩ (mk T d) a0 W := h.mod.move B rfl (fun k sl hk => ⟨hk, mk_labs d hk, rfl⟩) (fun _ => rfl) rfl rfl (fun k hk => absurd hk (by rw [hmf, hR.fx]; simp)) (Nat.le_refl _) (fun _ _ _ => rfl) (fun b _ hb => by rw [← hcB]; exact hb) rfl rfl (fun b hb => hb) rfl (okS0 _)
  have m1 : Mod P s0 ⟨conc.m, B, conc.yl⟩ { N := (mk T d).N, marks := [], slots := Map.set (mk T d).slots p ⟨[], true, .v (.pure e x)⟩, heap := (mk T d).heap, fixed := (mk T d).fixed } aR W :=
    m0.put (d := p) (sl := ⟨[], true, .v (.pure e x)⟩) (v := e.val cs) (ms := []) (may_iff.2 ⟨by rw [hmN]; exact hR.pN, by rw [hmm]; simp, by rw [hmf, hR.fx]; simp⟩) (fun m hm => absurd hm (by rw [hmm]; simp)) (fun q hq => by cases hq)
      ⟨fun _ => ⟨rfl, cs, rfl, by
        have he : okOf (⟨conc.m, B, conc.yl⟩ : Conc) = okOf conc := by
          funext b
          unfold okOf
          rw [hcB]
        rw [he]
        exact hx⟩, fun hn => absurd (labs_nil _) hn⟩
  have mA : Mod P sA ⟨conc.m, B, conc.yl⟩ (mkB T F p e d x) aR W := m1.move B (by rw [hmN]; rfl) (fun k sl hk => ⟨hk, by
      simp only [mkB, Map.get_set] at hk
      split at hk
      · cases hk; rfl
      · exact mk_labs d hk, rfl⟩) (fun _ => rfl) rfl rfl (fun k _ => rfl) (Nat.le_refl _) (fun _ _ _ => rfl) (fun b _ hb => hb) rfl rfl (fun b hb => hb) rfl (okS0 _)
  -- the assignment
  rw [← hR.eq] at hans
  have wide : ∀ (c : Code) Q a w n m, c.wpIn (Fr (some (wb.heap.size + 1))) n P Q a w → c.wpIn (Fence.wide.inRound (wb.heap.size + 1)) m P Q a w := fun c Q a w n m hh => wpIn_n hh
  rw [haR]
  refine roundIn_of_wpIn trivial (wide _ _ _ _ 7 5 ?_)
  have invOK : ∀ s : Start, s.ds = [] → InvOK P (Hdl.no (R := R)) true (fun s' b => b = ans ∧ Link s s') := fun s _ => {
    link := fun s1 s2 b hb hl => ⟨hb.1, hb.2.trans hl⟩
    nods := fun hne => absurd rfl hne
    fnl := fun he => by cases he
    yld := fun hne => absurd rfl hne }
  refine wpIn_mono (hR.a (some (wb.heap.size + 1)) rfl _ (invOK sA rfl) _ ans _ _ _ sA hans ⟨_, mA⟩ ⟨rfl, Link.refl _⟩) ?_
  rintro ea a1 w1 ⟨sA', ans1, st1, ⟨conc1, hm1⟩, ⟨rfl, hlA⟩, hk1⟩
  cases ea with
  | normal =>
    simp only [thenB] at hk1
    -- the world behind the assignment
    have lA := hlA.trans hm1.link
    have lA_block : ∀ b, b < W.heap.size → ¬ ownedB conc b → w1.heap[b]? = W.heap[b]? := lA.block
    have hrec1 : w1.heap[wb.heap.size + 1]? = _ := (lA_block _ (by omega) hnl).trans hrec
    have hszA : W.heap.size ≤ w1.heap.size := lA.size
    refine ⟨_, run_beginRound hrec1 rfl, wide _ _ _ _ 7 5 ?_⟩
    generalize hw2 : w1.putObj (wb.heap.size + 1) _ = w2
    have h2 : ∀ b, b ≠ wb.heap.size + 1 → w2.heap[b]? = w1.heap[b]? := fun b hb => by rw [← hw2]; exact World.putObj_heap_other hb
    have hsz2 : w2.heap.size = w1.heap.size := by rw [← hw2]; simp [World.putObj]
    have hos2 : w2.os = w1.os ∧ w2.tape = w1.tape ∧ w2.output = w1.output := by rw [← hw2]; exact ⟨rfl, rfl, rfl⟩
    have hrec2 : w2.heap[wb.heap.size + 1]? = some (.loop { state := .busy, pending := none, fn, tmps := a.tmps, params := #[p], assign := ca, body := cb, defers := wb.heap.size }) := by
      rw [← hw2]; exact World.putObj_heap_same (by omega)
    have hB1 : conc1.B = B := by
      rw [hm1.cB]
      funext b
      exact propext (hlA.B b)
    have hBl : ¬ B (wb.heap.size + 1) := by
      rintro (⟨q1, _⟩ | ⟨q1, _⟩) <;> omega
    let sB : Start := ⟨w2, B, ownedB conc1, [], sA'.tmps, sA'.yl, sA'.lo⟩
    have htm1 : sA'.tmps = aR.tmps := hlA.tmps
    have hlo1 : sA'.lo = w0.lo := hlA.lo
    have hyl1 : sA'.yl = w0.yl := hlA.yl
    have hds1 : a1.defers = [] := hm1.defers.trans hlA.ds
    have upB : ∀ b, w2.heap.size ≤ b → B b := fun b hb => .inr ⟨by omega, fun hs => by have := (h.A2 b (h.SA b hs)).2; omega⟩
    have mB : Mod P sB ⟨conc1.m, B, conc1.yl⟩ st1 a1 w2 := by
      refine Mod.move' hm1 B ?_ (fun b hlt hb => h2 b fun e => hBl (by rw [← e, ← hB1]; exact hb)) (fun b _ hb => by rw [← hB1]; exact hb) rfl rfl (fun b hb => hb) rfl hds1 rfl {
        up := upB
        mB := fun b ⟨i, v, c, g1, g2⟩ => by
          have := hm1.inB g1 g2
          rw [← hm1.cB, hB1] at this
          exact this
        ds := fun _ hd => by cases hd
        dn := List.nodup_nil
        lo := by
          have : w0.lo ≤ W.heap.size := h.mod.okS.lo
          show sA'.lo ≤ w2.heap.size
          omega }
      omega
    refine wpIn_mono (hR.b (some (wb.heap.size + 1)) rfl _ (invOK sB rfl) _ ans1 _ _ _ sB hk1 ⟨_, mB⟩ ⟨rfl, Link.refl _⟩) ?_
    rintro eb a3 w3 ⟨sE, ans3, st3, ⟨conc3, hm3⟩, ⟨rfl, hlB⟩, hk3⟩
    have lB := hlB.trans hm3.link
    have hszB : w2.heap.size ≤ w3.heap.size := lB.size
    have hown1 : ∀ b, ownedB conc1 b → ownedB conc b ∨ W.heap.size ≤ b := fun b hb => (lA.M b hb).imp id fun g => g.1
    have hown3 : ∀ b, ownedB conc3 b → ownedB conc b ∨ W.heap.size ≤ b := fun b hb => by
      rcases lB.M b hb with g | g
      · exact hown1 b g
      · have g' : w2.heap.size ≤ b := g.1
        exact .inr (by omega)
    have hn1 : ∀ b, b < W.heap.size → ¬ ownedB conc b → ¬ ownedB conc1 b := fun b hb ho hc => by
      rcases hown1 b hc with g | g
      · exact ho g
      · omega
    have hblk : ∀ b, b < W.heap.size → ¬ ownedB conc b → b ≠ wb.heap.size + 1 → w3.heap[b]? = W.heap[b]? := fun b hb ho hne => by
      have e1 : w3.heap[b]? = w2.heap[b]? := lB.block b (by show b < w2.heap.size; omega) (hn1 b hb ho)
      exact e1.trans ((h2 b hne).trans (lA_block b hb ho))
    have hrec3 : w3.heap[wb.heap.size + 1]? = some (.loop { state := .busy, pending := none, fn, tmps := a.tmps, params := #[p], assign := ca, body := cb, defers := wb.heap.size }) := by
      have e1 : w3.heap[wb.heap.size + 1]? = w2.heap[wb.heap.size + 1]? := lB.block _ (by show _ < w2.heap.size; omega) (hn1 _ (by omega) hnl)
      exact e1.trans hrec2
    have hos3 : w3.os = W.os := by have e1 : w3.os = w2.os := lB.os; have e2 : w1.os = W.os := lA.os; rw [e1, hos2.1, e2]
    have htp3 : w3.tape = W.tape := by have e1 : w3.tape = w2.tape := lB.tape; have e2 : w1.tape = W.tape := lA.tape; rw [e1, hos2.2.1, e2]
    have hot3 : w3.output = W.output := by have e1 : w3.output = w2.output := lB.output; have e2 : w1.output = W.output := lA.output; rw [e1, hos2.2.2, e2]
    have hBE : sE.B = B := funext fun b => propext (hlB.B b)
    have htmE : sE.tmps = a.tmps.setIfInBounds p (e.val cs) := hlB.tmps.trans htm1
    have hT : a.tmps.size = T.N := h.mod.size.trans hmN
    have hround : ∀ (st4 : LoopState) (pe4 : Option Code), st3.fixed = F → st3.N = T.N → ∃ conc4, conc4.m = conc3.m ∧ Between P w0 wb own0 a fn #[p] ca cb st4 pe4 A S conc4 (onlyF F (unlab st3))
        (w3.putObj (wb.heap.size + 1) (.loop { state := st4, pending := pe4, fn, tmps := a.tmps, params := #[p], assign := ca, body := cb, defers := wb.heap.size })) := fun st4 pe4 hF hN =>
      h.round (unlab_mod hm3) hF hR.pF htmE (by rw [hT, hm3.size, hN]) (fun k sl hk _ => unlab_L hk) hBE (hlB.yl.trans hyl1) (hlB.lo.trans hlo1) hos3 htp3 hot3 (by omega) hblk hown3 hds rfl
    have hrest : ∀ (st4 : LoopState) (pe4 : Option Code) b, b < W.heap.size → ¬ ownedB conc b → b ≠ wb.heap.size + 1 →
        (w3.putObj (wb.heap.size + 1) (.loop { state := st4, pending := pe4, fn, tmps := a.tmps, params := #[p], assign := ca, body := cb, defers := wb.heap.size })).heap[b]? = W.heap[b]? := fun st4 pe4 b hb ho hne =>
      (World.putObj_heap_other hne).trans (hblk b hb ho hne)
    have hput : ∀ v, (w3.putObj (wb.heap.size + 1) v).heap.size = w3.heap.size := fun v => by simp [World.putObj]
    have out : ∀ (ex : Exit) (jc : Code), jumpOf ex = jc → (∀ c, ex ≠ .panic c) → leave E X (kOf K X) ex (onlyF F (unlab st3)) = some ans3 → st3.fixed = F → st3.N = T.N →
        ∃ v w', (Instr.endRound (wb.heap.size + 1) (some jc)).run P w3 = .ok v w' ∧ ((∀ b, b < W.heap.size → ¬ ownedB conc b → b ≠ wb.heap.size + 1 → w'.heap[b]? = W.heap[b]?) ∧ W.heap.size ≤ w'.heap.size ∧ w'.os = W.os ∧ w'.tape = W.tape ∧ w'.output = W.output ∧
      ((Ending.returned v = .returned (.bool true) ∧ ∃ conc' d', Between P w0 wb own0 a fn #[p] ca cb .ready none A S conc' (mk T d') w' ∧ again d' = some ans3) ∨
       (Ending.returned v = .returned (.bool false) ∧ ∃ conc', ∃ y ∈ X, ∃ d', Between P w0 wb own0 a fn #[p] ca cb .done (some (jumpOf y.1.exit')) A S conc' (mk y.2 d') w' ∧ K y.1.exit' (mk y.2 d') = some ans3))) := by
      intro ex jc hj _ hl hF hN
      refine ⟨_, _, run_endRound (some jc) hrec3, hrest _ _, by rw [hput]; omega, hos3, htp3, hot3, .inr ⟨rfl, ?_⟩⟩
      obtain ⟨conc4, _, hb4⟩ := hround .done (some jc) hF hN
      obtain ⟨x, hx, d', conc', he, g1, g2, g3⟩ := leave_mod hE hb4.mod X hl
      obtain ⟨conc5, h5⟩ := hb4.narrow g1 g2
      refine ⟨conc5, x, hx, d', ?_, by rw [← he]; exact g3⟩
      rw [← he, hj]
      exact h5
    have chk : ∀ {z : Option R}, (bif eqN st3.fixed F && Nat.beq st3.N T.N then z else none) = some ans3 → st3.fixed = F ∧ st3.N = T.N ∧ z = some ans3 := by
      intro z hz
      cases hc : (eqN st3.fixed F && Nat.beq st3.N T.N) with
      | false => rw [hc] at hz; cases hz
      | true =>
        rw [hc] at hz
        simp only [Bool.and_eq_true] at hc
        exact ⟨eqN_eq hc.1, nbeq_true hc.2, hz⟩
    cases eb with
    | normal =>
      obtain ⟨hF, hN, hz⟩ := chk (z := (dec E T (onlyF F (unlab st3))).bind again) hk3
      refine ⟨_, _, run_endRound none hrec3, hrest _ _, by rw [hput]; omega, hos3, htp3, hot3, .inl ⟨rfl, ?_⟩⟩
      obtain ⟨conc4, _, hb4⟩ := hround .ready none hF hN
      cases hd : dec E T (onlyF F (unlab st3)) with
      | none => rw [hd] at hz; cases hz
      | some d' =>
        rw [hd] at hz
        obtain ⟨conc', g1, g2⟩ := dec_mod hE hb4.mod hd
        obtain ⟨conc5, h5⟩ := hb4.narrow g1 fun b ⟨i, v, c, k1, k2⟩ => g2 i v c b k1 k2
        exact ⟨conc5, d', h5, hz⟩
    | ret =>
      obtain ⟨hF, hN, hz⟩ := chk (z := leave E X (kOf K X) .ret (onlyF F (unlab st3))) hk3
      exact out .ret .ret rfl (fun c hc => by cases hc) hz hF hN
    | exit i =>
      obtain ⟨hF, hN, hz⟩ := chk (z := leave E X (kOf K X) (.exit i) (onlyF F (unlab st3))) hk3
      exact out (.exit i) (.exit i) rfl (fun c hc => by cases hc) hz hF hN
    | goto t =>
      obtain ⟨hF, hN, hz⟩ := chk (z := leave E X (kOf K X) (.goto t) (onlyF F (unlab st3))) hk3
      obtain ⟨conc4, _, hb4⟩ := hround .ready none hF hN
      obtain ⟨x, hx, d', conc', he, _⟩ := leave_mod hE hb4.mod X hz
      cases hw : x.1 <;> simp [hw, Way.exit'] at he
    | panic c =>
      obtain ⟨hF, hN, hz⟩ := chk (z := leave E X (kOf K X) (.panic c) (onlyF F (unlab st3))) hk3
      obtain ⟨conc4, _, hb4⟩ := hround .ready none hF hN
      obtain ⟨x, hx, d', conc', he, _⟩ := leave_mod hE hb4.mod X hz
      cases hw : x.1 <;> simp [hw, Way.exit'] at he
    | outgrown =>
      obtain ⟨hF, hN, hz⟩ := chk (z := leave E X (kOf K X) .outgrown (onlyF F (unlab st3))) hk3
      obtain ⟨conc4, _, hb4⟩ := hround .ready none hF hN
      obtain ⟨x, hx, d', conc', he, _⟩ := leave_mod hE hb4.mod X hz
      cases hw : x.1 <;> simp [hw, Way.exit'] at he
  | ret => cases hk1
  | exit i => cases hk1
  | goto i => cases hk1
  | panic c => cases hk1
  | outgrown => cases hk1

end Go.Abs
