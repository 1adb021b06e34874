/- Operations that change objects: make, stores, append. -/
import Derived.Test.YtbcbiemjokpghaaNAbsL
set_option linter.unusedSimpArgs false
set_option linter.unusedVariables false
namespace Go.Abs
open Go
variable {P : Program} {E : Env} {w0 : Start} {w : World} {conc : Conc} {st : ASt} {a : Act}

theorem i64_wrap {n : Int} (h0 : -9223372036854775808 ≤ n) (h1 : n < 9223372036854775808) : IntKind.i64.wrap n = n := by
  have e1 : (2 : Int) ^ IntKind.i64.bits = 18446744073709551616 := by decide
  have e2 : (2 : Int) ^ (IntKind.i64.bits - 1) = 9223372036854775808 := by decide
  have e3 : IntKind.i64.signed = true := by decide
  unfold IntKind.wrap
  dsimp only
  rw [e1, e2, e3]
  simp only [Bool.true_and, decide_eq_true_eq]
  split <;> omega

theorem run_makeSlice {T T' : Nat} {e : Ty} (hu : P.underlying T = some (.slice T')) (hel : ElOK P T' e) {n : Int} (h0 : 0 ≤ n) (h1 : n ≤ (most : Int)) :
    (Instr.makeSlice T (.int .i64 n) (.int .i64 n)).run P w = .ok (.slice (some ⟨w.heap.size, 0, none⟩) n.toNat n.toNat)
      (w.alloc (.cells ((Array.range (n.toNat * e.sz)).map (fun j => (e.val (zeroVals e)).cells[j % (e.val (zeroVals e)).cells.size]!)) T')) := by
  obtain ⟨i, hi1, hi2, hi3, hi4, hpos⟩ := hel
  unfold most at h1
  have hw : IntKind.i64.wrap n = n := i64_wrap (by omega) (by omega)
  have hzv : (zeroValue T').run P w = .ok (e.val (zeroVals e)) w := by simp [zeroValue, typeInfo, hi1, hi4]
  have hsz : (sizeOf T').run P w = .ok e.sz w := by simp [sizeOf, typeInfo, hi1, hi2]
  have hti : (typeInfo T').run P w = .ok i w := by simp [typeInfo, hi1]
  have hbytes : decide ((i.bytes : Int) * n > 2 ^ 48) = false := by
    have : (i.bytes : Int) * n ≤ 32768 * 4294967296 := Int.mul_le_mul (by omega) (by omega) h0 (by omega)
    rw [decide_eq_false_iff_not]
    omega
  have hroom : ∀ k : Nat, (askRoom k).run P w = .ok () w := by
    intro k
    unfold askRoom
    split
    · rfl
    · rfl
  unfold Instr.makeSlice
  rw [Sem.run_bind, run_underlying hu]
  dsimp only [Result.andThen]
  simp only [asInt, asIntOf, pure_bind, bind_assoc]
  rw [Sem.run_bind, hti]
  dsimp only [Result.andThen]
  rw [hw]
  have c2 : decide (n < 0) = false := by simp; omega
  have c3 : decide (n > n) = false := by simp
  simp only [hbytes, c2, c3, Bool.or_false, Bool.false_eq_true, if_false]
  rw [Sem.run_bind, hroom]
  dsimp only [Result.andThen]
  rw [Sem.run_bind, hsz]
  dsimp only [Result.andThen]
  by_cases hz : n.toNat * e.sz = 0
  · have e0 : ∀ f : Nat → Value, (Array.range 0).map f = #[] := by intro f; simp
    rw [if_pos hz]
    simp only [pure_bind, hz, e0]
    rfl
  · rw [if_neg hz]
    rw [Sem.run_bind, hzv]
    rfl

theorem makeSlice_ok (hE : EnvOK P E) (h : Mod P w0 conc st a w) {o : Oper} {T d x : Nat} {e : Ty} (hop : o.op = .makeSlice T (.tmp x) (.tmp x)) (hd : o.dst = some d) (hT : E.ty T = some (.slice e))
    (hf : e.noFn = true) {n : Int} (hx : (rdA [] (.tmp x)).run st = some (.pure (.int .i64) n)) (h0 : 0 ≤ n) (h1 : n ≤ (most : Int)) {u : Upd} {st' : ASt}
    (hr : (newObj d (.buf e (List.replicate n.toNat e.dflt)) (.hand d) []).run st = some u) (hap : applyU st none u = some st') : OpOK P w0 o a w st' := by
  obtain ⟨T', hu, hel⟩ := elem_of hE hT
  have hel' := hel
  obtain ⟨i, hi1, hi2, hi3, hi4, hpos⟩ := hel'
  have hz := zero_cells hpos
  obtain ⟨vs, e1, e2⟩ := rdA_rel h (labs_nil _) hx
  have hv := rep_int e1 e2
  have hrow : RowRep P w (okOf conc) e (List.replicate n.toNat e.dflt) _ := RowRep.zero hf n.toNat hz
  have hb := buf_new (U := T') (cs := ((Array.range (n.toNat * e.sz)).map (fun j => (e.val (zeroVals e)).cells[j % (e.val (zeroVals e)).cells.size]!))) (cap := n.toNat) (b := w.heap.size) h (FrzW.none P conc st w) hr hap
    (by simp) (by unfold maxLen; unfold most at h1; omega) (by simp) (Keeps.alloc w _) (Nat.le_refl _) (heap_new _) (fun j y hj => by
    refine (hrow.2.2 j y hj).mono e (Keeps.ext (Keeps.alloc w _) _) ?_
    intro b hb hlt
    exact ⟨.inl (by rw [show ids [] = [] from rfl, frzL_nil]; exact hb), by omega⟩)
  rw [List.length_replicate] at hb
  refine OpOK.value ?_ (by rw [hd]; exact hb)
  simp only [execOp, hop]
  rw [Sem.run_bind, hv, run_makeSlice hu hel h0 h1]
  rfl

/-- Cells stored in a block of the call's own. -/
theorem run_store {T : Nat} {te : TyE} (hok : TyOK P T te) {b off : Nat} {cs : Array Value} {U : Nat} (hb : w.heap[b]? = some (.cells cs U (0, 0))) {v : Value} {vs : List Value} (hv : v.cells.toList = vs) (h1 : ∀ u ∈ vs, one u = true)
    (hl : vs.length = te.ty.sz) (hs : off + te.ty.sz ≤ cs.size) :
    (Instr.storeAt T (.pointer (some ⟨b, off, none⟩)) v).run P w = .ok () (w.setRow b (cs.toList.take off ++ vs ++ cs.toList.drop (off + te.ty.sz)).toArray) := by
  have hsz : v.cells.size = te.ty.sz := by rw [← hl, ← hv]; simp
  have := run_storeCells_at P b off U vs 0 cs w hb (by omega) (fun u hu => by
    have := h1 u hu
    cases u <;> first | rfl | cases this)
  simp only [Nat.add_zero, hl] at this
  unfold Instr.storeAt storeVar
  simp only [Instr.sureAddr, pure_bind]
  rw [Sem.run_bind, run_sz hok]
  dsimp only [Result.andThen]
  rw [if_neg (by rw [hsz]; simp), hv]
  exact this

/-- An object whose block alone is written, its place and version kept. -/
theorem set_done (h : Mod P w0 conc st a w) {W0 : W} (hW : FrzW P conc st w (ids W0) W0) {id cv : Nat} {c : Value} {o' : AObj} {b : Nat} {cs' : Array Value} {st' : ASt}
    (hc : frzL conc (ids W0) id = some (cv, c, true)) (hb : blockOf c = some b) (hap : applyU st none ⟨none, W0 ++ [(id, (cv, o'))]⟩ = some st')
    (hO : ∀ conc' w', CLe (frzL conc (ids W0)) conc' → Ext (okOf (frzL conc (ids W0))) w w' → Sub w (okOf (frzL conc (ids W0))) (okOf conc') → w' = w.setRow b cs' → ORel P w' conc' (okOf conc') c true o') :
    Models P w0 st' a (w.setRow b cs') := by
  obtain ⟨conc1, rfl, h1, h2, h3⟩ := frz_done h hW
  obtain ⟨conc2, k1, _⟩ := h1.obj (id := id) (ver := cv) (c := c) (o := o') (w' := w.setRow b cs') (fun cv' c0 ow hc' => by rw [hc] at hc'; cases hc'; exact .inr ⟨rfl, rfl⟩) rfl rfl rfl (by simp)
    (fun b' hb' hne => setRow_other w b b' cs' fun e => hne cv c hc (by rw [hb, e])) (fun b' hb' => ⟨.inr ⟨cv, c, hc, hb'⟩, by
      rw [size_setRow]
      exact (h1.base id cv c b' hc hb').2⟩)
    (fun conc' g1 _ g2 g3 _ => hO conc' _ g1 g2 g3 rfl)
  refine ⟨conc2, ?_⟩
  unfold applyU at hap
  cases hap
  show Mod P w0 conc2 { N := st.N, marks := st.marks, slots := st.slots, heap := setObjs st.heap (W0 ++ [(id, (cv, o'))]), fixed := st.fixed } a (w.setRow b cs')
  rw [setObjs_append]
  exact k1

theorem one_oneCell {v : Value} (h : one v = true) : v.oneCell' = true := by cases v <;> first | rfl | cases h

end Go.Abs
