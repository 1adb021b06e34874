/- Operations that change objects. -/
import Derived.Test.YtbcbiemjokpghaaNAbsK
set_option linter.unusedSimpArgs false
set_option linter.unusedVariables false
namespace Go.Abs
open Go
variable {P : Program} {E : Env} {w0 : Start} {w : World} {conc : Conc} {st : ASt} {a : Act}

theorem zero_cells {t : Ty} (ht : 0 < t.sz) : (t.val (zeroVals t)).cells.toList = zeroVals t := by
  cases t <;> first | rfl | (simp [Ty.sz] at ht; done) | simp [Ty.val, Ty.isPair, Value.cells]

theorem alloc_ok (hE : EnvOK P E) (h : Mod P w0 conc st a w) {o : Oper} {T d : Nat} {t : Ty} (hop : o.op = .alloc T) (hd : o.dst = some d) (hT : E.ty T = some t) {u : Upd} {st' : ASt}
    (hr : (newObj d (.box t (zeroCells t)) (fun v => .bptr d v 0) []).run st = some u) (hap : applyU st none u = some st') : OpOK P w0 o a w st' := by
  obtain ⟨te, rfl, hok⟩ := hE.tyOK hT
  have hc := zero_cells hok.pos
  have := box_new (U := T) (cs := (te.ty.val (zeroVals te.ty)).cells) h hr hap (by rw [zc_len te.ty]) (by rw [hc]; exact zero_one _) (by rw [hc]; exact zero_rel _)
  refine OpOK.value (v := .pointer (some ⟨w.heap.size, 0, none⟩)) (w' := w.alloc (.cells (te.ty.val (zeroVals te.ty)).cells T)) ?_ (by rw [hd]; exact this)
  simp only [execOp, hop, Instr.alloc]
  rw [Sem.run_bind, Sem.run_bind, zeroValue_run hok]
  rfl
where
  zc_len : (t : Ty) → (zeroCells t).length = t.sz
    | .unit => rfl
    | .pair a b => by simp [zeroCells, Ty.sz, zc_len a, zc_len b]
    | .slice _ => rfl
    | .int _ => rfl
    | .bool => rfl
    | .str => rfl
    | .fn1 _ _ => rfl
    | .fn2 _ _ _ => rfl
    | .seq _ => rfl
    | .seq2 _ _ => rfl
    | .map _ _ => rfl

theorem box_ok (hE : EnvOK P E) (h : Mod P w0 conc st a w) {o : Oper} {T d : Nat} {t : Ty} {x : Operand} (hop : o.op = .box T x) (hd : o.dst = some d) {s : SVal} {l : List AVal}
    (hs : (rd [] x).run st = some s) (hl : s.cells.run st = some l) (hlen : l.length = t.sz) {u : Upd} {st' : ASt}
    (hr : (newObj d (.box t l) (fun v => .bptr d v 0) []).run st = some u) (hap : applyU st none u = some st') : OpOK P w0 o a w st' := by
  obtain ⟨vs, e1, e2, e3⟩ := cells_spec hl (rd_rel h (labs_nil _) hs)
  have := box_new (U := T) (cs := (a.eval x).cells) h hr hap hlen (by rw [e1]; exact e2) (by rw [e1]; exact e3)
  exact OpOK.value (v := .pointer (some ⟨w.heap.size, 0, none⟩)) (w' := w.alloc (.cells (a.eval x).cells T)) (by simp only [execOp, hop, Instr.box]; rfl) (by rw [hd]; exact this)

theorem nil_ok (h : Mod P w0 conc st a w) {o : Oper} {d : Nat} {e : Ty} (hop : o.op = .assign (.const (.slice none 0 0))) (hd : o.dst = some d) {u : Upd} {st' : ASt}
    (hr : (newObj d (.buf e []) (.hand d) []).run st = some u) (hap : applyU st none u = some st') : OpOK P w0 o a w st' := by
  refine OpOK.value (v := .slice none 0 0) (w' := w) (by simp [execOp, hop, Act.eval]) ?_
  rw [hd]
  exact new_done h (FrzW.none P conc st w) hr hap (Keeps.refl w) (fun b hb => by cases hb) (fun conc' g1 g2 g3 => ⟨rfl, .inl ⟨rfl, rfl⟩⟩)
    (fun conc' ver hc => ⟨ver, _, true, hc, Nat.le_refl _, rfl, fun _ => rfl⟩)

theorem elem_of (hE : EnvOK P E) {T : Nat} {e : Ty} (hT : E.ty T = some (.slice e)) : ∃ T', P.underlying T = some (.slice T') ∧ ElOK P T' e := by
  obtain ⟨te, hte, hok⟩ := hE.tyOK hT
  have := hok.desc
  rw [hte] at this
  exact this

theorem buildSlice_run (hE : EnvOK P E) (h : Mod P w0 conc st a w) {o : Oper} {T n : Nat} {e : Ty} {ps : Array (Nat × Operand)} (hop : o.op = .buildSlice T n ps) (hT : E.ty T = some (.slice e))
    (hf : e.noFn = true) (hn : n * e.sz ≤ 16777216) {r : List e.den × W} (hfill : (fillL E e (List.replicate n e.dflt) [] ps.toList).run st = some r) :
    FrzW P conc st w (ids r.2) r.2 ∧ r.1.length = n ∧ ∃ cs' T', cs'.size = n * e.sz ∧ RowRep P w (okOf (frzL conc (ids r.2))) e r.1 cs'.toList ∧ (execOp a.eval o).run P w = .ok (.value (.slice (some ⟨w.heap.size, 0, none⟩) n n)) (w.alloc (.cells cs' T')) := by
  obtain ⟨T', hu, i, hi1, hi2, hi3, hi4, hpos⟩ := elem_of hE hT
  have hz := zero_cells hpos
  have hrow : RowRep P w (okOf (frzL conc (ids r.2))) e (List.replicate n e.dflt) ((Array.range (n * e.sz)).map (fun j => (e.val (zeroVals e)).cells[j % (e.val (zeroVals e)).cells.size]!)).toList := RowRep.zero hf n hz
  obtain ⟨_, k2, k3, cs', k4, k5⟩ := fillL_sound hE h hpos (F := ids r.2) hfill (fun _ h => h) (fun _ => FrzW.nil) hrow
  rw [List.length_replicate] at k2
  have hcs : cs'.size = n * e.sz := by have := k5.1; rw [k2] at this; simpa using this
  refine ⟨k3, k2, cs', T', hcs, k5, ?_⟩
  have hps : (ps.map fun (x : Nat × Operand) => (x.1, a.eval x.2)).toList = ps.toList.map fun p => (p.1, a.eval p.2) := by simp
  have hgt : ¬ (n * i.size > 2 ^ 24) := by rw [hi2]; omega
  have hzv : (zeroValue T').run P w = .ok (e.val (zeroVals e)) w := by simp [zeroValue, typeInfo, hi1, hi4]
  have hsz : (sizeOf T').run P w = .ok e.sz w := by simp [sizeOf, typeInfo, hi1, hi2]
  have key : ∀ z : Array Value, (n * e.sz = 0 ∨ z = (e.val (zeroVals e)).cells) →
      Instr.fill (fun i => some (i * e.sz, e.sz)) ((Array.range (n * e.sz)).map (fun j => z[j % z.size]!)) (ps.map fun (x : Nat × Operand) => (x.1, a.eval x.2)).toList = some cs' := by
    intro z hz'
    rw [hps, ← k4]
    congr 1
    rcases hz' with h0 | rfl
    · simp [h0]
    · rfl
  have hrun : (Instr.buildSlice T n (ps.map fun (x : Nat × Operand) => (x.1, a.eval x.2))).run P w = .ok (.slice (some ⟨w.heap.size, 0, none⟩) n n) (w.alloc (.cells cs' T')) := by
    unfold Instr.buildSlice
    rw [Sem.run_bind, run_underlying hu]
    dsimp only [Result.andThen]
    rw [Sem.run_bind, hsz]
    dsimp only [Result.andThen]
    have hgt' : ¬ (n * e.sz > 2 ^ 24) := by omega
    rw [if_neg hgt']
    by_cases h0 : n * e.sz = 0
    · rw [if_pos h0]
      have := key #[] (.inl h0)
      simp only [pure_bind, this]
      rfl
    · rw [if_neg h0]
      have := key _ (.inr rfl)
      simp only [pure_bind, bind_assoc]
      rw [Sem.run_bind, hzv]
      dsimp only [Result.andThen]
      simp only [this]
      rfl
  simp only [execOp, hop]
  rw [Sem.run_bind]
  have he : (ps.map fun x => match x with | (i, x) => (i, a.eval x)) = ps.map fun (x : Nat × Operand) => (x.1, a.eval x.2) := rfl
  rw [he, hrun]
  rfl

theorem buildSlice_ok (hE : EnvOK P E) (h : Mod P w0 conc st a w) {o : Oper} {T d n : Nat} {e : Ty} {ps : Array (Nat × Operand)} (hop : o.op = .buildSlice T n ps) (hd : o.dst = some d) (hT : E.ty T = some (.slice e))
    (hf : e.noFn = true) (hn : n * e.sz ≤ 16777216) {r : List e.den × W} (hfill : (fillL E e (List.replicate n e.dflt) [] ps.toList).run st = some r) {u : Upd} {st' : ASt}
    (hr : (newObj d (.buf e r.1) (.hand d) r.2).run st = some u) (hap : applyU st none u = some st') : OpOK P w0 o a w st' := by
  obtain ⟨k3, k2, cs', T', hcs, k5, hrun⟩ := buildSlice_run hE h hop hT hf hn hfill
  have hpos : 0 < e.sz := by obtain ⟨_, _, _, _, _, _, _, hpos⟩ := elem_of hE hT; exact hpos
  have hb := buf_new (U := T') (cs := cs') (cap := n) (w' := w.alloc (.cells cs' T')) (b := w.heap.size) h k3 hr hap (by rw [k2]; exact Nat.le_refl _) (by unfold maxLen; have := Nat.le_mul_of_pos_right n hpos; omega) hcs (Keeps.alloc w _) (Nat.le_refl _) (heap_new _) (fun j x hj => by
    refine (k5.2.2 j x hj).mono e (Keeps.ext (Keeps.alloc w _) _) ?_
    intro b hb hlt
    exact ⟨.inl hb, by omega⟩)
  rw [k2] at hb
  exact OpOK.value hrun (by rw [hd]; exact hb)

end Go.Abs
