/- Operations that change objects: append. -/
import Derived.Test.YtbcbiemjokpghaaNAbsM
set_option linter.unusedSimpArgs false
set_option linter.unusedVariables false
namespace Go.Abs
open Go
variable {P : Program} {E : Env} {w0 : Start} {w : World} {conc : Conc} {st : ASt} {a : Act}

/-- A slice value whose cells read as a list. -/
def Reads (P : Program) (w : World) (ok : Nat → Prop) (e : Ty) (l : List e.den) (v : Value) (news : List Value) : Prop :=
  ∃ ad cap, v = .slice ad l.length cap ∧ RowRep P w ok e l news ∧ ((l = [] ∧ news = []) ∨ ∃ b off cs T fr, ad = some ⟨b, off, none⟩ ∧ w.heap[b]? = some (.cells cs T fr) ∧
    off + l.length * e.sz ≤ cs.size ∧ chunk cs.toList off (l.length * e.sz) = news)

theorem rows_of {ok : Nat → Prop} {e : Ty} (hpos : 0 < e.sz) {l : List e.den} {cs : List Value} {off : Nat} (hs : off + l.length * e.sz ≤ cs.length)
    (h : ∀ i x, l[i]? = some x → Rep P e w ok (chunk cs (off + i * e.sz) e.sz) x) : RowRep P w ok e l (chunk cs off (l.length * e.sz)) := by
  have hlen := chunk_length hs
  refine ⟨hlen, ?_, fun i x hi => ?_⟩
  · intro v hv
    obtain ⟨j, hj, rfl⟩ := List.mem_iff_getElem.1 hv
    rw [hlen] at hj
    have hjs : j / e.sz < l.length := (Nat.div_lt_iff_lt_mul hpos).2 hj
    have h1 := h (j / e.sz) l[j / e.sz] (List.getElem?_eq_getElem hjs)
    refine Rep.ones e h1 _ ?_
    have hm : j % e.sz < e.sz := Nat.mod_lt _ hpos
    have hdm := Nat.div_add_mod j e.sz
    rw [Nat.mul_comm] at hdm
    have hget : (chunk cs (off + j / e.sz * e.sz) e.sz)[j % e.sz]? = some (chunk cs off (l.length * e.sz))[j] := by
      rw [← List.getElem?_eq_getElem]
      unfold chunk
      rw [List.getElem?_take, if_pos hm, List.getElem?_drop, List.getElem?_take, if_pos hj, List.getElem?_drop]
      congr 1
      omega
    exact List.mem_of_getElem? hget
  · have hlt := (List.getElem?_eq_some_iff.1 hi).1
    have hle : i * e.sz + e.sz ≤ l.length * e.sz := by rw [← Nat.succ_mul]; exact Nat.mul_le_mul_right _ hlt
    rw [chunk_chunk hle]
    exact h i x hi

theorem slice_reads {ok : Nat → Prop} {e : Ty} (hpos : 0 < e.sz) {l : List e.den} {v : Value} (h : Rep P (.slice e) w ok [v] l) : ∃ news, Reads P w ok e l v news := by
  obtain ⟨ad, cap, h1, h2, h3⟩ := h
  simp only [List.cons.injEq, and_true] at h1
  rcases h3 with h3 | ⟨b, off, cs, T, fr, f1, f2, f3, f4, f5⟩
  · subst h3
    exact ⟨[], ad, cap, h1, ⟨by simp, by simp, by simp⟩, .inl ⟨rfl, rfl⟩⟩
  · exact ⟨_, ad, cap, h1, rows_of hpos (by simpa using f4) f5, .inr ⟨b, off, cs, T, fr, f1, f3, f4, rfl⟩⟩

/-- The elements that are appended. -/
theorem elems_spec (hE : EnvOK P E) (h : Mod P w0 conc st a w) {e : Ty} (hpos : 0 < e.sz) {b : AVal} {v : Value} {m : List e.den × W} (hr : (peekA E (.slice e) b).run st = some m) (hv : VRel P w conc (okOf conc) b v) :
    ∃ news, Reads P w (okOf conc) e m.1 v news := by
  cases b with
  | hand id ver =>
    simp only [peekA, RM.run] at hr
    split at hr
    · rename_i cv u l ho
      obtain ⟨h1, h2⟩ := cond_some hr
      split at h2
      · rename_i x hx
        cases h2
        obtain ⟨e', he⟩ := castTy_some hx
        have hue : u = e := by injection e'
        subst hue
        subst he
        have := nbeq_true h1
        subst this
        obtain ⟨c, ow, g1, g2⟩ := obj_rel h ho
        obtain ⟨cv', c', ow', k1, k2, _, k3⟩ := hv
        rw [g1] at k1; cases k1
        have hvc := k3 rfl
        subst hvc
        obtain ⟨_, ⟨f1, f2⟩ | ⟨bl, off, cap, cs, U, f1, f2, f3, f4, f5, f6⟩⟩ := g2
        · subst f2
          exact ⟨[], none, 0, f1, ⟨by simp, by simp, by simp⟩, .inl ⟨rfl, rfl⟩⟩
        · have hs : off + List.length (α := u.den) x * u.sz ≤ cs.toList.length := by
            have hcl : off + cap * u.sz ≤ cs.toList.length := by simpa using f5
            exact Nat.le_trans (Nat.add_le_add_left (Nat.mul_le_mul_right _ f3) _) hcl
          exact ⟨_, _, cap, f1, rows_of hpos hs (fun i x hi => f6 i x hi), .inr ⟨bl, off, cs, U, _, rfl, f2, by simpa using hs, rfl⟩⟩
      · cases h2
    · rename_i cv u l ho
      obtain ⟨h1, h2⟩ := cond_some hr
      split at h2
      · rename_i x hx
        cases h2
        obtain ⟨e', he⟩ := castTy_some hx
        have hue : u = e := by injection e'
        subst hue
        subst he
        have := nbeq_true h1
        subst this
        obtain ⟨c, ow, g1, g2⟩ := obj_rel h ho
        obtain ⟨cv', c', ow', k1, k2, _, k3⟩ := hv
        rw [g1] at k1; cases k1
        have hvc := k3 rfl
        subst hvc
        exact slice_reads hpos (fbuf_rep g2)
      · cases h2
    · obtain ⟨h1, h2⟩ := cond_some hr
      split at h2
      · rename_i x hx
        obtain ⟨e', he⟩ := castTy_some hx
        cases e'
      · cases h2
    · obtain ⟨h1, h2⟩ := cond_some hr
      split at h2
      · rename_i x hx
        obtain ⟨e', he⟩ := castTy_some hx
        cases e'
      · cases h2
    · cases hr
  | pure t x =>
    obtain ⟨vs, e1, e2⟩ := peekA_spec hE h hr hv
    simp only [peekA] at hr
    split at hr
    · rename_i y hy
      cases hr
      have := (e2 [] (by simp [ids])).2
      rw [frzL_nil] at this
      have hl := this.len
      match vs, hl with
      | [u], _ => rw [show v = u from e1]; exact slice_reads hpos this
    · cases hr
  | nils =>
    simp only [peekA] at hr
    cases hr
    exact ⟨[], none, 0, hv, ⟨by simp, by simp, by simp⟩, .inl ⟨rfl, rfl⟩⟩
  | fref f => cases hr
  | bptr id ver off => cases hr
  | pptr u x => cases hr
  | eptr id ver e i => cases hr
  | junk => cases hr
  | yld => cases hr

theorem run_firstCells {e : Ty} {l : List e.den} {v : Value} {news : List Value} {ok : Nat → Prop} (h : Reads P w ok e l v news) {w' : World} (hw : w'.heap = w.heap) :
    (Builtin.firstCells e.sz l.length v).run P w' = .ok news.toArray w' := by
  obtain ⟨ad, cap, h1, h2, h3⟩ := h
  subst h1
  rcases h3 with ⟨rfl, rfl⟩ | ⟨b, off, cs, T, fr, rfl, f2, f3, f4⟩
  · cases ad with
    | none => rfl
    | some ad => simp [Builtin.firstCells, loadCells, loadCellsFrom]
  · refine run_firstCells_some (P := P) w' e.sz l.length ⟨b, off, none⟩ l.length cap news h2.1 fun j v hj => ?_
    rw [addr_add]
    have : w'.cell? ⟨b, off + j, none⟩ = cs[off + j]? := cell_of_row w' b (off + j) cs T fr (by rw [hw]; exact f2)
    rw [this]
    rw [← f4] at hj
    obtain ⟨_, h5⟩ := chunk_get hj
    simpa using h5

theorem Reads.lenOf {e : Ty} {l : List e.den} {v : Value} {news : List Value} {ok : Nat → Prop} (h : Reads P w ok e l v news) : (Builtin.lenOf v).run P w = .ok l.length w := by
  obtain ⟨ad, cap, h1, _⟩ := h
  rw [h1]; rfl

theorem run_append_grown {T T' ty : Nat} {e : Ty} {i : TypeInfo} (hu : P.underlying T = some (.slice T')) (hi1 : P.info? T' = some i) (hi2 : i.size = e.sz) (hi3 : i.bytes ≤ 32768)
    (hi4 : i.zero = some (e.val (zeroVals e))) {l m : List e.den} {s x : Value} {olds news : List Value} {ok ok' : Nat → Prop} (hs : Reads P w ok e l s olds) (hx : Reads P w ok' e m x news) {ad : Option Addr} {cap : Nat} (hsv : s = .slice ad l.length cap)
    (hg : cap < l.length + m.length) (hm : l.length + m.length ≤ most) :
    (Builtin.append_ #[T, T] ty #[s, x]).run P w = .ok (.slice (some ⟨w.heap.size, 0, none⟩) (l.length + m.length) (grownCap w (l.length + m.length) cap T'))
      (w.drew.alloc (.cells (olds.toArray ++ (news.toArray ++ Builtin.zeroCells (e.val (zeroVals e)).cells (grownCap w (l.length + m.length) cap T' - (l.length + m.length)))) T')) := by
  have hfo := run_firstCells hs (w' := w.drew) rfl
  have hfn := run_firstCells hx (w' := w.drew) rfl
  obtain ⟨ad', cap', hxv, _⟩ := hx
  unfold most at hm
  have hn : ¬ (l.length + m.length ≤ cap) := by omega
  have h63' : ¬ (9223372036854775807 < ((l.length : Int) + (m.length : Int))) := by omega
  have h48' : ¬ (281474976710656 < Builtin.nextslicecap (l.length + m.length) cap * i.bytes) := by
    have := growslice_fits (need := l.length + m.length) (old := cap) (bytes := i.bytes) (by omega) (by
      have : (l.length + m.length) * i.bytes ≤ 4294967296 * 32768 := Nat.mul_le_mul hm hi3
      omega)
    omega
  subst hsv
  subst hxv
  simp [Builtin.append_, run_underlying hu, sizeOf, typeInfo, zeroValue, hi1, hi2, hi4, Builtin.lenOf, hn, h63', h48', Question.forced, hfo, hfn, newRow, grownCap]


theorem chunk_append_left {l m : List Value} {o n : Nat} (h : o + n ≤ l.length) : chunk (l ++ m) o n = chunk l o n := by
  unfold chunk
  rw [List.drop_append_of_le_length (by omega), List.take_append_of_le_length (by rw [List.length_drop]; omega)]

theorem chunk_append_right {l m : List Value} {o n : Nat} (h : l.length ≤ o) : chunk (l ++ m) o n = chunk m (o - l.length) n := by
  unfold chunk
  rw [List.drop_append, List.drop_of_length_le h, List.nil_append]

theorem RowRep.append {ok : Nat → Prop} {e : Ty} {l m : List e.den} {vs us : List Value} (h : RowRep P w ok e l vs) (h' : RowRep P w ok e m us) : RowRep P w ok e (l ++ m) (vs ++ us) := by
  refine ⟨by rw [List.length_append, List.length_append, h.1, h'.1, Nat.add_mul], ?_, fun i x hi => ?_⟩
  · intro v hv
    rcases List.mem_append.1 hv with hv | hv
    · exact h.2.1 v hv
    · exact h'.2.1 v hv
  · rw [List.getElem?_append] at hi
    split at hi
    · rename_i hlt
      rw [chunk_append_left]
      · exact h.2.2 i x hi
      · rw [h.1, ← Nat.succ_mul]; exact Nat.mul_le_mul_right _ hlt
    · rename_i hge
      have hge' : l.length ≤ i := by omega
      rw [chunk_append_right (by rw [h.1]; exact Nat.mul_le_mul_right _ hge'), h.1, ← Nat.sub_mul]
      exact h'.2.2 _ x hi

/-- The row of a buffer, and what stands behind it. -/
theorem RowRep.chunks {ok : Nat → Prop} {e : Ty} {l : List e.den} {vs us : List Value} (h : RowRep P w ok e l vs) : ∀ i x, l[i]? = some x → Rep P e w ok (chunk (vs ++ us) (i * e.sz) e.sz) x := by
  intro i x hi
  have hlt := (List.getElem?_eq_some_iff.1 hi).1
  rw [chunk_append_left]
  · exact h.2.2 i x hi
  · rw [h.1, ← Nat.succ_mul]; exact Nat.mul_le_mul_right _ hlt

theorem drew_heap : (w.drew).heap = w.heap := rfl

theorem keeps_grown (o : Obj) : Keeps w (w.drew.alloc o) := (Keeps.drew w).trans (Keeps.alloc _ o)

/-- A buffer in place of an older one. -/
theorem append_done (h : Mod P w0 conc st a w) {id cv d : Nat} {e : Ty} {l' : List e.den} {c c' : Value} {st' : ASt} {w' : World} (hc : conc id = some (cv, c, true))
    (hap : applyU st none ⟨some (d, ⟨[], true, .v (.hand id (cv + 1))⟩), [(id, (cv + 1, .buf e l'))]⟩ = some st')
    (hos : w'.os = w.os) (htape : w'.tape = w.tape) (hout : w'.output = w.output) (hsize : w.heap.size ≤ w'.heap.size)
    (hblocks : ∀ b, b < w.heap.size → blockOf c ≠ some b → w'.heap[b]? = w.heap[b]?)
    (hnew : ∀ b, blockOf c' = some b → (w.heap.size ≤ b ∨ blockOf c = some b) ∧ b < w'.heap.size) (hone : one c' = true)
    (hO : ∀ conc', Ext (okOf conc) w w' → Sub w (okOf conc) (okOf conc') → ORel P w' conc' (okOf conc') c' true (.buf e l')) : Models P w0 st' (a.put (some d) c') w' := by
  obtain ⟨conc2, k1, k2, _⟩ := h.obj (id := id) (ver := cv + 1) (c := c') (o := .buf e l') (w' := w') (fun cv' c0 ow hc' => by rw [hc] at hc'; cases hc'; exact .inl (Nat.lt_succ_self _)) hos htape hout hsize
    (fun b hb hne => hblocks b hb fun e => hne cv c hc e) (fun b hb => ⟨(hnew b hb).1.imp_right fun q => ⟨cv, c, hc, q⟩, (hnew b hb).2⟩) (fun conc' _ _ g2 g3 _ => hO conc' g2 g3)
  exact slot_done (W0 := [(id, (cv + 1, .buf e l'))]) (d := some d) (s := .v (.hand id (cv + 1))) k1 hap ⟨cv + 1, c', true, k2, Nat.le_refl _, hone, fun _ => rfl⟩

end Go.Abs
