/- Operations that change objects: append and store, as the evaluator has them. -/
import Derived.Test.YtbcbiemjokpghaaNAbsN
set_option linter.unusedSimpArgs false
set_option linter.unusedVariables false
namespace Go.Abs
open Go
variable {P : Program} {E : Env} {w0 : Start} {w : World} {conc : Conc} {st : ASt} {a : Act}

theorem run_append_room {T T' ty : Nat} {e : Ty} {i : TypeInfo} (hu : P.underlying T = some (.slice T')) (hi1 : P.info? T' = some i) (hi2 : i.size = e.sz)
    {m : List e.den} {n cap b U : Nat} {cs : Array Value} {x : Value} {news : List Value} {ok' : Nat → Prop} (hb : w.heap[b]? = some (.cells cs U (0, 0))) (hx : Reads P w ok' e m x news)
    {off : Nat} (hg : n + m.length ≤ cap) (hs : off + cap * e.sz ≤ cs.size) :
    (Builtin.append_ #[T, T] ty #[.slice (some ⟨b, off, none⟩) n cap, x]).run P w = .ok (.slice (some ⟨b, off, none⟩) (n + m.length) cap)
      (w.setRow b (cs.toList.take (off + n * e.sz) ++ news ++ cs.toList.drop (off + n * e.sz + news.length)).toArray) := by
  have hfn := run_firstCells hx (w' := w) rfl
  obtain ⟨ad', cap', hxv, hrow, _⟩ := hx
  have hst := run_storeCells_at P b (off + n * e.sz) U news 0 cs w hb (by
    rw [Nat.add_zero, hrow.1, Nat.add_assoc, ← Nat.add_mul]; exact Nat.le_trans (Nat.add_le_add_left (Nat.mul_le_mul_right _ hg) _) hs) (fun v hv => one_oneCell (hrow.2.1 v hv))
  simp only [Nat.add_zero] at hst
  subst hxv
  simp [Builtin.append_, run_underlying hu, sizeOf, typeInfo, hi1, hi2, Builtin.lenOf, hg, hfn, addr_add, hst]

theorem run_append_empty {T T' ty : Nat} {e : Ty} {i : TypeInfo} (hu : P.underlying T = some (.slice T')) (hi1 : P.info? T' = some i) (hi2 : i.size = e.sz)
    {m : List e.den} {x : Value} {news : List Value} {ok' : Nat → Prop} (hx : Reads P w ok' e m x news) (hm : m = []) :
    (Builtin.append_ #[T, T] ty #[.slice none 0 0, x]).run P w = .ok (.slice none 0 0) w := by
  have hfn := run_firstCells hx (w' := w) rfl
  obtain ⟨ad', cap', hxv, hrow, _⟩ := hx
  subst hm
  subst hxv
  simp only [List.length_nil] at hfn ⊢
  simp [Builtin.append_, run_underlying hu, sizeOf, typeInfo, hi1, hi2, Builtin.lenOf, hfn]

/-- A row of zeros has a size. -/
theorem zeroCells_size {e : Ty} (hpos : 0 < e.sz) (n : Nat) : (Builtin.zeroCells (e.val (zeroVals e)).cells n).size = n * (e.val (zeroVals e)).cells.size := size_zeroCells _ _

theorem val_size (t : Ty) (hp : 0 < t.sz) : (t.val (zeroVals t)).cells.size = t.sz := by
  by_cases h : t.isPair = true
  · have : (t.val (zeroVals t)).cells = (zeroVals t).toArray := by simp [Ty.val, h, Value.cells]
    rw [this]; simpa using zero_len t
  · cases t <;> first | rfl | exact absurd rfl h | cases hp

theorem append_hand_ok (hE : EnvOK P E) (h : Mod P w0 conc st a w) {o : Oper} {T d id cv : Nat} {e : Ty} {s x : Operand} {l : List e.den} {b : AVal} {m : List e.den × W}
    (hop : o.op = .call { callee := .builtin .append, args := #[s, x], argTypes := #[T, T] }) (hd : o.dst = some d) (hT : E.ty T = some (.slice e)) (hs : (rdA [] s).run st = some (.hand id cv))
    (ho : Map.get st.heap id = some (cv, .buf e l)) (hb : (rdA [] x).run st = some b) (hm : (peekA E (.slice e) b).run st = some m) (hlen : l.length + List.length (α := e.den) m.1 ≤ most) {st' : ASt}
    (hap : applyU st none ⟨some (d, ⟨[], true, .v (.hand id (cv + 1))⟩), [(id, (cv + 1, .buf e (l ++ m.1)))]⟩ = some st') : OpOK P w0 o a w st' := by
  obtain ⟨T', hu, i, hi1, hi2, hi3, hi4, hpos⟩ := elem_of hE hT
  obtain ⟨c, ow, g1, g2⟩ := obj_rel h ho
  obtain ⟨cv', c', ow', k1, _, _, k3⟩ := rdA_rel h (labs_nil _) hs
  rw [g1] at k1; cases k1
  have hsv := k3 rfl
  subst hsv
  obtain ⟨news, hx⟩ := elems_spec hE h hpos hm (rdA_rel h (labs_nil _) hb)
  have hnr := hx
  obtain ⟨_, _, _, hrow, _⟩ := hnr
  have exec : ∀ v w', (Builtin.append_ #[T, T] o.type #[a.eval s, a.eval x]).run P w = .ok v w' → (execOp a.eval o).run P w = .ok (.value v) w' := by
    intro v w' hr
    simp only [execOp, hop, resolve, invoke, builtin, pure_bind, List.map_toArray, List.map_cons, List.map_nil]
    rw [Sem.run_bind, hr]; rfl
  obtain ⟨how, g2⟩ := g2
  subst how
  have grown : ∀ {ad : Option Addr} {cap : Nat} {olds : List Value}, a.eval s = .slice ad l.length cap → Reads P w (okOf conc) e l (a.eval s) olds → cap < l.length + List.length m.1 →
      (∀ bl, ad.map (·.block) = some bl → True) → (blockOf (a.eval s) = ad.map (·.block)) → OpOK P w0 o a w st' := by
    intro ad cap olds hv hr hg _ hbl
    have hrun := run_append_grown (ty := o.type) hu hi1 hi2 hi3 hi4 hr hx hv hg hlen
    have hge := grownCap_ge w (l.length + List.length m.1) cap T'
    have hle := grownCap_le_maxLen w (l.length + List.length m.1) cap T' (by unfold maxLen; unfold most at hlen; omega)
    refine OpOK.value (exec _ _ hrun) ?_
    rw [hd]
    obtain ⟨_, _, _, hrow0, _⟩ := hr
    have hrows := hrow0.append hrow
    refine append_done h (c := a.eval s) g1 hap rfl rfl rfl (keeps_grown _).size (fun bb hb1 _ => (keeps_grown _).block bb hb1) (fun bb hb1 => ?_) rfl (fun conc' q1 q2 => ?_)
    · cases hb1
      refine ⟨.inl (Nat.le_refl _), ?_⟩
      simp
    · refine ⟨rfl, .inr ⟨w.heap.size, 0, _, _, T', by rw [List.length_append], heap_alloc_new w.drew _, by rw [List.length_append]; exact hge, hle, ?_, ?_⟩⟩
      · simp only [Array.size_append, List.size_toArray, zeroCells_size hpos, val_size e hpos, hrow0.1, hrow.1]
        rw [← Nat.add_mul, ← Nat.add_mul, Nat.zero_add]
        refine Nat.mul_le_mul_right _ ?_
        omega
      · intro j y hj
        rw [Nat.zero_add]
        have e1 : (olds.toArray ++ (news.toArray ++ Builtin.zeroCells (e.val (zeroVals e)).cells (grownCap w (l.length + List.length m.1) cap T' - (l.length + List.length m.1)))).toList =
            (olds ++ news) ++ (Builtin.zeroCells (e.val (zeroVals e)).cells (grownCap w (l.length + List.length m.1) cap T' - (l.length + List.length m.1))).toList := by simp [List.append_assoc]
        rw [e1]
        refine (hrows.chunks j y hj).mono e (Keeps.ext (keeps_grown _) _) ?_
        exact q2
  rcases g2 with ⟨f1, f2⟩ | ⟨bl, off, cap, cs, U, f1, f2, f3, f4, f5, f6⟩
  · subst f2
    by_cases hm0 : m.1 = []
    · have hrun := run_append_empty (ty := o.type) hu hi1 hi2 hx hm0
      rw [← f1] at hrun
      refine OpOK.value (exec _ _ hrun) ?_
      rw [hd]
      refine append_done h (c := a.eval s) g1 hap rfl rfl rfl (Nat.le_refl _) (fun _ _ _ => rfl) (fun bb hb1 => ?_) (by rw [f1]; rfl) (fun conc' q1 q2 => ⟨rfl, .inl ⟨f1, by rw [hm0]; rfl⟩⟩)
      rw [f1] at hb1; cases hb1
    · refine grown (olds := []) f1 ⟨none, 0, f1, ⟨by simp, by simp, by simp⟩, .inl ⟨rfl, rfl⟩⟩ ?_ (fun _ _ => trivial) (by rw [f1]; rfl)
      have := List.length_pos_iff.2 hm0
      simpa using this
  · by_cases hroom : l.length + List.length m.1 ≤ cap
    · have hrun := run_append_room (ty := o.type) (n := l.length) hu hi1 hi2 f2 hx hroom f5
      rw [← f1] at hrun
      have hbase := h.base id cv (a.eval s) bl g1 (by rw [f1]; rfl)
      have hle : off + l.length * e.sz + news.length ≤ cs.toList.length := by
        have hcl : off + cap * e.sz ≤ cs.toList.length := by simpa using f5
        refine Nat.le_trans ?_ hcl
        rw [hrow.1, Nat.add_assoc, ← Nat.add_mul]; exact Nat.add_le_add_left (Nat.mul_le_mul_right _ hroom) _
      refine OpOK.value (exec _ _ hrun) ?_
      rw [hd]
      refine append_done h (c := a.eval s) g1 hap rfl rfl rfl (by simp) (fun bb hb1 hne => setRow_other w bl bb _ (fun q => hne (by rw [f1, q]; rfl))) (fun bb hb1 => ?_) rfl (fun conc' q1 q2 => ?_)
      · cases hb1
        exact ⟨.inr (by rw [f1]; rfl), by simpa using hbase.2⟩
      · refine ⟨rfl, .inr ⟨bl, off, cap, _, U, by rw [List.length_append], setRow_heap w bl cs _ U (0, 0) f2, by rw [List.length_append]; exact hroom, f4, ?_, ?_⟩⟩
        · simp only [List.size_toArray, List.length_append, List.length_take, List.length_drop]
          have hcl : off + cap * e.sz ≤ cs.toList.length := by simpa using f5
          omega
        · intro j y hj
          have h0 : RowRep P w (okOf conc) e l (chunk cs.toList off (l.length * e.sz)) := rows_of hpos (by omega) (fun i x hi => f6 i x hi)
          have e1 : cs.toList.take (off + l.length * e.sz) = cs.toList.take off ++ chunk cs.toList off (l.length * e.sz) := by unfold chunk; rw [List.take_add]
          have := (h0.append hrow).chunks (us := cs.toList.drop (off + l.length * e.sz + news.length)) j y hj
          have hto : (cs.toList.take off).length = off := by rw [List.length_take]; omega
          have e2 : chunk (cs.toList.take (off + l.length * e.sz) ++ news ++ cs.toList.drop (off + l.length * e.sz + news.length)) (off + j * e.sz) e.sz =
              chunk (chunk cs.toList off (l.length * e.sz) ++ news ++ cs.toList.drop (off + l.length * e.sz + news.length)) (j * e.sz) e.sz := by
            rw [e1, List.append_assoc, List.append_assoc, chunk_append_right (by rw [hto]; omega), hto, Nat.add_sub_cancel_left, ← List.append_assoc]
          rw [← e2] at this
          exact this.mono e q1 q2
    · have hs' : off + l.length * e.sz ≤ cs.toList.length := by
        have hcl : off + cap * e.sz ≤ cs.toList.length := by simpa using f5
        exact Nat.le_trans (Nat.add_le_add_left (Nat.mul_le_mul_right _ f3) _) hcl
      refine grown f1 ⟨_, cap, f1, rows_of hpos hs' (fun i x hi => f6 i x hi), .inr ⟨bl, off, cs, U, _, rfl, f2, by simpa using hs', rfl⟩⟩ (by omega) (fun _ _ => trivial) (by rw [f1]; rfl)

end Go.Abs
