/- Operations that give a value: addresses, loads, slices. -/
import Derived.Test.YtbcbiemjokpghaaNAbsF
set_option linter.unusedSimpArgs false
set_option linter.unusedVariables false
namespace Go.Abs
open Go
variable {P : Program} {E : Env} {w0 : Start} {w : World} {conc : Conc} {st : ASt} {a : Act}

theorem ty_some {T : Nat} {t : Ty} (h : E.ty T = some t) : ∃ te, Map.get E.G T = some te ∧ te.ty = t := by
  unfold Env.ty at h
  cases hg : Map.get E.G T with
  | none => rw [hg] at h; cases h
  | some te => rw [hg] at h; exact ⟨te, rfl, by simpa using h⟩

theorem EnvOK.tyOK (hE : EnvOK P E) {T : Nat} {t : Ty} (h : E.ty T = some t) : ∃ te, te.ty = t ∧ TyOK P T te := by
  obtain ⟨te, h1, h2⟩ := ty_some h
  exact ⟨te, h2, hE.ty T te h1⟩

theorem ofCells_spec {t : Ty} {l : List AVal} {vs : List Value} {s : SVal} {ok : Nat → Prop} (hr : (ofCells t l).run st = some s) (hv : All2 (VRel P w conc ok) l vs) (h1 : ∀ u ∈ vs, one u = true) :
    vs.length = t.sz ∨ t.isPair = false → SRel P w conc ok s (t.val vs) := by
  intro _
  unfold ofCells at hr
  split at hr
  · rename_i c hp
    cases hr
    match vs, hv with
    | [v], ⟨h, _⟩ => simpa [Ty.val, hp, SRel] using h
  · rename_i l' hp
    obtain ⟨_, h2⟩ := cond_some hr
    cases h2
    exact ⟨vs, by simp [Ty.val, hp], h1, hv⟩
  · cases hr

theorem geti_some {α : Type} {l : List α} {i : Int} {x : α} (h : geti l i = some x) : 0 ≤ i ∧ i.toNat < l.length ∧ l[i.toNat]? = some x := by
  unfold geti at h
  split at h
  · rename_i hi
    exact ⟨hi, (List.getElem?_eq_some_iff.1 h).1, h⟩
  · cases h

theorem rep_rel {t : Ty} {d : t.den} {ok : Nat → Prop} {vs : List Value} (h : Rep P t w ok vs d) : SRel P w conc ok (.v (.pure t d)) (t.val vs) := ⟨vs, rfl, h⟩

theorem chunk_chunk {l : List Value} {a n b m : Nat} (h : b + m ≤ n) : chunk (chunk l a n) b m = chunk l (a + b) m := by
  unfold chunk
  rw [List.drop_take, List.take_take, List.drop_drop]
  congr 1
  omega

theorem chunk_take_drop {l : List Value} {off n : Nat} : chunk l off n = (l.drop off).take n := rfl

theorem loadAt_sound (hE : EnvOK P E) (h : Mod P w0 conc st a w) {T : Nat} {t : Ty} (hT : E.ty T = some t) {b : AVal} {v : Value} {s : SVal}
    (hr : (loadOp true t b).run st = some s) (hv : VRel P w conc (okOf conc) b v) : ∃ u, (Instr.loadAt T v).run P w = .ok u w ∧ SRel P w conc (okOf conc) s u := by
  obtain ⟨te, hte, hok⟩ := hE.tyOK hT
  obtain ⟨ty, nf⟩ := te
  dsimp only at hte
  subst hte
  have hpos : 0 < ty.sz := hok.pos
  have key : ∀ {bl off : Nat} {cs : Array Value} {U : Nat} {fr : Nat × Nat}, w.heap[bl]? = some (.cells cs U fr) → off + ty.sz ≤ cs.size →
      (Instr.loadAt T (.pointer (some ⟨bl, off, none⟩))).run P w = .ok (ty.val (chunk cs.toList off ty.sz)) w := by
    intro bl off cs U fr h1 h3
    simp only [Instr.loadAt, Instr.sureAddr, pure_bind]
    exact run_loadVar hok hok.nounit h1 h3
  have cellsKey : ∀ {l : List AVal} {vs : List Value} {off : Nat}, (ofCells ty ((l.drop off).take ty.sz)).run st = some s → All2 (VRel P w conc (okOf conc)) l vs →
      (∀ u ∈ vs, one u = true) → off + ty.sz ≤ vs.length ∧ SRel P w conc (okOf conc) s (ty.val (chunk vs off ty.sz)) := by
    intro l vs off h1 h2 h3
    have h4 : All2 (VRel P w conc (okOf conc)) ((l.drop off).take ty.sz) (chunk vs off ty.sz) := (h2.drop off).take ty.sz
    have h5 : ∀ u ∈ chunk vs off ty.sz, one u = true := fun u hu => h3 u (List.mem_of_mem_drop (List.mem_of_mem_take hu))
    have hl := h2.length
    refine ⟨?_, ?_⟩
    · unfold ofCells at h1
      split at h1
      · rename_i c hp heq
        have hs := sz_one hp hok.nounit
        have : ((l.drop off).take ty.sz).length = 1 := by rw [heq]; rfl
        rw [List.length_take, List.length_drop] at this
        omega
      · obtain ⟨h6, _⟩ := cond_some h1
        have := nbeq_true h6
        rw [List.length_take, List.length_drop] at this
        have := hpos
        omega
      · cases h1
    · exact ofCells_spec h1 h4 h5 (.inl (chunk_length (by
        unfold ofCells at h1
        split at h1
        · rename_i c hp heq
          have hs := sz_one hp hok.nounit
          have : ((l.drop off).take ty.sz).length = 1 := by rw [heq]; rfl
          rw [List.length_take, List.length_drop] at this
          omega
        · obtain ⟨h6, _⟩ := cond_some h1
          have := nbeq_true h6
          rw [List.length_take, List.length_drop] at this
          have := hpos
          omega
        · cases h1)))
  cases b with
  | bptr id ver off =>
    simp only [loadOp, RM.run] at hr
    split at hr
    · rename_i cv u cells ho
      obtain ⟨h1, h2⟩ := cond_some hr
      have := nbeq_true h1
      subst this
      obtain ⟨c, ow, g1, g2⟩ := obj_rel h ho
      obtain ⟨cv', c', ow', k1, k2, _, k3⟩ := hv
      rw [g1] at k1; cases k1
      obtain ⟨bl, e1, e2⟩ := k3 rfl
      obtain ⟨_, bl', cs, U, f1, f2, f3, f4, f5⟩ := g2
      rw [e1] at f1; cases f1
      obtain ⟨q1, q2⟩ := cellsKey h2 f5 f4
      rw [e2]
      exact ⟨_, key f2 (by simpa using q1), q2⟩
    · rename_i cv u d ho
      obtain ⟨h1, h2⟩ := cond_some hr
      have := nbeq_true h1
      subst this
      obtain ⟨c, ow, g1, g2⟩ := obj_rel h ho
      obtain ⟨cv', c', ow', k1, k2, _, k3⟩ := hv
      rw [g1] at k1; cases k1
      obtain ⟨bl, e1, e2⟩ := k3 rfl
      obtain ⟨_, bl', cs, U, fr, f1, f2, f3, f4, f5⟩ := g2
      rw [e1] at f1; cases f1
      rw [e2]
      split at h2
      · rename_i hh
        obtain ⟨hh1, rfl⟩ := hh
        cases h2
        subst hh1
        exact ⟨_, key f3 (by simpa using f4), rep_rel f5⟩
      · obtain ⟨q1, q2⟩ := cellsKey h2 (explode_rel u f5) f5.ones
        have hlen : (chunk cs.toList 0 u.sz).length = u.sz := chunk_length (by simpa using f4)
        rw [hlen] at q1
        rw [chunk_chunk q1, Nat.zero_add] at q2
        exact ⟨_, key f3 (by omega), q2⟩
    · cases hr
  | pptr u d =>
    simp only [loadOp] at hr
    obtain ⟨hh, h2⟩ := ite_some hr
    cases h2
    subst hh
    obtain ⟨bl, off, cs, U, fr, e1, e2, e3, e4, e5⟩ := hv
    rw [e1]
    exact ⟨_, key e3 e4, rep_rel e5⟩
  | eptr id ver u i =>
    simp only [loadOp, RM.run] at hr
    split at hr
    · rename_i cv e l ho
      obtain ⟨h1, h2⟩ := cond_some hr
      have := nbeq_true h1
      subst this
      obtain ⟨⟨hh, hh2⟩, h3⟩ := ite_some h2
      subst hh2
      obtain ⟨x, h4, h5⟩ := RM.opt_some h3
      cases h5
      rw [part_true] at h4
      obtain ⟨i1, i2, i3⟩ := geti_some h4
      obtain ⟨c, ow, g1, g2⟩ := obj_rel h ho
      obtain ⟨cv', c', ow', k1, k2, _, k3⟩ := hv
      rw [g1] at k1; cases k1
      obtain ⟨bl, off, n, cap, e1, e2, e3⟩ := k3 rfl
      obtain ⟨_, ⟨f1, _⟩ | ⟨bl', off', cap', cs, U, f1, f2, f3, f4, f5, f6⟩⟩ := g2
      · rw [f1] at e1; cases e1
      · rw [e1] at f1; cases f1
        rw [e3]
        subst hh
        refine ⟨_, key f2 ?_, rep_rel (f6 i.toNat x i3)⟩
        refine Nat.le_trans ?_ f5
        rw [Nat.add_assoc, ← Nat.succ_mul]
        exact Nat.add_le_add_left (Nat.mul_le_mul_right _ (by omega)) _
    · rename_i cv e l ho
      obtain ⟨h1, h2⟩ := cond_some hr
      have := nbeq_true h1
      subst this
      obtain ⟨⟨hh, hh2⟩, h3⟩ := ite_some h2
      subst hh2
      obtain ⟨x, h4, h5⟩ := RM.opt_some h3
      cases h5
      rw [part_true] at h4
      obtain ⟨i1, i2, i3⟩ := geti_some h4
      obtain ⟨c, ow, g1, g2⟩ := obj_rel h ho
      obtain ⟨cv', c', ow', k1, k2, _, k3⟩ := hv
      rw [g1] at k1; cases k1
      obtain ⟨bl, off, n, cap, e1, e2, e3⟩ := k3 rfl
      obtain ⟨_, ad, cap', f1, f2, f3⟩ := g2
      rcases f3 with f3 | ⟨bl', off, cs, U, fr, f3, f4, f5, f6, f7⟩
      · rw [f3] at i2; simp at i2
      · rw [e1, f3] at f1
        cases f1
        rw [e3]
        subst hh
        have := f7 i.toNat x i3
        refine ⟨_, key f5 ?_, rep_rel this⟩
        refine Nat.le_trans ?_ f6
        rw [Nat.add_assoc, ← Nat.succ_mul]
        exact Nat.add_le_add_left (Nat.mul_le_mul_right _ (by omega)) _
    · cases hr
  | _ => cases hr


theorem offOf_le : (n i : Nat) → (t : Ty) → {o : Nat} → offOf n i t = some o → o ≤ t.sz
  | 1, 0, _, o, h => by simp [offOf] at h; omega
  | n + 2, 0, t, o, h => by cases t <;> simp [offOf] at h; omega
  | n + 2, i + 1, t, o, h => by
    cases t <;> simp only [offOf] at h <;> first | (cases h; done) | skip
    rename_i a b
    cases hb : offOf (n + 1) i b with
    | none => rw [hb] at h; cases h
    | some o' =>
      rw [hb] at h; cases h
      have := offOf_le (n + 1) i b hb
      simp only [Ty.sz]; omega
  | 0, i, t, o, h => by cases t <;> simp [offOf] at h
  | 1, i + 1, t, o, h => by cases t <;> simp [offOf] at h

/-- A field of data, and where it lies. -/
theorem proj_rep {ok : Nat → Prop} : (n i : Nat) → (t : Ty) → {d : t.den} → {u : Ty} → {x : u.den} → {vs : List Value} → proj n i t d = some ⟨u, x⟩ → Rep P t w ok vs d →
    ∃ o, offOf n i t = some o ∧ o + u.sz ≤ t.sz ∧ Rep P u w ok (chunk vs o u.sz) x
  | 1, 0, t, d, u, x, vs, h, hr => by
    simp only [proj, Option.some.injEq, Sigma.mk.injEq] at h
    obtain ⟨rfl, h⟩ := h
    cases h
    refine ⟨0, rfl, by omega, ?_⟩
    have := hr.len
    unfold chunk
    rw [List.drop_zero, List.take_of_length_le (by omega)]; exact hr
  | n + 2, 0, t, d, u, x, vs, h, hr => by
    cases t <;> simp only [proj] at h <;> first | (cases h; done) | skip
    rename_i a b
    simp only [Option.some.injEq, Sigma.mk.injEq] at h
    obtain ⟨rfl, h⟩ := h
    cases h
    refine ⟨0, rfl, by simp [Ty.sz], ?_⟩
    exact hr.1
  | n + 2, i + 1, t, d, u, x, vs, h, hr => by
    cases t <;> simp only [proj] at h <;> first | (cases h; done) | skip
    rename_i a b
    obtain ⟨o, h1, h2, h3⟩ := proj_rep (n + 1) i b h hr.2
    refine ⟨a.sz + o, by simp [offOf, h1], by simp only [Ty.sz]; omega, ?_⟩
    unfold chunk at h3 ⊢
    rwa [List.drop_drop] at h3
  | 0, i, t, d, u, x, vs, h, hr => by cases t <;> simp [proj] at h
  | 1, i + 1, t, d, u, x, vs, h, hr => by cases t <;> simp [proj] at h

theorem run_fieldAt {T : Nat} {te : TyE} (h : TyOK P T te) {i o : Nat} (ho : offOf te.nf i te.ty = some o) (hp : te.ty.isPair = true) {b off : Nat} :
    (Instr.fieldAt T (.pointer (some ⟨b, off, none⟩)) i).run P w = .ok (.pointer (some ⟨b, off + o, none⟩)) w := by
  have hd := h.desc
  cases ht : te.ty <;> rw [ht] at hp hd <;> first | (cases hp; done) | skip
  dsimp only at hd
  obtain ⟨fs, hu, hs⟩ := hd
  have hlt : i < fs.size := by
    rw [hs]
    have : ∀ n i t o, offOf n i t = some o → i < n := by
      intro n
      induction n with
      | zero => intro i t o h; cases t <;> simp [offOf] at h
      | succ n ih =>
        intro i t o h
        cases n with
        | zero => cases i with
          | zero => omega
          | succ i => cases t <;> simp [offOf] at h
        | succ n =>
          cases i with
          | zero => omega
          | succ i =>
            cases t <;> simp only [offOf] at h <;> first | (cases h; done) | skip
            rename_i a b
            cases hb : offOf (n + 1) i b with
            | none => rw [hb] at h; cases h
            | some o' => have := ih i b o' hb; omega
    exact this _ _ _ _ ho
  obtain ⟨g1, inf, g2, g3⟩ := (h.fields fs hu).1 i fs[i] (Array.getElem?_eq_getElem hlt)
  rw [ho] at g1
  have g1' : fs[i].offset = o := by simpa using g1.symm
  simp [Instr.fieldAt, run_underlying hu, Array.getElem?_eq_getElem hlt, Instr.sureAddr, fieldPlace, sizeOf, typeInfo, g2, g3, addr_add, g1']

theorem fieldAddrOp_sound {T : Nat} {te : TyE} (h : TyOK P T te) (hp : te.ty.isPair = true) {i : Nat} {b : AVal} {v : Value} {s : SVal}
    (hr : (fieldAddrOp te i b).run st = some s) (hv : VRel P w conc (okOf conc) b v) (hM : Mod P w0 conc st a w) : ∃ u, (Instr.fieldAt T v i).run P w = .ok u w ∧ SRel P w conc (okOf conc) s u := by
  cases b with
  | bptr id ver off =>
    simp only [fieldAddrOp, RM.run] at hr
    split at hr
    · rename_i cv o ho
      obtain ⟨h1, h2⟩ := cond_some hr
      have := nbeq_true h1
      subst this
      cases hof : offOf te.nf i te.ty with
      | none => rw [hof] at h2; cases h2
      | some f =>
        rw [hof] at h2; cases h2
        obtain ⟨c, ow, g1, _⟩ := obj_rel hM ho
        obtain ⟨cv', c', ow', k1, k2, k3, k4⟩ := hv
        rw [g1] at k1
        cases k1
        obtain ⟨bl, e1, e2⟩ := k4 rfl
        rw [e2]
        exact ⟨_, run_fieldAt h hof hp, _, _, _, g1, Nat.le_refl _, rfl, fun _ => ⟨bl, e1, rfl⟩⟩
    · cases hr
  | pptr t d =>
    simp only [fieldAddrOp] at hr
    obtain ⟨hh, h2⟩ := ite_some hr
    cases hpj : proj te.nf i t d with
    | none => rw [hpj] at h2; cases h2
    | some q =>
      obtain ⟨u, x⟩ := q
      rw [hpj] at h2; cases h2
      obtain ⟨bl, off, cs, U, fr, e1, e2, e3, e4, e5⟩ := hv
      obtain ⟨o, f1, f2, f3⟩ := proj_rep te.nf i t hpj e5
      rw [← hh] at f1
      rw [e1]
      refine ⟨_, run_fieldAt h f1 hp, bl, off + o, cs, U, fr, rfl, e2, e3, by omega, ?_⟩
      rwa [chunk_chunk f2] at f3
  | _ => cases hr


theorem run_indexAt {T : Nat} {e : Ty} (h : ∃ T', P.underlying T = some (.slice T') ∧ ∃ i, P.info? T' = some i ∧ i.size = e.sz) {b off len cap : Nat} {k : IntKind} {n : Int}
    (h0 : 0 ≤ n) (hn : n.toNat < len) : (Instr.indexAt T (.slice (some ⟨b, off, none⟩) len cap) (.int k n)).run P w = .ok (.pointer (some ⟨b, off + n.toNat * e.sz, none⟩)) w := by
  obtain ⟨T', hu, i, hi, hs⟩ := h
  have : n < (len : Int) := by omega
  simp [Instr.indexAt, asIntOf, run_underlying hu, h0, this, sizeOf, typeInfo, hi, hs, addr_add]

theorem slice_desc (hE : EnvOK P E) {T : Nat} {e : Ty} (hT : E.ty T = some (.slice e)) : ∃ T', P.underlying T = some (.slice T') ∧ ∃ i, P.info? T' = some i ∧ i.size = e.sz := by
  obtain ⟨te, hte, hok⟩ := hE.tyOK hT
  have := hok.desc
  rw [hte] at this
  obtain ⟨T', h1, i, h2, h3, _⟩ := this
  exact ⟨T', h1, i, h2, h3⟩

theorem indexAddrOp_sound (hE : EnvOK P E) (h : Mod P w0 conc st a w) {T : Nat} {e : Ty} (hT : E.ty T = some (.slice e)) {k : IntKind} {n : Int} {b : AVal} {v : Value} {s : SVal}
    (hr : (indexAddrOp true e n b).run st = some s) (hv : VRel P w conc (okOf conc) b v) : ∃ u, (Instr.indexAt T v (.int k n)).run P w = .ok u w ∧ SRel P w conc (okOf conc) s u := by
  have hd := slice_desc hE hT
  cases b with
  | pure t l =>
    cases t <;> simp only [indexAddrOp] at hr <;> first | (cases hr; done) | skip
    rename_i u
    obtain ⟨hh, h2⟩ := ite_some hr
    subst hh
    obtain ⟨x, h4, h5⟩ := RM.opt_some h2
    cases h5
    rw [part_true] at h4
    obtain ⟨i1, i2, i3⟩ := geti_some h4
    obtain ⟨vs, e1, ad, cap, e2, e3, e4⟩ := hv
    rcases e4 with e4 | ⟨bl, off, cs, U, fr, f1, f2, f3, f4, f5⟩
    · rw [e4] at i2; simp at i2
    · subst f1
      rw [e1, e2]
      refine ⟨_, run_indexAt hd i1 i2, bl, _, cs, U, fr, rfl, f2, f3, ?_, f5 n.toNat x i3⟩
      refine Nat.le_trans ?_ f4
      rw [Nat.add_assoc, ← Nat.succ_mul]
      exact Nat.add_le_add_left (Nat.mul_le_mul_right _ (by omega)) _
  | hand id ver =>
    simp only [indexAddrOp, RM.run] at hr
    split at hr
    · rename_i cv u l ho
      obtain ⟨h1, h2⟩ := cond_some hr
      have := nbeq_true h1
      subst this
      obtain ⟨hh, h3⟩ := ite_some h2
      subst hh
      obtain ⟨x, h4, h5⟩ := RM.opt_some h3
      cases h5
      rw [part_true] at h4
      obtain ⟨i1, i2, i3⟩ := geti_some h4
      obtain ⟨c, ow, g1, g2⟩ := obj_rel h ho
      obtain ⟨cv', c', ow', k1, k2, _, k3⟩ := hv
      rw [g1] at k1; cases k1
      have hvc := k3 rfl
      subst hvc
      obtain ⟨_, ⟨f1, f2⟩ | ⟨bl, off, cap, cs, U, f1, f2, f3, f4, f5, f6⟩⟩ := g2
      · rw [f2] at i2; simp at i2
      · rw [f1]
        refine ⟨_, run_indexAt hd i1 i2, _, _, _, g1, Nat.le_refl _, rfl, fun _ => ⟨bl, off, _, cap, f1, i1, rfl⟩⟩
    · rename_i cv u l ho
      obtain ⟨h1, h2⟩ := cond_some hr
      have := nbeq_true h1
      subst this
      obtain ⟨hh, h3⟩ := ite_some h2
      subst hh
      obtain ⟨x, h4, h5⟩ := RM.opt_some h3
      cases h5
      rw [part_true] at h4
      obtain ⟨i1, i2, i3⟩ := geti_some h4
      obtain ⟨c, ow, g1, g2⟩ := obj_rel h ho
      obtain ⟨cv', c', ow', k1, k2, _, k3⟩ := hv
      rw [g1] at k1; cases k1
      have hvc := k3 rfl
      subst hvc
      obtain ⟨_, ad, cap, e2, e3, e4⟩ := g2
      rcases e4 with e4 | ⟨bl, off, cs, U, fr, f1, f2, f3, f4, f5⟩
      · rw [e4] at i2; simp at i2
      · subst f1
        simp only [List.cons.injEq, and_true] at e2
        rw [e2]
        refine ⟨_, run_indexAt hd i1 i2, bl, _, cs, U, fr, rfl, f2, f3, ?_, f5 n.toNat x i3⟩
        refine Nat.le_trans ?_ f4
        rw [Nat.add_assoc, ← Nat.succ_mul]
        exact Nat.add_le_add_left (Nat.mul_le_mul_right _ (by omega)) _
    · cases hr
  | _ => cases hr

theorem lenOf_sound (h : Mod P w0 conc st a w) {T : Nat} {b : AVal} {v : Value} {n : Nat} (hr : (lenOf b).run st = some n) (hv : VRel P w conc (okOf conc) b v) :
    ∃ ad cap, v = .slice ad n cap := by
  cases b with
  | pure t l =>
    cases t <;> simp only [lenOf] at hr <;> first | (cases hr; done) | skip
    · cases hr
      obtain ⟨vs, e1, ad, cap, e2, e3, e4⟩ := hv
      exact ⟨ad, cap, by rw [e1, e2]; rfl⟩
  | nils => cases hr; exact ⟨none, 0, hv⟩
  | hand id ver =>
    simp only [lenOf, RM.run] at hr
    split at hr
    · rename_i cv u l ho
      obtain ⟨h1, h2⟩ := cond_some hr
      have := nbeq_true h1
      subst this
      cases h2
      obtain ⟨c, ow, g1, g2⟩ := obj_rel h ho
      obtain ⟨cv', c', ow', k1, k2, _, k3⟩ := hv
      rw [g1] at k1; cases k1
      have hvc := k3 rfl
      subst hvc
      obtain ⟨_, ⟨f1, f2⟩ | ⟨bl, off, cap, cs, U, f1, f2, f3, f4, f5, f6⟩⟩ := g2
      · exact ⟨none, 0, by rw [f1, f2]; rfl⟩
      · exact ⟨_, cap, f1⟩
    · rename_i cv u l ho
      obtain ⟨h1, h2⟩ := cond_some hr
      have := nbeq_true h1
      subst this
      cases h2
      obtain ⟨c, ow, g1, g2⟩ := obj_rel h ho
      obtain ⟨cv', c', ow', k1, k2, _, k3⟩ := hv
      rw [g1] at k1; cases k1
      have hvc := k3 rfl
      subst hvc
      obtain ⟨_, ad, cap, e2, e3, e4⟩ := g2
      simp only [List.cons.injEq, and_true] at e2
      exact ⟨ad, cap, e2⟩
    · cases hr
  | _ => cases hr

end Go.Abs
