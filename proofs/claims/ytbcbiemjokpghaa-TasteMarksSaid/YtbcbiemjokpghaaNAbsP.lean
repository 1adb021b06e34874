/- Operations that change objects: append to nil, stores, captured variables, arguments. -/
import Derived.Test.YtbcbiemjokpghaaNAbsO
set_option linter.unusedSimpArgs false
set_option linter.unusedVariables false
namespace Go.Abs
open Go
variable {P : Program} {E : Env} {w0 : Start} {w : World} {conc : Conc} {st : ASt} {a : Act}

theorem append_nils_ok (hE : EnvOK P E) (h : Mod P w0 conc st a w) {o : Oper} {T d : Nat} {e : Ty} {s x : Operand} {b : AVal} {m : List e.den × W}
    (hop : o.op = .call { callee := .builtin .append, args := #[s, x], argTypes := #[T, T] }) (hd : o.dst = some d) (hT : E.ty T = some (.slice e)) (hs : (rdA [] s).run st = some .nils)
    (hb : (rdA [] x).run st = some b) (hm : (peekA E (.slice e) b).run st = some m) (hlen : List.length (α := e.den) m.1 ≤ most) {u : Upd} {st' : ASt}
    (hr : (newObj d (.buf e m.1) (.hand d) []).run st = some u) (hap : applyU st none u = some st') : OpOK P w0 o a w st' := by
  obtain ⟨T', hu, i, hi1, hi2, hi3, hi4, hpos⟩ := elem_of hE hT
  have hsv : a.eval s = .slice none 0 0 := rdA_rel h (labs_nil _) hs
  obtain ⟨news, hx⟩ := elems_spec hE h hpos hm (rdA_rel h (labs_nil _) hb)
  have hnr := hx
  obtain ⟨_, _, _, hrow, _⟩ := hnr
  have exec : ∀ v w', (Builtin.append_ #[T, T] o.type #[a.eval s, a.eval x]).run P w = .ok v w' → (execOp a.eval o).run P w = .ok (.value v) w' := by
    intro v w' hr
    simp only [execOp, hop, resolve, invoke, builtin, pure_bind, List.map_toArray, List.map_cons, List.map_nil]
    rw [Sem.run_bind, hr]; rfl
  by_cases hm0 : m.1 = []
  · have hrun := run_append_empty (ty := o.type) hu hi1 hi2 hx hm0
    rw [← hsv] at hrun
    refine OpOK.value (exec _ _ hrun) ?_
    rw [hd]
    refine new_done h (FrzW.none P conc st w) hr hap (Keeps.refl w) (fun b hb => by rw [hsv] at hb; cases hb) (fun conc' g1 g2 g3 => ⟨rfl, .inl ⟨hsv, hm0⟩⟩)
      (fun conc' ver hc => ⟨ver, _, true, hc, Nat.le_refl _, by rw [hsv]; rfl, fun _ => rfl⟩)
  · have hpm := List.length_pos_iff.2 hm0
    have hr0 : Reads P w (okOf conc) e [] (a.eval s) [] := ⟨none, 0, hsv, ⟨by simp, by simp, by simp⟩, .inl ⟨rfl, rfl⟩⟩
    have hrun := run_append_grown (ty := o.type) hu hi1 hi2 hi3 hi4 hr0 hx (ad := none) (cap := 0) hsv (by simpa using hpm) (by simpa using hlen)
    simp only [List.length_nil, Nat.zero_add] at hrun
    have hge := grownCap_ge w (List.length m.1) 0 T'
    have hle := grownCap_le_maxLen w (List.length m.1) 0 T' (by unfold maxLen; unfold most at hlen; omega)
    refine OpOK.value (exec _ _ hrun) ?_
    rw [hd]
    refine buf_new (U := T') (b := w.heap.size) h (FrzW.none P conc st w) hr hap hge hle ?_ (keeps_grown _) (Nat.le_refl _) (heap_alloc_new w.drew _) ?_
    · simp only [Array.size_append, List.size_toArray, zeroCells_size hpos, val_size e hpos, hrow.1, List.length_nil, Nat.zero_mul, Nat.zero_add]
      rw [← Nat.add_mul]
      congr 1
      omega
    · intro j y hj
      have e1 : ((#[] : Array Value) ++ (news.toArray ++ Builtin.zeroCells (e.val (zeroVals e)).cells (grownCap w (List.length m.1) 0 T' - List.length m.1))).toList =
          news ++ (Builtin.zeroCells (e.val (zeroVals e)).cells (grownCap w (List.length m.1) 0 T' - List.length m.1)).toList := by simp
      rw [e1]
      refine (hrow.chunks j y hj).mono e (Keeps.ext (keeps_grown _) _) ?_
      intro b hb hlt
      exact ⟨.inl (by rw [show ids [] = [] from rfl, frzL_nil]; exact hb), by omega⟩

theorem store_box_ok (hE : EnvOK P E) (h : Mod P w0 conc st a w) {o : Oper} {T id cv off : Nat} {t u : Ty} {ad x : Operand} {cells l : List AVal} {s : SVal} (hop : o.op = .store T ad x) (hd : o.dst = none)
    (hT : E.ty T = some t) (ha : (rdA [] ad).run st = some (.bptr id cv off)) (hx : (rd [] x).run st = some s) (hl : s.cells.run st = some l) (ho : Map.get st.heap id = some (cv, .box u cells))
    (h1 : l.length = t.sz) (h2 : off + t.sz ≤ cells.length) {st' : ASt} (hap : applyU st none ⟨none, [(id, (cv, .box u (splice cells off l)))]⟩ = some st') : OpOK P w0 o a w st' := by
  obtain ⟨te, rfl, hok⟩ := hE.tyOK hT
  obtain ⟨c, ow, g1, g2⟩ := obj_rel h ho
  obtain ⟨cv', c', ow', k1, _, _, k3⟩ := rdA_rel h (labs_nil _) ha
  rw [g1] at k1; cases k1
  obtain ⟨b, e1, e2⟩ := k3 rfl
  obtain ⟨rfl, b', cs, U, f1, f2, f3, f4, f5⟩ := g2
  rw [e1] at f1; cases f1
  obtain ⟨vs, q1, q2, q3⟩ := cells_spec hl (rd_rel h (labs_nil _) hx)
  have hlv := q3.length
  have hlc := f5.length
  have hrun := run_store hok (off := off) f2 q1 q2 (by omega) (by rw [← Array.length_toList, ← hlc]; exact h2)
  refine OpOK.skip (w' := w.setRow b (cs.toList.take off ++ vs ++ cs.toList.drop (off + te.ty.sz)).toArray) ?_ ?_
  · simp only [execOp, hop, e2]
    rw [Sem.run_bind, hrun]; rfl
  · rw [hd]
    refine set_done (W0 := []) h (FrzW.none P conc st w) (id := id) (cv := cv) (c := c) (by rw [show ids [] = [] from rfl, frzL_nil]; exact g1) (by rw [e1]; rfl) hap (fun conc' w' r1 r2 r3 r4 => ?_)
    rw [show ids [] = [] from rfl, frzL_nil] at r1 r2 r3
    subst r4
    refine ⟨rfl, b, _, U, e1, setRow_heap w b cs _ U (0, 0) f2, ?_, ?_, ?_⟩
    · unfold splice
      simp only [List.length_append, List.length_take, List.length_drop]
      omega
    · intro v hv
      simp only [List.mem_append] at hv
      rcases hv with (hv | hv) | hv
      · exact f4 v (List.mem_of_mem_take hv)
      · exact q2 v hv
      · exact f4 v (List.mem_of_mem_drop hv)
    · have := (f5.splice off te.ty.sz q3).imp fun x v hx => VRel.mono r2 r3 r1 x hx
      unfold splice
      rw [h1]
      simpa using this

theorem seti_some {α : Type} {l l' : List α} {i : Int} {x : α} (h : seti l i x = some l') : 0 ≤ i ∧ i.toNat < l.length ∧ l' = l.set i.toNat x := by
  unfold seti at h
  split at h
  · rename_i hc; cases h; exact ⟨hc.1, hc.2, rfl⟩
  · cases h

theorem store_elem_ok (hE : EnvOK P E) (h : Mod P w0 conc st a w) {o : Oper} {T id cv : Nat} {e : Ty} {i : Int} {ad x : Operand} {l l' : List e.den} {s : SVal} {d : e.den × W} (hop : o.op = .store T ad x) (hd : o.dst = none)
    (hT : E.ty T = some e) (ha : (rdA [] ad).run st = some (.eptr id cv e i)) (hx : (rd [] x).run st = some s) (hl : (peek E e s).run st = some d) (ho : Map.get st.heap id = some (cv, .buf e l))
    (hn : id ∉ ids d.2) (hset : seti l i d.1 = some l') {st' : ASt} (hap : applyU st none ⟨none, d.2 ++ [(id, (cv, .buf e l'))]⟩ = some st') : OpOK P w0 o a w st' := by
  obtain ⟨te, rfl, hok⟩ := hE.tyOK hT
  obtain ⟨i1, i2, rfl⟩ := seti_some hset
  obtain ⟨c, ow, g1, g2⟩ := obj_rel h ho
  obtain ⟨cv', c', ow', k1, _, _, k3⟩ := rdA_rel h (labs_nil _) ha
  rw [g1] at k1; cases k1
  obtain ⟨b, off, n, cap, e1, _, e2⟩ := k3 rfl
  obtain ⟨rfl, ⟨f1, f2⟩ | ⟨b', off', cap', cs, U, f1, f2, f3, f4, f5, f6⟩⟩ := g2
  · rw [e1] at f1; cases f1
  · rw [e1] at f1; cases f1
    obtain ⟨us, q1, q2⟩ := peek_spec hE h hl (rd_rel h (labs_nil _) hx)
    have hp := q2 (ids d.2) fun _ h => h
    have hle : (off + i.toNat * te.ty.sz) + te.ty.sz ≤ cs.toList.length := by
      have hcl : off + cap * te.ty.sz ≤ cs.toList.length := by simpa using f5
      refine Nat.le_trans ?_ hcl
      rw [Nat.add_assoc, ← Nat.succ_mul]; exact Nat.add_le_add_left (Nat.mul_le_mul_right _ (by omega)) _
    have hcells := val_cells' hok.pos hp.2
    rw [← q1] at hcells
    have hrun := run_store hok (off := off + i.toNat * te.ty.sz) f2 hcells (Rep.ones _ hp.2) hp.2.len (by simpa using hle)
    refine OpOK.skip (w' := w.setRow b (cs.toList.take (off + i.toNat * te.ty.sz) ++ us ++ cs.toList.drop (off + i.toNat * te.ty.sz + te.ty.sz)).toArray) ?_ ?_
    · simp only [execOp, hop, e2]
      rw [Sem.run_bind, hrun]; rfl
    · rw [hd]
      have hfz : frzL conc (ids d.2) id = some (cv, c, true) := by simp [frzL, g1, hn]
      refine set_done (W0 := d.2) h hp.1 (id := id) (cv := cv) (c := c) hfz (by rw [e1]; rfl) hap (fun conc' w' r1 r2 r3 r4 => ?_)
      subst r4
      refine ⟨rfl, .inr ⟨b, off, cap, _, U, by rw [e1, List.length_set], setRow_heap w b cs _ U (0, 0) f2, by rw [List.length_set]; exact f3, f4, ?_, fun j y hj => ?_⟩⟩
      · have hus := hp.2.len
        have hcl : off + cap * te.ty.sz ≤ cs.toList.length := by simpa using f5
        simp only [List.size_toArray, List.length_append, List.length_take, List.length_drop]
        omega
      · by_cases hij : i.toNat = j
        · subst hij
          rw [List.getElem?_set_self i2] at hj
          cases hj
          show Rep P te.ty _ _ (chunk (cs.toList.take (off + i.toNat * te.ty.sz) ++ us ++ cs.toList.drop (off + i.toNat * te.ty.sz + te.ty.sz)) _ _) _
          rw [chunk_splice_same hle hp.2.len]
          exact hp.2.mono te.ty r2 r3
        · rw [List.getElem?_set_ne hij] at hj
          have : chunk (cs.toList.take (off + i.toNat * te.ty.sz) ++ us ++ cs.toList.drop (off + i.toNat * te.ty.sz + te.ty.sz)) (off + j * te.ty.sz) te.ty.sz = chunk cs.toList (off + j * te.ty.sz) te.ty.sz := by
            refine chunk_splice_other hle hp.2.len ?_
            rcases Nat.lt_or_gt_of_ne hij with hlt | hlt
            · right
              rw [Nat.add_assoc, ← Nat.succ_mul]; exact Nat.add_le_add_left (Nat.mul_le_mul_right _ hlt) _
            · left
              rw [Nat.add_assoc, ← Nat.succ_mul]; exact Nat.add_le_add_left (Nat.mul_le_mul_right _ hlt) _
          show Rep P te.ty _ _ (chunk (cs.toList.take (off + i.toNat * te.ty.sz) ++ us ++ cs.toList.drop (off + i.toNat * te.ty.sz + te.ty.sz)) _ _) _
          rw [this]
          exact ((f6 j y hj).frz _).mono te.ty r2 r3

/-! Arguments and captured variables. -/

def PackedA (P : Program) (conc : Conc) (st : ASt) (w : World) (ts : List Ty) (x : denL ts) (vs : List Value) (l : W) : Prop :=
  ∀ F, (∀ id ∈ ids l, id ∈ F) → FrzW P conc st w F l ∧ ArgsRep P w (okOf (frzL conc F)) ts vs x

theorem packArgs_spec (hE : EnvOK P E) (h : Mod P w0 conc st a w) : (ts : List Ty) → {l : List SVal} → {vs : List Value} → {x : denL ts × W} → (packArgs E ts l).run st = some x →
    All2 (SRel P w conc (okOf conc)) l vs → PackedA P conc st w ts x.1 vs x.2
  | [], [], [], x, hr, _ => by cases hr; exact fun F _ => ⟨FrzW.nil, rfl⟩
  | [t], [s], [v], x, hr, hv => by
    obtain ⟨vs, h1, h2⟩ := peek_spec hE h (t := t) hr hv.1
    exact fun F hF => ⟨(h2 F hF).1, vs, by rw [h1], (h2 F hF).2⟩
  | t :: u :: ts, s :: ss, v :: vs, x, hr, hv => by
    simp only [packArgs] at hr
    obtain ⟨p, g1, hr1⟩ := RM.bind_some hr
    obtain ⟨q, g2, hr2⟩ := RM.bind_some hr1
    cases hr2
    obtain ⟨us, h1, h2⟩ := peek_spec hE h (t := t) g1 hv.1
    have h3 := packArgs_spec hE h (u :: ts) g2 hv.2
    intro F hF
    have k1 := h2 F fun id hi => hF id (by rw [ids_append]; exact List.mem_append_left _ hi)
    have k2 := h3 F fun id hi => hF id (by rw [ids_append]; exact List.mem_append_right _ hi)
    exact ⟨k1.1.append k2.1, us, vs, by rw [h1], k1.2, k2.2⟩
  | [], _ :: _, _, x, hr, _ => by cases hr
  | [t], [], _, x, hr, _ => by cases hr
  | [t], _ :: _ :: _, _, x, hr, _ => by cases hr
  | t :: u :: ts, [], _, x, hr, _ => by cases hr
  | [], [], _ :: _, _, _, hv => hv.elim
  | [t], [s], [], _, _, hv => hv.elim
  | [t], [s], _ :: _ :: _, _, _, hv => hv.2.elim
  | t :: u :: ts, s :: ss, [], _, _, hv => hv.elim

def PackedC (P : Program) (conc : Conc) (st : ASt) (w : World) (ts : List Ty) (x : denL ts) (vs : List Value) (l : W) : Prop :=
  ∀ F, (∀ id ∈ ids l, id ∈ F) → FrzW P conc st w F l ∧ CapsRep P w (okOf (frzL conc F)) ts vs x

theorem PtrRep.frz {t : Ty} {v : Value} {d : t.den} (h : PtrRep P w (okOf conc) t v d) (F : List Nat) : PtrRep P w (okOf (frzL conc F)) t v d := by
  obtain ⟨b, off, cs, T, fr, h1, h2, h3, h4, h5⟩ := h
  exact ⟨b, off, cs, T, fr, h1, frzL_sub w conc F b h2 (Array.getElem?_eq_some_iff.1 h3).1, h3, h4, h5.frz F⟩

theorem map_some {α β : Type} {m : Option α} {f : α → β} {y : β} (h : m.map f = some y) : ∃ x, m = some x ∧ y = f x := by
  cases m with
  | none => cases h
  | some x => exact ⟨x, rfl, by cases h; rfl⟩

theorem capA_spec (hE : EnvOK P E) (h : Mod P w0 conc st a w) {t : Ty} {b : AVal} {v : Value} {d : t.den × W} (hr1 : (capA E t b).run st = some d) (hv : VRel P w conc (okOf conc) b v) :
    ∀ F, (∀ id ∈ ids d.2, id ∈ F) → FrzW P conc st w F d.2 ∧ PtrRep P w (okOf (frzL conc F)) t v d.1 := by
  unfold capA at hr1
  split at hr1
  · rename_i u y
    obtain ⟨z, hz, rfl⟩ := map_some (RM.ofOpt_some hr1)
    obtain ⟨e', he⟩ := castTy_some hz
    subst e'
    subst he
    intro F _
    exact ⟨FrzW.nil, PtrRep.frz hv F⟩
  · rename_i id ver
    simp only [RM.run] at hr1
    split at hr1
    · rename_i cv u cells ho
      obtain ⟨k1, hr2⟩ := cond_some hr1
      have := nbeq_true k1
      subst this
      obtain ⟨p, k2, hr3⟩ := RM.bind_some hr2
      split at hr3
      · rename_i hnil
        obtain ⟨z, hz, rfl⟩ := map_some (RM.ofOpt_some hr3)
        obtain ⟨e', he⟩ := castTy_some hz
        subst e'
        subst he
        obtain ⟨c, ow, q1, q2⟩ := obj_rel h ho
        obtain ⟨cv', c', ow', r1, _, _, r3⟩ := hv
        rw [q1] at r1; cases r1
        obtain ⟨bl, e1, e2⟩ := r3 rfl
        obtain ⟨how, bl', cs, U, f1, f2, f3, f4, f5⟩ := q2
        rw [e1] at f1; cases f1
        subst how
        obtain ⟨us, ws, m1, m2, m3⟩ := implode_spec hE h u k2 f5 f4
        rw [hnil] at m3
        cases ws with
        | cons _ _ => exact m3.elim
        | nil =>
          rw [List.append_nil] at m1
          intro F hF
          have hidF : id ∈ F := hF id (by rw [ids_append]; exact List.mem_append_right _ (by simp [ids]))
          obtain ⟨n1, n2⟩ := m2 F fun j hj => hF j (by rw [ids_append]; exact List.mem_append_left _ hj)
          have hok := okOf_frz h hidF q1 (b := bl) (by rw [e1]; rfl)
          have hlen := n2.len
          have hch : chunk cs.toList 0 u.sz = us := by
            unfold chunk
            rw [m1, List.drop_zero, List.take_of_length_le (by omega)]
          have hsz : u.sz ≤ cs.size := by rw [← Array.length_toList, m1]; omega
          refine ⟨n1.append ?_, bl, 0, cs, U, _, e2, hok, f2, by omega, by rw [hch]; exact n2⟩
          intro j cv' o hm
          simp only [List.mem_singleton, Prod.mk.injEq] at hm
          obtain ⟨rfl, rfl, rfl⟩ := hm
          exact ⟨⟨_, ho⟩, c, q1, rfl, bl, cs, U, _, e1, hok, f2, hsz, by rw [hch]; exact n2⟩
      · cases hr3
    · rename_i cv u y ho
      obtain ⟨k1, hr2⟩ := cond_some hr1
      have := nbeq_true k1
      subst this
      obtain ⟨z, hz, rfl⟩ := map_some (RM.ofOpt_some hr2)
      obtain ⟨e', he⟩ := castTy_some hz
      subst e'
      subst he
      obtain ⟨c, ow, q1, q2⟩ := obj_rel h ho
      obtain ⟨cv', c', ow', r1, _, _, r3⟩ := hv
      rw [q1] at r1; cases r1
      obtain ⟨bl, e1, e2⟩ := r3 rfl
      obtain ⟨_, bl', cs, U, fr, f1, f2, f3, f4, f5⟩ := q2
      rw [e1] at f1; cases f1
      intro F _
      exact ⟨FrzW.nil, PtrRep.frz ⟨bl, 0, cs, U, fr, e2, f2, f3, by omega, f5⟩ F⟩
    · cases hr1
  · cases hr1

theorem cap1_spec (hE : EnvOK P E) (h : Mod P w0 conc st a w) {t : Ty} {x : Operand} {d : t.den × W} (hr : (cap1 E t x).run st = some d) :
    ∀ F, (∀ id ∈ ids d.2, id ∈ F) → FrzW P conc st w F d.2 ∧ PtrRep P w (okOf (frzL conc F)) t (a.eval x) d.1 := by
  unfold cap1 at hr
  obtain ⟨b, g1, hr1⟩ := RM.bind_some hr
  exact capA_spec hE h hr1 (rdA_rel h (labs_nil _) g1)

theorem capsOf_spec (hE : EnvOK P E) (h : Mod P w0 conc st a w) : (ts : List Ty) → {xs : List Operand} → {y : denL ts × W} → (capsOf E ts xs).run st = some y → PackedC P conc st w ts y.1 (xs.map a.eval) y.2
  | [], [], y, hr => by cases hr; exact fun F _ => ⟨FrzW.nil, rfl⟩
  | [t], [x], y, hr => by
    have := cap1_spec hE h (t := t) hr
    exact fun F hF => ⟨(this F hF).1, _, rfl, (this F hF).2⟩
  | t :: u :: ts, x :: r, y, hr => by
    simp only [capsOf] at hr
    obtain ⟨p, g1, hr1⟩ := RM.bind_some hr
    obtain ⟨q, g2, hr2⟩ := RM.bind_some hr1
    cases hr2
    have h1 := cap1_spec hE h (t := t) g1
    have h2 := capsOf_spec hE h (u :: ts) g2
    intro F hF
    have k1 := h1 F fun id hi => hF id (by rw [ids_append]; exact List.mem_append_left _ hi)
    have k2 := h2 F fun id hi => hF id (by rw [ids_append]; exact List.mem_append_right _ hi)
    exact ⟨k1.1.append k2.1, _, _, rfl, k1.2, k2.2⟩
  | [], _ :: _, y, hr => by cases hr
  | [t], [], y, hr => by cases hr
  | [t], _ :: _ :: _, y, hr => by cases hr
  | t :: u :: ts, [], y, hr => by cases hr

end Go.Abs
