/- Parts of one proof, joined: Operations that make objects. Operations that change objects. Operations that change objects: make, stores, append. Operations that change objects: append. Operations that change objects: append and store, as the evaluator has them. Operations that change objects: append to nil, stores, captured variables, arguments. Operations that change maps, and slices of a slice of the call's own. Calls and closures. Several new objects at once: the slices of new data. Calls that change a variable of the caller's own: several objects change at once. Closures made; an operation, whatever it is. Guards; regions in the order of the text; code. Slices of slices that are all of the call's own: pieces of several operations. -/
import Derived.Laws.StructEq
import Derived.Laws.IdiomStrings
import Derived.OrdersIn
import Derived.Test.YtbcbiemjokpghaaDoorX1
set_option linter.unusedSimpArgs false
set_option linter.unusedVariables false
namespace Go.Abs
open Go
variable {P : Program} {E : Env} {w0 : Start} {w : World} {conc : Conc} {st : ASt} {a : Act}

theorem FrzW.none (P : Program) (conc : Conc) (st : ASt) (w : World) : FrzW P conc st w (ids []) [] := FrzW.nil

theorem heap_new (o : Obj) : (w.alloc o).heap[w.heap.size]? = some o := heap_alloc_new w o

theorem run_newRow (U : Nat) (cs : Array Value) : (newRow U cs).run P w = .ok ⟨w.heap.size, 0, none⟩ (w.alloc (.cells cs U)) := rfl

/-- A box that is new. -/
theorem box_new {d : Nat} {t : Ty} {l : List AVal} {u : Upd} {st' : ASt} {cs : Array Value} {U : Nat} (h : Mod P w0 conc st a w)
    (hr : (newObj d (.box t l) (fun v => .bptr d v 0) []).run st = some u) (hap : applyU st none u = some st') (hl : l.length = t.sz) (h1 : ∀ v ∈ cs.toList, one v = true)
    (hv : All2 (VRel P w conc (okOf conc)) l cs.toList) : Models P w0 st' (a.put (some d) (.pointer (some ⟨w.heap.size, 0, none⟩))) (w.alloc (.cells cs U)) := by
  refine new_done h (FrzW.none P conc st w) hr hap (Keeps.alloc w _) (fun b hb => ?_) (fun conc' g1 g2 g3 => ?_) (fun conc' ver hc => ?_)
  · cases hb; simp
  · refine ⟨rfl, _, cs, U, rfl, heap_new _, hl, h1, hv.imp fun x v hx => hx.mono (Keeps.ext (Keeps.alloc w _) _) ?_ g1⟩
    have := g2
    rw [show ids [] = [] from rfl, frzL_nil] at this
    exact this
  · exact ⟨ver, _, true, hc, Nat.le_refl _, rfl, fun _ => ⟨_, rfl, rfl⟩⟩

/-- A buffer that is new. -/
theorem buf_newO {d : Nat} {e : Ty} {l : List e.den} {u : Upd} {st' : ASt} {W0 : W} {cs : Array Value} {U : Nat} (h : Mod P w0 conc st a w) (hW : FrzW P conc st w (ids W0) W0)
    (hr : (newObj d (.buf e l) (.hand d) W0).run st = some u) (hap : applyU st none u = some st') {cap : Nat} (hl : l.length ≤ cap) (hm : cap ≤ maxLen) {off : Nat} (hs : off + cap * e.sz ≤ cs.size) {w' : World} {b : Nat}
    (hk : Keeps w w') (hb : w.heap.size ≤ b) (hb' : w'.heap[b]? = some (.cells cs U (0, 0)))
    (hv : ∀ i x, l[i]? = some x → Rep P e w' (fun b' => (okOf (frzL conc (ids W0)) b' ∨ w.heap.size ≤ b') ∧ b' ≠ b) (chunk cs.toList (off + i * e.sz) e.sz) x) :
    Models P w0 st' (a.put (some d) (.slice (some ⟨b, off, none⟩) l.length cap)) w' := by
  refine new_done h hW hr hap hk (fun b'' hb'' => ?_) (fun conc' g1 g2 g3 => ?_) (fun conc' ver hc => ?_)
  · cases hb''; exact ⟨hb, (Array.getElem?_eq_some_iff.1 hb').1⟩
  · refine ⟨rfl, .inr ⟨b, off, cap, cs, U, rfl, hb', hl, hm, hs, fun i x hi => (hv i x hi).mono e ⟨Nat.le_refl _, fun _ _ _ => rfl⟩ ?_⟩⟩
    rintro b'' ⟨h1, h2⟩ _
    by_cases hlt : b'' < w.heap.size
    · rcases h1 with h1 | h1
      · exact g2 b'' h1 hlt
      · omega
    · exact g3 b'' (by omega) (fun e => h2 (by cases e; rfl))
  · exact ⟨ver, _, true, hc, Nat.le_refl _, rfl, fun _ => rfl⟩

theorem buf_new {d : Nat} {e : Ty} {l : List e.den} {u : Upd} {st' : ASt} {W0 : W} {cs : Array Value} {U : Nat} (h : Mod P w0 conc st a w) (hW : FrzW P conc st w (ids W0) W0)
    (hr : (newObj d (.buf e l) (.hand d) W0).run st = some u) (hap : applyU st none u = some st') {cap : Nat} (hl : l.length ≤ cap) (hm : cap ≤ maxLen) (hs : cs.size = cap * e.sz) {w' : World} {b : Nat}
    (hk : Keeps w w') (hb : w.heap.size ≤ b) (hb' : w'.heap[b]? = some (.cells cs U (0, 0)))
    (hv : ∀ i x, l[i]? = some x → Rep P e w' (fun b' => (okOf (frzL conc (ids W0)) b' ∨ w.heap.size ≤ b') ∧ b' ≠ b) (chunk cs.toList (i * e.sz) e.sz) x) :
    Models P w0 st' (a.put (some d) (.slice (some ⟨b, 0, none⟩) l.length cap)) w' :=
  buf_newO h hW hr hap hl hm (off := 0) (by rw [Nat.zero_add]; exact Nat.le_of_eq hs.symm) hk hb hb' fun i x hi => by rw [Nat.zero_add]; exact hv i x hi


theorem chunk_zero {z : Array Value} {n sz i : Nat} (hz : z.size = sz) (hi : i < n) :
    chunk ((Array.range (n * sz)).map (fun j => z[j % z.size]!)).toList (i * sz) sz = z.toList := by
  apply List.ext_getElem?
  intro j
  unfold chunk
  rw [List.getElem?_take]
  split
  · rename_i hj
    have hlt : i * sz + j < n * sz := by
      have : (i + 1) * sz ≤ n * sz := Nat.mul_le_mul_right _ hi
      rw [Nat.succ_mul] at this; omega
    have hm : (i * sz + j) % sz = j := by rw [Nat.add_comm, Nat.add_mul_mod_self_right, Nat.mod_eq_of_lt hj]
    rw [List.getElem?_drop]
    have hjz : j < z.size := by omega
    simp only [Array.toList_map, Array.toList_range, List.getElem?_map, List.getElem?_range, hlt, Option.map_some, hz, hm, Array.getElem?_toList]
    rw [getElem!_pos z j hjz, Array.getElem?_eq_getElem hjz]
  · rename_i hj
    rw [List.getElem?_eq_none]
    simp; omega

/-- All parts of a row read as the list. -/
def RowRep (P : Program) (w : World) (ok : Nat → Prop) (e : Ty) (l : List e.den) (vs : List Value) : Prop :=
  vs.length = l.length * e.sz ∧ (∀ v ∈ vs, one v = true) ∧ ∀ i x, l[i]? = some x → Rep P e w ok (chunk vs (i * e.sz) e.sz) x

theorem RowRep.mono {w' : World} {ok ok' : Nat → Prop} {e : Ty} {l : List e.den} {vs : List Value} (h : RowRep P w ok e l vs) (hx : Ext ok w w') (hs : Sub w ok ok') : RowRep P w' ok' e l vs :=
  ⟨h.1, h.2.1, fun i x hi => (h.2.2 i x hi).mono e hx hs⟩

theorem RowRep.zero {ok : Nat → Prop} {e : Ty} (he : e.noFn = true) (n : Nat) {z : Array Value} (hz : z.toList = zeroVals e) :
    RowRep P w ok e (List.replicate n e.dflt) ((Array.range (n * e.sz)).map (fun j => z[j % z.size]!)).toList := by
  have hsz : z.size = e.sz := by rw [← zero_len e, ← hz]; simp
  refine ⟨by simp, ?_, fun i x hi => ?_⟩
  · intro v hv
    simp only [Array.toList_map, List.mem_map] at hv
    obtain ⟨j, hj, rfl⟩ := hv
    by_cases h0 : e.sz = 0
    · simp [h0] at hj
    · have : j % z.size < z.size := Nat.mod_lt _ (by omega)
      rw [getElem!_pos z _ this]
      exact zero_one e _ (by rw [← hz]; simp)
  · have hlt := (List.getElem?_eq_some_iff.1 hi).1
    simp only [List.length_replicate] at hlt
    rw [List.getElem?_replicate, if_pos hlt] at hi
    cases hi
    rw [chunk_zero hsz hlt, hz]
    exact zero_rep e he

theorem chunk_splice_same {l m : List Value} {o n : Nat} (ho : o + n ≤ l.length) (hm : m.length = n) : chunk (l.take o ++ m ++ l.drop (o + n)) o n = m := by
  unfold chunk
  have h1 : (l.take o).length = o := by rw [List.length_take]; omega
  rw [List.append_assoc, List.drop_left' h1, List.take_left' hm]

theorem chunk_splice_other {l m : List Value} {o n p q : Nat} (ho : o + n ≤ l.length) (hm : m.length = n) (hd : p + q ≤ o ∨ o + n ≤ p) : chunk (l.take o ++ m ++ l.drop (o + n)) p q = chunk l p q := by
  unfold chunk
  have h1 : (l.take o).length = o := by rw [List.length_take]; omega
  rcases hd with hd | hd
  · rw [List.append_assoc, List.drop_append_of_le_length (by omega), List.take_append_of_le_length (by rw [List.length_drop]; omega), List.drop_take, List.take_take]
    congr 1
    omega
  · have h2 : (l.take o ++ m).length = o + n := by rw [List.length_append, h1, hm]
    rw [List.drop_append, h2, List.drop_of_length_le (by omega), List.nil_append, List.drop_drop]
    congr 2
    omega

theorem RowRep.set {ok : Nat → Prop} {e : Ty} {l : List e.den} {vs us : List Value} (h : RowRep P w ok e l vs) {i : Nat} (hi : i < l.length) {x : e.den} (hx : Rep P e w ok us x) :
    RowRep P w ok e (l.set i x) (vs.take (i * e.sz) ++ us ++ vs.drop (i * e.sz + e.sz)) := by
  obtain ⟨h1, h2, h3⟩ := h
  have hus := hx.len
  have hle : i * e.sz + e.sz ≤ vs.length := by
    rw [h1, ← Nat.succ_mul]; exact Nat.mul_le_mul_right _ hi
  refine ⟨?_, ?_, fun j y hj => ?_⟩
  · simp only [List.length_append, List.length_take, List.length_drop, List.length_set]
    rw [← h1]; omega
  · intro v hv
    simp only [List.mem_append] at hv
    rcases hv with (hv | hv) | hv
    · exact h2 v (List.mem_of_mem_take hv)
    · exact Rep.ones e hx v hv
    · exact h2 v (List.mem_of_mem_drop hv)
  · by_cases hij : i = j
    · subst hij
      rw [List.getElem?_set_self (by simpa using hi)] at hj
      cases hj
      rw [chunk_splice_same hle hus]; exact hx
    · rw [List.getElem?_set_ne hij] at hj
      have hjl := (List.getElem?_eq_some_iff.1 hj).1
      have : chunk (vs.take (i * e.sz) ++ us ++ vs.drop (i * e.sz + e.sz)) (j * e.sz) e.sz = chunk vs (j * e.sz) e.sz := by
        refine chunk_splice_other hle hus ?_
        rcases Nat.lt_or_gt_of_ne hij with hlt | hlt
        · right
          rw [← Nat.succ_mul]; exact Nat.mul_le_mul_right _ hlt
        · left
          rw [← Nat.succ_mul]; exact Nat.mul_le_mul_right _ hlt
      rw [this]
      exact h3 j y hj

theorem val_cells' {t : Ty} {ok : Nat → Prop} {vs : List Value} {d : t.den} (ht : 0 < t.sz) (h : Rep P t w ok vs d) : (t.val vs).cells.toList = vs :=
  val_cells (fun e => by rw [e] at ht; cases ht) h

/-- The parts of a literal slice. -/
theorem fillL_sound (hE : EnvOK P E) (h : Mod P w0 conc st a w) {e : Ty} (hpos : 0 < e.sz) {F : List Nat} : {ps : List (Nat × Operand)} → {l : List e.den} → {W0 : W} → {r : List e.den × W} → {cs : Array Value} →
    (fillL E e l W0 ps).run st = some r → (∀ id ∈ ids r.2, id ∈ F) → ((∀ id ∈ ids W0, id ∈ F) → FrzW P conc st w F W0) → RowRep P w (okOf (frzL conc F)) e l cs.toList →
    (∀ id ∈ ids W0, id ∈ ids r.2) ∧ r.1.length = l.length ∧ FrzW P conc st w F r.2 ∧
    ∃ cs', Instr.fill (fun i => some (i * e.sz, e.sz)) cs (ps.map fun p => (p.1, a.eval p.2)) = some cs' ∧ RowRep P w (okOf (frzL conc F)) e r.1 cs'.toList
  | [], l, W0, r, cs, hr, hF, hW, hv => by
    cases hr
    exact ⟨fun _ h => h, rfl, hW hF, cs, rfl, hv⟩
  | (i, x) :: ps, l, W0, r, cs, hr, hF, hW, hv => by
    simp only [fillL] at hr
    obtain ⟨s, g1, hr1⟩ := RM.bind_some hr
    obtain ⟨d, g2, hr2⟩ := RM.bind_some hr1
    obtain ⟨g3, hr3⟩ := cond_some hr2
    have hi : i < l.length := by
      have : i + 1 ≤ l.length := by simpa [Nat.blt] using g3
      omega
    obtain ⟨us, e1, e2⟩ := peek_spec hE h g2 (rd_rel h (labs_nil _) g1)
    -- what the rest freezes holds what this part does
    have sub : ∀ (ps : List (Nat × Operand)) (l : List e.den) (W0 : W) (r : List e.den × W), (fillL E e l W0 ps).run st = some r → ∀ id ∈ ids W0, id ∈ ids r.2 := by
      intro ps
      induction ps with
      | nil => intro l W0 r hr; cases hr; exact fun _ h => h
      | cons p ps ih =>
        obtain ⟨i, x⟩ := p
        intro l W0 r hr id hid
        simp only [fillL] at hr
        obtain ⟨s, k1, hr1⟩ := RM.bind_some hr
        obtain ⟨d, k2, hr2⟩ := RM.bind_some hr1
        obtain ⟨k3, hr3⟩ := cond_some hr2
        exact ih _ _ _ hr3 id (by rw [ids_append]; exact List.mem_append_left _ hid)
    have hF0 : ∀ id ∈ ids (W0 ++ d.2), id ∈ F := fun id hid => hF id (sub _ _ _ _ hr3 id hid)
    have hd := e2 F fun id hid => hF0 id (by rw [ids_append]; exact List.mem_append_right _ hid)
    have hset := hv.set hi hd.2
    have hcell := val_cells' hpos hd.2
    rw [← e1] at hcell
    have := fillL_sound hE h hpos (F := F) (cs := (cs.toList.take (i * e.sz) ++ us ++ cs.toList.drop (i * e.sz + e.sz)).toArray) hr3 hF
      (fun _ => (hW fun id hid => hF0 id (by rw [ids_append]; exact List.mem_append_left _ hid)).append hd.1) (by simpa using hset)
    obtain ⟨k1, k2, k3, cs', k4, k5⟩ := this
    refine ⟨fun id hid => k1 id (by rw [ids_append]; exact List.mem_append_left _ hid), by rw [k2, List.length_set], k3, cs', ?_, k5⟩
    rw [List.map_cons, fill_step (o := i * e.sz) (n := e.sz) rfl hcell hd.2.len]
    · exact k4
    · have := hv.1
      simp only [Array.length_toList] at this
      rw [this, ← Nat.succ_mul]; exact Nat.mul_le_mul_right _ hi

end Go.Abs

set_option linter.unusedSimpArgs false
set_option linter.unusedVariables false
namespace Go.Abs
open Go
variable {P : Program} {E : Env} {w0 : Start} {w : World} {conc : Conc} {st : ASt} {a : Act}

theorem zero_cells {t : Ty} (ht : 0 < t.sz) : (t.val (zeroVals t)).cells.toList = zeroVals t := by
  cases t <;> first | rfl | (simp [Ty.sz] at ht; done) | simp [Ty.val, Ty.isPair, Value.cells]

theorem alloc_ok (hE : EnvOK P E) (h : Mod P w0 conc st a w) {o : Oper} {T d : Nat} {t : Ty} (hop : o.op = .alloc T) (hd : o.dst = some d) (hT : E.ty T = some t) {u : Upd} {st' : ASt}
    (hr : (newObj d (.box t (zeroCells t)) (fun v => .bptr d v 0) []).run st = some u) (hap : applyU st none u = some st') : OpOK P w0 o a w st' := by
  obtain ⟨te, rfl, hok⟩ := hE.tyOK hT
  have hc := zero_cells hok.pos
  have := box_new (U := T) (cs := (te.ty.val (zeroVals te.ty)).cells) h hr hap (by rw [zc_len te.ty]) (by rw [hc]; exact zero_one _) (by rw [hc]; exact zero_rel _)
  refine OpOK.value (v := .pointer (some ⟨w.heap.size, 0, none⟩)) (w' := w.alloc (.cells (te.ty.val (zeroVals te.ty)).cells T)) ?_ (by rw [hd]; exact this)
  simp only [execOp, hop, Instr.alloc]
  rw [Sem.run_bind, Sem.run_bind, zeroValue_run hok]
  rfl
where
  zc_len : (t : Ty) → (zeroCells t).length = t.sz
    | .unit => rfl
    | .pair a b => by simp [zeroCells, Ty.sz, zc_len a, zc_len b]
    | .slice _ => rfl
    | .int _ => rfl
    | .bool => rfl
    | .str => rfl
    | .fn1 _ _ => rfl
    | .fn2 _ _ _ => rfl
    | .seq _ => rfl
    | .seq2 _ _ => rfl
    | .map _ _ => rfl
    | .ptr _ => rfl
    | .sliceN _ => rfl

theorem box_ok (hE : EnvOK P E) (h : Mod P w0 conc st a w) {o : Oper} {T d : Nat} {t : Ty} {x : Operand} (hop : o.op = .box T x) (hd : o.dst = some d) {s : SVal} {l : List AVal}
    (hs : (rd [] x).run st = some s) (hl : s.cells.run st = some l) (hlen : l.length = t.sz) {u : Upd} {st' : ASt}
    (hr : (newObj d (.box t l) (fun v => .bptr d v 0) []).run st = some u) (hap : applyU st none u = some st') : OpOK P w0 o a w st' := by
  obtain ⟨vs, e1, e2, e3⟩ := cells_spec hl (rd_rel h (labs_nil _) hs)
  have := box_new (U := T) (cs := (a.eval x).cells) h hr hap hlen (by rw [e1]; exact e2) (by rw [e1]; exact e3)
  exact OpOK.value (v := .pointer (some ⟨w.heap.size, 0, none⟩)) (w' := w.alloc (.cells (a.eval x).cells T)) (by simp only [execOp, hop, Instr.box]; rfl) (by rw [hd]; exact this)

theorem nil_ok (h : Mod P w0 conc st a w) {o : Oper} {d : Nat} {e : Ty} (hop : o.op = .assign (.const (.slice none 0 0))) (hd : o.dst = some d) {u : Upd} {st' : ASt}
    (hr : (newObj d (.buf e []) (.hand d) []).run st = some u) (hap : applyU st none u = some st') : OpOK P w0 o a w st' := by
  refine OpOK.value (v := .slice none 0 0) (w' := w) (by simp [execOp, hop, Act.eval]) ?_
  rw [hd]
  exact new_done h (FrzW.none P conc st w) hr hap (Keeps.refl w) (fun b hb => by cases hb) (fun conc' g1 g2 g3 => ⟨rfl, .inl ⟨rfl, rfl⟩⟩)
    (fun conc' ver hc => ⟨ver, _, true, hc, Nat.le_refl _, rfl, fun _ => rfl⟩)

theorem nilN_ok (h : Mod P w0 conc st a w) {o : Oper} {d : Nat} {e : Ty} (hop : o.op = .assign (.const (.slice none 0 0))) (hd : o.dst = some d) {u : Upd} {st' : ASt}
    (hr : (newObj d (.nbuf e []) (.nhand d) []).run st = some u) (hap : applyU st none u = some st') : OpOK P w0 o a w st' := by
  -- the frame's slot holds the slice, the object's value is a tuple
  have hb : ∀ b, ¬ hasB (.tuple #[.slice none 0 0]) b := by
    rintro b ⟨v, hv, hvb⟩
    simp at hv
    subst hv
    cases hvb
  refine OpOK.value (v := .slice none 0 0) (w' := w) (by simp [execOp, hop, Act.eval]) ?_
  rw [hd]
  have key : ∀ ver, (∀ cv c0 ow, conc d = some (cv, c0, ow) → cv < ver) → u = ⟨some (d, ⟨[], true, .v (.nhand d ver)⟩), [(d, (ver, .nbuf e []))]⟩ → Models P w0 st' (a.put (some d) (.slice none 0 0)) w := by
    intro ver hver hu
    subst hu
    obtain ⟨conc2, k1, k2, _, _⟩ := h.new (id := d) (ver := ver) (c := .tuple #[.slice none 0 0]) (o := .nbuf e []) (w' := w) (Keeps.refl w) hver (fun b hbb => absurd hbb (hb b)) (fun conc' g1 g2 g3 =>
      ⟨rfl, .slice none 0 0, [], rfl, rfl, .inl ⟨rfl, rfl⟩, fun i u li hi => by simp at hi, by simp⟩)
    exact slot_done (W0 := [(d, (ver, .nbuf e []))]) (d := some d) (s := .v (.nhand d ver)) k1 hap ⟨ver, _, true, k2, Nat.le_refl _, rfl, fun _ => ⟨[], rfl⟩⟩
  simp only [newObj, RM.run] at hr
  cases hg : Map.get st.heap d with
  | none =>
    rw [hg] at hr
    cases hr
    exact key 0 (fun cv c0 ow hc => by rw [h.dead d hg] at hc; cases hc) rfl
  | some q =>
    obtain ⟨cv0, o0⟩ := q
    rw [hg] at hr
    cases hr
    refine key (cv0 + 1) (fun cv c0 ow hc => ?_) rfl
    obtain ⟨c', ow', g1, _⟩ := h.heap d cv0 o0 hg
    rw [g1] at hc
    cases hc
    omega

theorem elem_of (hE : EnvOK P E) {T : Nat} {e : Ty} (hT : E.ty T = some (.slice e)) : ∃ T', P.underlying T = some (.slice T') ∧ ElOK P T' e := by
  obtain ⟨te, hte, hok⟩ := hE.tyOK hT
  have := hok.desc
  rw [hte] at this
  exact this

theorem coe_zero0 {t t' : Ty} {f : t.den → t'.den} (h : (if h : t = t' then some (fun d => h ▸ d) else none : Option (t.den → t'.den)) = some f) : zeroVals t = zeroVals t' := by
  split at h
  · rename_i e; subst e; rfl
  · cases h

theorem coe_zero : (t t' : Ty) → {f : t.den → t'.den} → coe t t' = some f → zeroVals t = zeroVals t'
  | .slice _, .slice _, _, _ => rfl
  | .pair a b, .pair a' b', f, h => by
    simp only [coe] at h
    split at h
    · rename_i g g' hg hg'
      simp only [zeroVals, coe_zero a a' hg, coe_zero b b' hg']
    · cases h
  | .sliceN _, .slice _, _, _ => rfl
  | .slice _, .sliceN _, _, _ => rfl
  | .int k, t', f, h => coe_zero0 (f := f) (by cases t' <;> simpa only [coe] using h)
  | .bool, t', f, h => coe_zero0 (f := f) (by cases t' <;> simpa only [coe] using h)
  | .str, t', f, h => coe_zero0 (f := f) (by cases t' <;> simpa only [coe] using h)
  | .unit, t', f, h => coe_zero0 (f := f) (by cases t' <;> simpa only [coe] using h)
  | .fn1 _ _, t', f, h => coe_zero0 (f := f) (by cases t' <;> simpa only [coe] using h)
  | .fn2 _ _ _, t', f, h => coe_zero0 (f := f) (by cases t' <;> simpa only [coe] using h)
  | .seq _, t', f, h => coe_zero0 (f := f) (by cases t' <;> simpa only [coe] using h)
  | .seq2 _ _, t', f, h => coe_zero0 (f := f) (by cases t' <;> simpa only [coe] using h)
  | .map _ _, t', f, h => coe_zero0 (f := f) (by cases t' <;> simpa only [coe] using h)
  | .ptr _, t', f, h => coe_zero0 (f := f) (by cases t' <;> simpa only [coe] using h)
  | .slice e, .int _, f, h | .slice e, .bool, f, h | .slice e, .str, f, h | .slice e, .unit, f, h | .slice e, .pair _ _, f, h | .slice e, .fn1 _ _, f, h | .slice e, .fn2 _ _ _, f, h | .slice e, .seq _, f, h | .slice e, .seq2 _ _, f, h
  | .slice e, .map _ _, f, h | .slice e, .ptr _, f, h => by cases h
  | .sliceN e, .int _, f, h | .sliceN e, .bool, f, h | .sliceN e, .str, f, h | .sliceN e, .unit, f, h | .sliceN e, .pair _ _, f, h | .sliceN e, .fn1 _ _, f, h | .sliceN e, .fn2 _ _ _, f, h | .sliceN e, .seq _, f, h | .sliceN e, .seq2 _ _, f, h
  | .sliceN e, .map _ _, f, h | .sliceN e, .ptr _, f, h => by cases h
  | .sliceN e, .sliceN e', f, h => coe_zero0 (f := f) (by simpa only [coe] using h)
  | .pair _ _, .int _, f, h | .pair _ _, .bool, f, h | .pair _ _, .str, f, h | .pair _ _, .unit, f, h | .pair _ _, .slice _, f, h | .pair _ _, .fn1 _ _, f, h | .pair _ _, .fn2 _ _ _, f, h | .pair _ _, .seq _, f, h | .pair _ _, .seq2 _ _, f, h
  | .pair _ _, .map _ _, f, h | .pair _ _, .ptr _, f, h | .pair _ _, .sliceN _, f, h => by cases h

theorem sl_elem (hE : EnvOK P E) {T : Nat} {e : Ty} (hT : E.sl T e = true) : ∃ T', P.underlying T = some (.slice T') ∧ ElOK P T' e := by
  unfold Env.sl at hT
  split at hT
  · rename_i e0 h0
    obtain ⟨T', hu, i, h1, h2, h3, h4, h5⟩ := elem_of hE h0
    cases hd : decide (e = e0) with
    | true =>
      have := of_decide_eq_true hd
      subst this
      exact ⟨T', hu, i, h1, h2, h3, h4, h5⟩
    | false =>
      rw [hd, Bool.false_or] at hT
      obtain ⟨f, hf⟩ := Option.isSome_iff_exists.1 hT
      obtain ⟨k1, k2, _⟩ := coe_ok e e0 hf
      refine ⟨T', hu, i, h1, by rw [h2, k1], h3, ?_, by omega⟩
      rw [h4, coe_zero e e0 hf]
      simp only [Ty.val, k2]
  · cases hT

theorem elT_elem (hE : EnvOK P E) {T : Nat} {d : Option Nat} {e : Ty} (hT : E.elT T d = some e) : ∃ T', P.underlying T = some (.slice T') ∧ ElOK P T' e := by
  unfold Env.elT at hT
  split at hT
  · rename_i e0 h0
    split at hT
    · split at hT
      · rename_i e' _
        cases hs : E.sl T e' with
        | true => rw [hs] at hT; cases hT; exact sl_elem hE hs
        | false => rw [hs] at hT; cases hT
      · cases hT; exact elem_of hE h0
    · cases hT; exact elem_of hE h0
  · cases hT

theorem buildSlice_run (hE : EnvOK P E) (h : Mod P w0 conc st a w) {o : Oper} {T n : Nat} {e : Ty} {ps : Array (Nat × Operand)} (hop : o.op = .buildSlice T n ps) (hT : ∃ T', P.underlying T = some (.slice T') ∧ ElOK P T' e)
    (hf : e.noFn = true) (hn : n * e.sz ≤ 16777216) {r : List e.den × W} (hfill : (fillL E e (List.replicate n e.dflt) [] ps.toList).run st = some r) :
    FrzW P conc st w (ids r.2) r.2 ∧ r.1.length = n ∧ ∃ cs' T', cs'.size = n * e.sz ∧ RowRep P w (okOf (frzL conc (ids r.2))) e r.1 cs'.toList ∧ (execOp a.eval o).run P w = .ok (.value (.slice (some ⟨w.heap.size, 0, none⟩) n n)) (w.alloc (.cells cs' T')) := by
  obtain ⟨T', hu, i, hi1, hi2, hi3, hi4, hpos⟩ := hT
  have hz := zero_cells hpos
  have hrow : RowRep P w (okOf (frzL conc (ids r.2))) e (List.replicate n e.dflt) ((Array.range (n * e.sz)).map (fun j => (e.val (zeroVals e)).cells[j % (e.val (zeroVals e)).cells.size]!)).toList := RowRep.zero hf n hz
  obtain ⟨_, k2, k3, cs', k4, k5⟩ := fillL_sound hE h hpos (F := ids r.2) hfill (fun _ h => h) (fun _ => FrzW.nil) hrow
  rw [List.length_replicate] at k2
  have hcs : cs'.size = n * e.sz := by have := k5.1; rw [k2] at this; simpa using this
  refine ⟨k3, k2, cs', T', hcs, k5, ?_⟩
  have hps : (ps.map fun (x : Nat × Operand) => (x.1, a.eval x.2)).toList = ps.toList.map fun p => (p.1, a.eval p.2) := by simp
  have hgt : ¬ (n * i.size > 2 ^ 24) := by rw [hi2]; omega
  have hzv : (zeroValue T').run P w = .ok (e.val (zeroVals e)) w := by simp [zeroValue, typeInfo, hi1, hi4]
  have hsz : (sizeOf T').run P w = .ok e.sz w := by simp [sizeOf, typeInfo, hi1, hi2]
  have key : ∀ z : Array Value, (n * e.sz = 0 ∨ z = (e.val (zeroVals e)).cells) →
      Instr.fill (fun i => some (i * e.sz, e.sz)) ((Array.range (n * e.sz)).map (fun j => z[j % z.size]!)) (ps.map fun (x : Nat × Operand) => (x.1, a.eval x.2)).toList = some cs' := by
    intro z hz'
    rw [hps, ← k4]
    congr 1
    rcases hz' with h0 | rfl
    · simp [h0]
    · rfl
  have hrun : (Instr.buildSlice T n (ps.map fun (x : Nat × Operand) => (x.1, a.eval x.2))).run P w = .ok (.slice (some ⟨w.heap.size, 0, none⟩) n n) (w.alloc (.cells cs' T')) := by
    unfold Instr.buildSlice
    rw [Sem.run_bind, run_underlying hu]
    dsimp only [Result.andThen]
    rw [Sem.run_bind, hsz]
    dsimp only [Result.andThen]
    have hgt' : ¬ (n * e.sz > 2 ^ 24) := by omega
    rw [if_neg hgt']
    by_cases h0 : n * e.sz = 0
    · rw [if_pos h0]
      have := key #[] (.inl h0)
      simp only [pure_bind, this]
      rfl
    · rw [if_neg h0]
      have := key _ (.inr rfl)
      simp only [pure_bind, bind_assoc]
      rw [Sem.run_bind, hzv]
      dsimp only [Result.andThen]
      simp only [this]
      rfl
  simp only [execOp, hop]
  rw [Sem.run_bind]
  have he : (ps.map fun x => match x with | (i, x) => (i, a.eval x)) = ps.map fun (x : Nat × Operand) => (x.1, a.eval x.2) := rfl
  rw [he, hrun]
  rfl

theorem buildSlice_ok (hE : EnvOK P E) (h : Mod P w0 conc st a w) {o : Oper} {T d n : Nat} {e : Ty} {ps : Array (Nat × Operand)} (hop : o.op = .buildSlice T n ps) (hd : o.dst = some d) (hT : ∃ T', P.underlying T = some (.slice T') ∧ ElOK P T' e)
    (hf : e.noFn = true) (hn : n * e.sz ≤ 16777216) {r : List e.den × W} (hfill : (fillL E e (List.replicate n e.dflt) [] ps.toList).run st = some r) {u : Upd} {st' : ASt}
    (hr : (newObj d (.buf e r.1) (.hand d) r.2).run st = some u) (hap : applyU st none u = some st') : OpOK P w0 o a w st' := by
  obtain ⟨k3, k2, cs', T', hcs, k5, hrun⟩ := buildSlice_run hE h hop hT hf hn hfill
  have hpos : 0 < e.sz := by obtain ⟨_, _, _, _, _, _, _, hpos⟩ := hT; exact hpos
  have hb := buf_new (U := T') (cs := cs') (cap := n) (w' := w.alloc (.cells cs' T')) (b := w.heap.size) h k3 hr hap (by rw [k2]; exact Nat.le_refl _) (by unfold maxLen; have := Nat.le_mul_of_pos_right n hpos; omega) hcs (Keeps.alloc w _) (Nat.le_refl _) (heap_new _) (fun j x hj => by
    refine (k5.2.2 j x hj).mono e (Keeps.ext (Keeps.alloc w _) _) ?_
    intro b hb hlt
    exact ⟨.inl hb, by omega⟩)
  rw [k2] at hb
  exact OpOK.value hrun (by rw [hd]; exact hb)

end Go.Abs

set_option linter.unusedSimpArgs false
set_option linter.unusedVariables false
namespace Go.Abs
open Go
variable {P : Program} {E : Env} {w0 : Start} {w : World} {conc : Conc} {st : ASt} {a : Act}

theorem i64_wrap {n : Int} (h0 : -9223372036854775808 ≤ n) (h1 : n < 9223372036854775808) : IntKind.i64.wrap n = n := by
  have e1 : (2 : Int) ^ IntKind.i64.bits = 18446744073709551616 := by decide
  have e2 : (2 : Int) ^ (IntKind.i64.bits - 1) = 9223372036854775808 := by decide
  have e3 : IntKind.i64.signed = true := by decide
  unfold IntKind.wrap
  dsimp only
  rw [e1, e2, e3]
  simp only [Bool.true_and, decide_eq_true_eq]
  split <;> omega

theorem run_makeSlice {T T' : Nat} {e : Ty} (hu : P.underlying T = some (.slice T')) (hel : ElOK P T' e) {n : Int} (h0 : 0 ≤ n) (h1 : n ≤ (most : Int)) :
    (Instr.makeSlice T (.int .i64 n) (.int .i64 n)).run P w = .ok (.slice (some ⟨w.heap.size, 0, none⟩) n.toNat n.toNat)
      (w.alloc (.cells ((Array.range (n.toNat * e.sz)).map (fun j => (e.val (zeroVals e)).cells[j % (e.val (zeroVals e)).cells.size]!)) T')) := by
  obtain ⟨i, hi1, hi2, hi3, hi4, hpos⟩ := hel
  unfold most at h1
  have hw : IntKind.i64.wrap n = n := i64_wrap (by omega) (by omega)
  have hzv : (zeroValue T').run P w = .ok (e.val (zeroVals e)) w := by simp [zeroValue, typeInfo, hi1, hi4]
  have hsz : (sizeOf T').run P w = .ok e.sz w := by simp [sizeOf, typeInfo, hi1, hi2]
  have hti : (typeInfo T').run P w = .ok i w := by simp [typeInfo, hi1]
  have hbytes : decide ((i.bytes : Int) * n > 2 ^ 48) = false := by
    have : (i.bytes : Int) * n ≤ 32768 * 4294967296 := Int.mul_le_mul (by omega) (by omega) h0 (by omega)
    rw [decide_eq_false_iff_not]
    omega
  have hroom : ∀ k : Nat, (askRoom k).run P w = .ok () w := by
    intro k
    unfold askRoom
    split
    · rfl
    · rfl
  unfold Instr.makeSlice
  rw [Sem.run_bind, run_underlying hu]
  dsimp only [Result.andThen]
  simp only [asInt, asIntOf, pure_bind, bind_assoc]
  rw [Sem.run_bind, hti]
  dsimp only [Result.andThen]
  rw [hw]
  have c2 : decide (n < 0) = false := by simp; omega
  have c3 : decide (n > n) = false := by simp
  simp only [hbytes, c2, c3, Bool.or_false, Bool.false_eq_true, if_false]
  rw [Sem.run_bind, hroom]
  dsimp only [Result.andThen]
  rw [Sem.run_bind, hsz]
  dsimp only [Result.andThen]
  by_cases hz : n.toNat * e.sz = 0
  · have e0 : ∀ f : Nat → Value, (Array.range 0).map f = #[] := by intro f; simp
    rw [if_pos hz]
    simp only [pure_bind, hz, e0]
    rfl
  · rw [if_neg hz]
    rw [Sem.run_bind, hzv]
    rfl

theorem makeSlice_ok (hE : EnvOK P E) (h : Mod P w0 conc st a w) {o : Oper} {T d x : Nat} {e : Ty} (hop : o.op = .makeSlice T (.tmp x) (.tmp x)) (hd : o.dst = some d) (hT : E.ty T = some (.slice e))
    (hf : e.noFn = true) {n : Int} (hx : (rdA [] (.tmp x)).run st = some (.pure (.int .i64) n)) (h0 : 0 ≤ n) (h1 : n ≤ (most : Int)) {u : Upd} {st' : ASt}
    (hr : (newObj d (.buf e (List.replicate n.toNat e.dflt)) (.hand d) []).run st = some u) (hap : applyU st none u = some st') : OpOK P w0 o a w st' := by
  obtain ⟨T', hu, hel⟩ := elem_of hE hT
  have hel' := hel
  obtain ⟨i, hi1, hi2, hi3, hi4, hpos⟩ := hel'
  have hz := zero_cells hpos
  obtain ⟨vs, e1, e2⟩ := rdA_rel h (labs_nil _) hx
  have hv := rep_int e1 e2
  have hrow : RowRep P w (okOf conc) e (List.replicate n.toNat e.dflt) _ := RowRep.zero hf n.toNat hz
  have hb := buf_new (U := T') (cs := ((Array.range (n.toNat * e.sz)).map (fun j => (e.val (zeroVals e)).cells[j % (e.val (zeroVals e)).cells.size]!))) (cap := n.toNat) (b := w.heap.size) h (FrzW.none P conc st w) hr hap
    (by simp) (by unfold maxLen; unfold most at h1; omega) (by simp) (Keeps.alloc w _) (Nat.le_refl _) (heap_new _) (fun j y hj => by
    refine (hrow.2.2 j y hj).mono e (Keeps.ext (Keeps.alloc w _) _) ?_
    intro b hb hlt
    exact ⟨.inl (by rw [show ids [] = [] from rfl, frzL_nil]; exact hb), by omega⟩)
  rw [List.length_replicate] at hb
  refine OpOK.value ?_ (by rw [hd]; exact hb)
  simp only [execOp, hop]
  rw [Sem.run_bind, hv, run_makeSlice hu hel h0 h1]
  rfl

/-- Cells stored in a block of the call's own. -/
theorem run_store {T : Nat} {te : TyE} (hok : TyOK P T te) {b off : Nat} {cs : Array Value} {U : Nat} (hb : w.heap[b]? = some (.cells cs U (0, 0))) {v : Value} {vs : List Value} (hv : v.cells.toList = vs) (h1 : ∀ u ∈ vs, one u = true)
    (hl : vs.length = te.ty.sz) (hs : off + te.ty.sz ≤ cs.size) :
    (Instr.storeAt T (.pointer (some ⟨b, off, none⟩)) v).run P w = .ok () (w.setRow b (cs.toList.take off ++ vs ++ cs.toList.drop (off + te.ty.sz)).toArray) := by
  have hsz : v.cells.size = te.ty.sz := by rw [← hl, ← hv]; simp
  have := run_storeCells_at P b off U vs 0 cs w hb (by omega) (fun u hu => by
    have := h1 u hu
    cases u <;> first | rfl | cases this)
  simp only [Nat.add_zero, hl] at this
  unfold Instr.storeAt storeVar
  simp only [Instr.sureAddr, pure_bind]
  rw [Sem.run_bind, run_sz hok]
  dsimp only [Result.andThen]
  rw [if_neg (by rw [hsz]; simp), hv]
  exact this

/-- An object whose block alone is written, its place and version kept. -/
theorem set_done (h : Mod P w0 conc st a w) {W0 : W} (hW : FrzW P conc st w (ids W0) W0) {id cv : Nat} {c : Value} {o' : AObj} {b : Nat} {cs' : Array Value} {st' : ASt}
    (hc : frzL conc (ids W0) id = some (cv, c, true)) (hb : hasB c b) (hap : applyU st none ⟨none, W0 ++ [(id, (cv, o'))]⟩ = some st')
    (hO : ∀ conc' w', CLe (frzL conc (ids W0)) conc' → Ext (okOf (frzL conc (ids W0))) w w' → Sub w (okOf (frzL conc (ids W0))) (okOf conc') → w' = w.setRow b cs' → ORel P w' conc' (okOf conc') c true o') :
    Models P w0 st' a (w.setRow b cs') := by
  obtain ⟨conc1, rfl, h1, h2, h3⟩ := frz_done h hW
  obtain ⟨conc2, k1, _⟩ := h1.obj (id := id) (ver := cv) (c := c) (o := o') (w' := w.setRow b cs') (fun cv' c0 ow hc' => by rw [hc] at hc'; cases hc'; exact .inr ⟨rfl, rfl⟩) rfl rfl rfl (by simp)
    (fun b' hb' hne => setRow_other w b b' cs' fun e => hne cv c hc (e ▸ hb)) (fun b' hb' => ⟨.inr ⟨cv, c, hc, hb'⟩, by
      rw [size_setRow]
      exact (h1.base id cv c b' hc hb').2⟩)
    (fun conc' g1 _ g2 g3 _ => hO conc' _ g1 g2 g3 rfl)
  refine ⟨conc2, ?_⟩
  unfold applyU at hap
  cases hap
  show Mod P w0 conc2 { N := st.N, marks := st.marks, slots := st.slots, heap := setObjs st.heap (W0 ++ [(id, (cv, o'))]), fixed := st.fixed } a (w.setRow b cs')
  rw [setObjs_append]
  exact k1

theorem one_oneCell {v : Value} (h : one v = true) : v.oneCell' = true := by cases v <;> first | rfl | cases h

end Go.Abs

set_option linter.unusedSimpArgs false
set_option linter.unusedVariables false
namespace Go.Abs
open Go
variable {P : Program} {E : Env} {w0 : Start} {w : World} {conc : Conc} {st : ASt} {a : Act}

/-- A slice value whose cells read as a list. -/
def Reads (P : Program) (w : World) (ok : Nat → Prop) (e : Ty) (l : List e.den) (v : Value) (news : List Value) : Prop :=
  ∃ ad cap, v = .slice ad l.length cap ∧ RowRep P w ok e l news ∧ ((l = [] ∧ news = []) ∨ ∃ b off cs T fr, ad = some ⟨b, off, none⟩ ∧ w.heap[b]? = some (.cells cs T fr) ∧
    off + l.length * e.sz ≤ cs.size ∧ chunk cs.toList off (l.length * e.sz) = news)

theorem rows_of {ok : Nat → Prop} {e : Ty} (hpos : 0 < e.sz) {l : List e.den} {cs : List Value} {off : Nat} (hs : off + l.length * e.sz ≤ cs.length)
    (h : ∀ i x, l[i]? = some x → Rep P e w ok (chunk cs (off + i * e.sz) e.sz) x) : RowRep P w ok e l (chunk cs off (l.length * e.sz)) := by
  have hlen := chunk_length hs
  refine ⟨hlen, ?_, fun i x hi => ?_⟩
  · intro v hv
    obtain ⟨j, hj, rfl⟩ := List.mem_iff_getElem.1 hv
    rw [hlen] at hj
    have hjs : j / e.sz < l.length := (Nat.div_lt_iff_lt_mul hpos).2 hj
    have h1 := h (j / e.sz) l[j / e.sz] (List.getElem?_eq_getElem hjs)
    refine Rep.ones e h1 _ ?_
    have hm : j % e.sz < e.sz := Nat.mod_lt _ hpos
    have hdm := Nat.div_add_mod j e.sz
    rw [Nat.mul_comm] at hdm
    have hget : (chunk cs (off + j / e.sz * e.sz) e.sz)[j % e.sz]? = some (chunk cs off (l.length * e.sz))[j] := by
      rw [← List.getElem?_eq_getElem]
      unfold chunk
      rw [List.getElem?_take, if_pos hm, List.getElem?_drop, List.getElem?_take, if_pos hj, List.getElem?_drop]
      congr 1
      omega
    exact List.mem_of_getElem? hget
  · have hlt := (List.getElem?_eq_some_iff.1 hi).1
    have hle : i * e.sz + e.sz ≤ l.length * e.sz := by rw [← Nat.succ_mul]; exact Nat.mul_le_mul_right _ hlt
    rw [chunk_chunk hle]
    exact h i x hi

theorem slice_reads {ok : Nat → Prop} {e : Ty} (hpos : 0 < e.sz) {l : List e.den} {v : Value} (h : Rep P (.slice e) w ok [v] l) : ∃ news, Reads P w ok e l v news := by
  obtain ⟨ad, cap, h1, h2, h3⟩ := h
  simp only [List.cons.injEq, and_true] at h1
  rcases h3 with h3 | ⟨b, off, cs, T, fr, f1, f2, f3, f4, f5⟩
  · subst h3
    exact ⟨[], ad, cap, h1, ⟨by simp, by simp, by simp⟩, .inl ⟨rfl, rfl⟩⟩
  · exact ⟨_, ad, cap, h1, rows_of hpos (by simpa using f4) f5, .inr ⟨b, off, cs, T, fr, f1, f3, f4, rfl⟩⟩

/-- The elements that are appended. -/
theorem elems_spec (hE : EnvOK P E) (h : Mod P w0 conc st a w) {e : Ty} (hpos : 0 < e.sz) {b : AVal} {v : Value} {m : List e.den × W} (hr : (peekB E (.slice e) b).run st = some m) (hv : VRel P w conc (okOf conc) b v) :
    ∃ news, Reads P w (okOf conc) e m.1 v news := by
  cases b with
  | hand id ver =>
    simp only [peekB, RM.run] at hr
    split at hr
    · cases hr
    · rename_i hncb
      simp only [peekA, RM.run] at hr
      split at hr
      · rename_i cv u l ho
        obtain ⟨h1, h2⟩ := cond_some hr
        split at h2
        · rename_i x hx
          cases h2
          obtain ⟨hsz, hlen, hel⟩ := castTo_slice hx
          have := nbeq_true h1
          subst this
          obtain ⟨c, ow, g1, g2⟩ := obj_rel h ho
          obtain ⟨cv', c', ow', k1, k2, _, k3⟩ := hv
          rw [g1] at k1; cases k1
          have hvc := k3 rfl
          subst hvc
          obtain ⟨_, ⟨f1, f2⟩ | ⟨bl, off, cap, cs, U, f1, f2, f3, f4, f5, f6⟩⟩ := g2
          · subst f2
            have : x = ([] : List e.den) := List.eq_nil_of_length_eq_zero hlen
            subst this
            exact ⟨[], none, 0, f1, ⟨by simp, by simp, by simp⟩, .inl ⟨rfl, rfl⟩⟩
          · have hs : off + List.length (α := e.den) x * e.sz ≤ cs.toList.length := by
              have hcl : off + cap * u.sz ≤ cs.toList.length := by simpa using f5
              rw [hlen, ← hsz]
              exact Nat.le_trans (Nat.add_le_add_left (Nat.mul_le_mul_right _ f3) _) hcl
            refine ⟨_, _, cap, by rw [hlen]; exact f1, rows_of hpos hs (fun i y hi => ?_), .inr ⟨bl, off, cs, U, _, rfl, f2, by simpa using hs, rfl⟩⟩
            obtain ⟨z, hz, hc⟩ := hel i y hi
            rw [← hsz]
            exact hc _ _ _ _ (f6 i z hz)
        · cases h2
      · rename_i cv u l ho
        obtain ⟨h1, h2⟩ := cond_some hr
        split at h2
        · rename_i x hx
          cases h2
          obtain ⟨_, _, hc⟩ := castTo_ok hx
          have := nbeq_true h1
          subst this
          obtain ⟨c, ow, g1, g2⟩ := obj_rel h ho
          obtain ⟨cv', c', ow', k1, k2, _, k3⟩ := hv
          rw [g1] at k1; cases k1
          have hvc := k3 rfl
          subst hvc
          exact slice_reads hpos (hc _ _ _ _ (fbuf_rep g2))
        · cases h2
      · obtain ⟨h1, h2⟩ := cond_some hr
        split at h2
        · rename_i x hx
          obtain ⟨e', he⟩ := castTy_some hx
          cases e'
        · cases h2
      · obtain ⟨h1, h2⟩ := cond_some hr
        split at h2
        · rename_i x hx
          obtain ⟨e', he⟩ := castTy_some hx
          cases e'
        · cases h2
      · rename_i ho
        exact absurd ho (by simpa using hncb _ _ _ _ _ _ _ _)
      · cases hr
  | pure t x =>
    have hr0 : (peekA E (.slice e) (.pure t x)).run st = some m := hr
    obtain ⟨vs, e1, e2⟩ := peekA_spec hE h hr0 hv
    simp only [peekB, peekA] at hr
    split at hr
    · rename_i y hy
      cases hr
      have := (e2 [] (by simp [ids])).2
      rw [frzL_nil] at this
      have hl := this.len
      match vs, hl with
      | [u], _ => rw [show v = u from e1]; exact slice_reads hpos this
    · cases hr
  | nils =>
    simp only [peekB, peekA] at hr
    cases hr
    exact ⟨[], none, 0, hv, ⟨by simp, by simp, by simp⟩, .inl ⟨rfl, rfl⟩⟩
  | fref f => cases hr
  | flt x => cases hr
  | nhand id ver => cases hr
  | nptr id ver e i => cases hr
  | nel id ver e i => cases hr
  | nelp id ver e i j => cases hr
  | oclo f t d id ver => cases hr
  | bptr id ver off => cases hr
  | pptr u x => cases hr
  | eptr id ver e i => cases hr
  | epart id ver e i o => cases hr
  | junk => cases hr
  | yld => cases hr

theorem run_firstCells {e : Ty} {l : List e.den} {v : Value} {news : List Value} {ok : Nat → Prop} (h : Reads P w ok e l v news) {w' : World} (hw : w'.heap = w.heap) :
    (Builtin.firstCells e.sz l.length v).run P w' = .ok news.toArray w' := by
  obtain ⟨ad, cap, h1, h2, h3⟩ := h
  subst h1
  rcases h3 with ⟨rfl, rfl⟩ | ⟨b, off, cs, T, fr, rfl, f2, f3, f4⟩
  · cases ad with
    | none => rfl
    | some ad => simp [Builtin.firstCells, loadCells, loadCellsFrom]
  · refine run_firstCells_some (P := P) w' e.sz l.length ⟨b, off, none⟩ l.length cap news h2.1 fun j v hj => ?_
    rw [addr_add]
    have : w'.cell? ⟨b, off + j, none⟩ = cs[off + j]? := cell_of_row w' b (off + j) cs T fr (by rw [hw]; exact f2)
    rw [this]
    rw [← f4] at hj
    obtain ⟨_, h5⟩ := chunk_get hj
    simpa using h5

theorem Reads.lenOf {e : Ty} {l : List e.den} {v : Value} {news : List Value} {ok : Nat → Prop} (h : Reads P w ok e l v news) : (Builtin.lenOf v).run P w = .ok l.length w := by
  obtain ⟨ad, cap, h1, _⟩ := h
  rw [h1]; rfl

theorem run_append_grown {T T' ty : Nat} {e : Ty} {i : TypeInfo} (hu : P.underlying T = some (.slice T')) (hi1 : P.info? T' = some i) (hi2 : i.size = e.sz) (hi3 : i.bytes ≤ 32768)
    (hi4 : i.zero = some (e.val (zeroVals e))) {l m : List e.den} {s x : Value} {olds news : List Value} {ok ok' : Nat → Prop} (hs : Reads P w ok e l s olds) (hx : Reads P w ok' e m x news) {ad : Option Addr} {cap : Nat} (hsv : s = .slice ad l.length cap)
    (hg : cap < l.length + m.length) (hm : l.length + m.length ≤ most) :
    (Builtin.append_ #[T, T] ty #[s, x]).run P w = .ok (.slice (some ⟨w.heap.size, 0, none⟩) (l.length + m.length) (grownCap w (l.length + m.length) cap T'))
      (w.drew.alloc (.cells (olds.toArray ++ (news.toArray ++ Builtin.zeroCells (e.val (zeroVals e)).cells (grownCap w (l.length + m.length) cap T' - (l.length + m.length)))) T')) := by
  have hfo := run_firstCells hs (w' := w.drew) rfl
  have hfn := run_firstCells hx (w' := w.drew) rfl
  obtain ⟨ad', cap', hxv, _⟩ := hx
  unfold most at hm
  have hn : ¬ (l.length + m.length ≤ cap) := by omega
  have h63' : ¬ (9223372036854775807 < ((l.length : Int) + (m.length : Int))) := by omega
  have h48' : ¬ (281474976710656 < Builtin.nextslicecap (l.length + m.length) cap * i.bytes) := by
    have := growslice_fits (need := l.length + m.length) (old := cap) (bytes := i.bytes) (by omega) (by
      have : (l.length + m.length) * i.bytes ≤ 4294967296 * 32768 := Nat.mul_le_mul hm hi3
      omega)
    omega
  subst hsv
  subst hxv
  simp [Builtin.append_, run_underlying hu, sizeOf, typeInfo, zeroValue, hi1, hi2, hi4, Builtin.lenOf, hn, h63', h48', Question.forced, hfo, hfn, newRow, grownCap]


theorem chunk_append_left {l m : List Value} {o n : Nat} (h : o + n ≤ l.length) : chunk (l ++ m) o n = chunk l o n := by
  unfold chunk
  rw [List.drop_append_of_le_length (by omega), List.take_append_of_le_length (by rw [List.length_drop]; omega)]

theorem chunk_append_right {l m : List Value} {o n : Nat} (h : l.length ≤ o) : chunk (l ++ m) o n = chunk m (o - l.length) n := by
  unfold chunk
  rw [List.drop_append, List.drop_of_length_le h, List.nil_append]

theorem RowRep.append {ok : Nat → Prop} {e : Ty} {l m : List e.den} {vs us : List Value} (h : RowRep P w ok e l vs) (h' : RowRep P w ok e m us) : RowRep P w ok e (l ++ m) (vs ++ us) := by
  refine ⟨by rw [List.length_append, List.length_append, h.1, h'.1, Nat.add_mul], ?_, fun i x hi => ?_⟩
  · intro v hv
    rcases List.mem_append.1 hv with hv | hv
    · exact h.2.1 v hv
    · exact h'.2.1 v hv
  · rw [List.getElem?_append] at hi
    split at hi
    · rename_i hlt
      rw [chunk_append_left]
      · exact h.2.2 i x hi
      · rw [h.1, ← Nat.succ_mul]; exact Nat.mul_le_mul_right _ hlt
    · rename_i hge
      have hge' : l.length ≤ i := by omega
      rw [chunk_append_right (by rw [h.1]; exact Nat.mul_le_mul_right _ hge'), h.1, ← Nat.sub_mul]
      exact h'.2.2 _ x hi

/-- The row of a buffer, and what stands behind it. -/
theorem RowRep.chunks {ok : Nat → Prop} {e : Ty} {l : List e.den} {vs us : List Value} (h : RowRep P w ok e l vs) : ∀ i x, l[i]? = some x → Rep P e w ok (chunk (vs ++ us) (i * e.sz) e.sz) x := by
  intro i x hi
  have hlt := (List.getElem?_eq_some_iff.1 hi).1
  rw [chunk_append_left]
  · exact h.2.2 i x hi
  · rw [h.1, ← Nat.succ_mul]; exact Nat.mul_le_mul_right _ hlt

theorem drew_heap : (w.drew).heap = w.heap := rfl

theorem keeps_grown (o : Obj) : Keeps w (w.drew.alloc o) := (Keeps.drew w).trans (Keeps.alloc _ o)

/-- A buffer in place of an older one. -/
theorem append_done (h : Mod P w0 conc st a w) {id cv d : Nat} {e : Ty} {l' : List e.den} {c c' : Value} {st' : ASt} {w' : World} (hc : conc id = some (cv, c, true))
    (hap : applyU st none ⟨some (d, ⟨[], true, .v (.hand id (cv + 1))⟩), [(id, (cv + 1, .buf e l'))]⟩ = some st')
    (hos : w'.os = w.os) (htape : w'.tape = w.tape) (hout : w'.output = w.output) (hsize : w.heap.size ≤ w'.heap.size)
    (hblocks : ∀ b, b < w.heap.size → ¬ hasB c b → w'.heap[b]? = w.heap[b]?)
    (hnew : ∀ b, hasB c' b → (w.heap.size ≤ b ∨ hasB c b) ∧ b < w'.heap.size) (hone : one c' = true)
    (hO : ∀ conc', Ext (okOf conc) w w' → Sub w (okOf conc) (okOf conc') → ORel P w' conc' (okOf conc') c' true (.buf e l')) : Models P w0 st' (a.put (some d) c') w' := by
  obtain ⟨conc2, k1, k2, _⟩ := h.obj (id := id) (ver := cv + 1) (c := c') (o := .buf e l') (w' := w') (fun cv' c0 ow hc' => by rw [hc] at hc'; cases hc'; exact .inl (Nat.lt_succ_self _)) hos htape hout hsize
    (fun b hb hne => hblocks b hb fun e => hne cv c hc e) (fun b hb => ⟨(hnew b hb).1.imp_right fun q => ⟨cv, c, hc, q⟩, (hnew b hb).2⟩) (fun conc' _ _ g2 g3 _ => hO conc' g2 g3)
  exact slot_done (W0 := [(id, (cv + 1, .buf e l'))]) (d := some d) (s := .v (.hand id (cv + 1))) k1 hap ⟨cv + 1, c', true, k2, Nat.le_refl _, hone, fun _ => rfl⟩

end Go.Abs

set_option linter.unusedSimpArgs false
set_option linter.unusedVariables false
namespace Go.Abs
open Go
variable {P : Program} {E : Env} {w0 : Start} {w : World} {conc : Conc} {st : ASt} {a : Act}

theorem run_append_room {T T' ty : Nat} {e : Ty} {i : TypeInfo} (hu : P.underlying T = some (.slice T')) (hi1 : P.info? T' = some i) (hi2 : i.size = e.sz)
    {m : List e.den} {n cap b U : Nat} {cs : Array Value} {x : Value} {news : List Value} {ok' : Nat → Prop} (hb : w.heap[b]? = some (.cells cs U (0, 0))) (hx : Reads P w ok' e m x news)
    {off : Nat} (hg : n + m.length ≤ cap) (hs : off + cap * e.sz ≤ cs.size) :
    (Builtin.append_ #[T, T] ty #[.slice (some ⟨b, off, none⟩) n cap, x]).run P w = .ok (.slice (some ⟨b, off, none⟩) (n + m.length) cap)
      (w.setRow b (cs.toList.take (off + n * e.sz) ++ news ++ cs.toList.drop (off + n * e.sz + news.length)).toArray) := by
  have hfn := run_firstCells hx (w' := w) rfl
  obtain ⟨ad', cap', hxv, hrow, _⟩ := hx
  have hst := run_storeCells_at P b (off + n * e.sz) U news 0 cs w hb (by
    rw [Nat.add_zero, hrow.1, Nat.add_assoc, ← Nat.add_mul]; exact Nat.le_trans (Nat.add_le_add_left (Nat.mul_le_mul_right _ hg) _) hs) (fun v hv => one_oneCell (hrow.2.1 v hv))
  simp only [Nat.add_zero] at hst
  subst hxv
  simp [Builtin.append_, run_underlying hu, sizeOf, typeInfo, hi1, hi2, Builtin.lenOf, hg, hfn, addr_add, hst]

theorem run_append_empty {T T' ty : Nat} {e : Ty} {i : TypeInfo} (hu : P.underlying T = some (.slice T')) (hi1 : P.info? T' = some i) (hi2 : i.size = e.sz)
    {m : List e.den} {x : Value} {news : List Value} {ok' : Nat → Prop} (hx : Reads P w ok' e m x news) (hm : m = []) :
    (Builtin.append_ #[T, T] ty #[.slice none 0 0, x]).run P w = .ok (.slice none 0 0) w := by
  have hfn := run_firstCells hx (w' := w) rfl
  obtain ⟨ad', cap', hxv, hrow, _⟩ := hx
  subst hm
  subst hxv
  simp only [List.length_nil] at hfn ⊢
  simp [Builtin.append_, run_underlying hu, sizeOf, typeInfo, hi1, hi2, Builtin.lenOf, hfn]

/-- A row of zeros has a size. -/
theorem zeroCells_size {e : Ty} (hpos : 0 < e.sz) (n : Nat) : (Builtin.zeroCells (e.val (zeroVals e)).cells n).size = n * (e.val (zeroVals e)).cells.size := size_zeroCells _ _

theorem val_size (t : Ty) (hp : 0 < t.sz) : (t.val (zeroVals t)).cells.size = t.sz := by
  by_cases h : t.isPair = true
  · have : (t.val (zeroVals t)).cells = (zeroVals t).toArray := by simp [Ty.val, h, Value.cells]
    rw [this]; simpa using zero_len t
  · cases t <;> first | rfl | exact absurd rfl h | cases hp

theorem append_hand_ok (hE : EnvOK P E) (h : Mod P w0 conc st a w) {o : Oper} {T d id cv : Nat} {e : Ty} {s x : Operand} {l : List e.den} {b : AVal} {m : List e.den × W}
    (hop : o.op = .call { callee := .builtin .append, args := #[s, x], argTypes := #[T, T] }) (hd : o.dst = some d) (hT : ∃ T', P.underlying T = some (.slice T') ∧ ElOK P T' e) (hs : (rdA [] s).run st = some (.hand id cv))
    (ho : Map.get st.heap id = some (cv, .buf e l)) (hb : (rdA [] x).run st = some b) (hm : (peekB E (.slice e) b).run st = some m) (hlen : l.length + List.length (α := e.den) m.1 ≤ most) {st' : ASt}
    (hap : applyU st none ⟨some (d, ⟨[], true, .v (.hand id (cv + 1))⟩), [(id, (cv + 1, .buf e (l ++ m.1)))]⟩ = some st') : OpOK P w0 o a w st' := by
  obtain ⟨T', hu, i, hi1, hi2, hi3, hi4, hpos⟩ := hT
  obtain ⟨c, ow, g1, g2⟩ := obj_rel h ho
  obtain ⟨cv', c', ow', k1, _, _, k3⟩ := rdA_rel h (labs_nil _) hs
  rw [g1] at k1; cases k1
  have hsv := k3 rfl
  subst hsv
  obtain ⟨news, hx⟩ := elems_spec hE h hpos hm (rdA_rel h (labs_nil _) hb)
  have hnr := hx
  obtain ⟨_, _, _, hrow, _⟩ := hnr
  have exec : ∀ v w', (Builtin.append_ #[T, T] o.type #[a.eval s, a.eval x]).run P w = .ok v w' → (execOp a.eval o).run P w = .ok (.value v) w' := by
    intro v w' hr
    simp only [execOp, hop, resolve, invoke, builtin, pure_bind, List.map_toArray, List.map_cons, List.map_nil]
    rw [Sem.run_bind, hr]; rfl
  obtain ⟨how, g2⟩ := g2
  subst how
  have grown : ∀ {ad : Option Addr} {cap : Nat} {olds : List Value}, a.eval s = .slice ad l.length cap → Reads P w (okOf conc) e l (a.eval s) olds → cap < l.length + List.length m.1 →
      (∀ bl, ad.map (·.block) = some bl → True) → (blockOf (a.eval s) = ad.map (·.block)) → OpOK P w0 o a w st' := by
    intro ad cap olds hv hr hg _ hbl
    have hrun := run_append_grown (ty := o.type) hu hi1 hi2 hi3 hi4 hr hx hv hg hlen
    have hge := grownCap_ge w (l.length + List.length m.1) cap T'
    have hle := grownCap_le_maxLen w (l.length + List.length m.1) cap T' (by unfold maxLen; unfold most at hlen; omega)
    refine OpOK.value (exec _ _ hrun) ?_
    rw [hd]
    obtain ⟨_, _, _, hrow0, _⟩ := hr
    have hrows := hrow0.append hrow
    refine append_done h (c := a.eval s) g1 hap rfl rfl rfl (keeps_grown _).size (fun bb hb1 _ => (keeps_grown _).block bb hb1) (fun bb hb1 => ?_) rfl (fun conc' q1 q2 => ?_)
    · cases hb1
      refine ⟨.inl (Nat.le_refl _), ?_⟩
      simp
    · refine ⟨rfl, .inr ⟨w.heap.size, 0, _, _, T', by rw [List.length_append], heap_alloc_new w.drew _, by rw [List.length_append]; exact hge, hle, ?_, ?_⟩⟩
      · simp only [Array.size_append, List.size_toArray, zeroCells_size hpos, val_size e hpos, hrow0.1, hrow.1]
        rw [← Nat.add_mul, ← Nat.add_mul, Nat.zero_add]
        refine Nat.mul_le_mul_right _ ?_
        omega
      · intro j y hj
        rw [Nat.zero_add]
        have e1 : (olds.toArray ++ (news.toArray ++ Builtin.zeroCells (e.val (zeroVals e)).cells (grownCap w (l.length + List.length m.1) cap T' - (l.length + List.length m.1)))).toList =
            (olds ++ news) ++ (Builtin.zeroCells (e.val (zeroVals e)).cells (grownCap w (l.length + List.length m.1) cap T' - (l.length + List.length m.1))).toList := by simp [List.append_assoc]
        rw [e1]
        refine (hrows.chunks j y hj).mono e (Keeps.ext (keeps_grown _) _) ?_
        exact q2
  rcases g2 with ⟨f1, f2⟩ | ⟨bl, off, cap, cs, U, f1, f2, f3, f4, f5, f6⟩
  · subst f2
    by_cases hm0 : m.1 = []
    · have hrun := run_append_empty (ty := o.type) hu hi1 hi2 hx hm0
      rw [← f1] at hrun
      refine OpOK.value (exec _ _ hrun) ?_
      rw [hd]
      refine append_done h (c := a.eval s) g1 hap rfl rfl rfl (Nat.le_refl _) (fun _ _ _ => rfl) (fun bb hb1 => ?_) (by rw [f1]; rfl) (fun conc' q1 q2 => ⟨rfl, .inl ⟨f1, by rw [hm0]; rfl⟩⟩)
      rw [f1] at hb1; cases hb1
    · refine grown (olds := []) f1 ⟨none, 0, f1, ⟨by simp, by simp, by simp⟩, .inl ⟨rfl, rfl⟩⟩ ?_ (fun _ _ => trivial) (by rw [f1]; rfl)
      have := List.length_pos_iff.2 hm0
      simpa using this
  · by_cases hroom : l.length + List.length m.1 ≤ cap
    · have hrun := run_append_room (ty := o.type) (n := l.length) hu hi1 hi2 f2 hx hroom f5
      rw [← f1] at hrun
      have hbase := h.base id cv (a.eval s) bl g1 (by rw [f1]; rfl)
      have hle : off + l.length * e.sz + news.length ≤ cs.toList.length := by
        have hcl : off + cap * e.sz ≤ cs.toList.length := by simpa using f5
        refine Nat.le_trans ?_ hcl
        rw [hrow.1, Nat.add_assoc, ← Nat.add_mul]; exact Nat.add_le_add_left (Nat.mul_le_mul_right _ hroom) _
      refine OpOK.value (exec _ _ hrun) ?_
      rw [hd]
      refine append_done h (c := a.eval s) g1 hap rfl rfl rfl (by simp) (fun bb hb1 hne => setRow_other w bl bb _ (fun q => hne (by rw [f1, q]; rfl))) (fun bb hb1 => ?_) rfl (fun conc' q1 q2 => ?_)
      · cases hb1
        exact ⟨.inr (by rw [f1]; rfl), by simpa using hbase.2⟩
      · refine ⟨rfl, .inr ⟨bl, off, cap, _, U, by rw [List.length_append], setRow_heap w bl cs _ U (0, 0) f2, by rw [List.length_append]; exact hroom, f4, ?_, ?_⟩⟩
        · simp only [List.size_toArray, List.length_append, List.length_take, List.length_drop]
          have hcl : off + cap * e.sz ≤ cs.toList.length := by simpa using f5
          omega
        · intro j y hj
          have h0 : RowRep P w (okOf conc) e l (chunk cs.toList off (l.length * e.sz)) := rows_of hpos (by omega) (fun i x hi => f6 i x hi)
          have e1 : cs.toList.take (off + l.length * e.sz) = cs.toList.take off ++ chunk cs.toList off (l.length * e.sz) := by unfold chunk; rw [List.take_add]
          have := (h0.append hrow).chunks (us := cs.toList.drop (off + l.length * e.sz + news.length)) j y hj
          have hto : (cs.toList.take off).length = off := by rw [List.length_take]; omega
          have e2 : chunk (cs.toList.take (off + l.length * e.sz) ++ news ++ cs.toList.drop (off + l.length * e.sz + news.length)) (off + j * e.sz) e.sz =
              chunk (chunk cs.toList off (l.length * e.sz) ++ news ++ cs.toList.drop (off + l.length * e.sz + news.length)) (j * e.sz) e.sz := by
            rw [e1, List.append_assoc, List.append_assoc, chunk_append_right (by rw [hto]; omega), hto, Nat.add_sub_cancel_left, ← List.append_assoc]
          rw [← e2] at this
          exact this.mono e q1 q2
    · have hs' : off + l.length * e.sz ≤ cs.toList.length := by
        have hcl : off + cap * e.sz ≤ cs.toList.length := by simpa using f5
        exact Nat.le_trans (Nat.add_le_add_left (Nat.mul_le_mul_right _ f3) _) hcl
      refine grown f1 ⟨_, cap, f1, rows_of hpos hs' (fun i x hi => f6 i x hi), .inr ⟨bl, off, cs, U, _, rfl, f2, by simpa using hs', rfl⟩⟩ (by omega) (fun _ _ => trivial) (by rw [f1]; rfl)

end Go.Abs

set_option linter.unusedSimpArgs false
set_option linter.unusedVariables false
namespace Go.Abs
open Go
variable {P : Program} {E : Env} {w0 : Start} {w : World} {conc : Conc} {st : ASt} {a : Act}

theorem append_nils_ok (hE : EnvOK P E) (h : Mod P w0 conc st a w) {o : Oper} {T d : Nat} {e : Ty} {s x : Operand} {b : AVal} {m : List e.den × W}
    (hop : o.op = .call { callee := .builtin .append, args := #[s, x], argTypes := #[T, T] }) (hd : o.dst = some d) (hT : E.ty T = some (.slice e)) (hs : (rdA [] s).run st = some .nils)
    (hb : (rdA [] x).run st = some b) (hm : (peekB E (.slice e) b).run st = some m) (hlen : List.length (α := e.den) m.1 ≤ most) {u : Upd} {st' : ASt}
    (hr : (newObj d (.buf e m.1) (.hand d) []).run st = some u) (hap : applyU st none u = some st') : OpOK P w0 o a w st' := by
  obtain ⟨T', hu, i, hi1, hi2, hi3, hi4, hpos⟩ := elem_of hE hT
  have hsv : a.eval s = .slice none 0 0 := rdA_rel h (labs_nil _) hs
  obtain ⟨news, hx⟩ := elems_spec hE h hpos hm (rdA_rel h (labs_nil _) hb)
  have hnr := hx
  obtain ⟨_, _, _, hrow, _⟩ := hnr
  have exec : ∀ v w', (Builtin.append_ #[T, T] o.type #[a.eval s, a.eval x]).run P w = .ok v w' → (execOp a.eval o).run P w = .ok (.value v) w' := by
    intro v w' hr
    simp only [execOp, hop, resolve, invoke, builtin, pure_bind, List.map_toArray, List.map_cons, List.map_nil]
    rw [Sem.run_bind, hr]; rfl
  by_cases hm0 : m.1 = []
  · have hrun := run_append_empty (ty := o.type) hu hi1 hi2 hx hm0
    rw [← hsv] at hrun
    refine OpOK.value (exec _ _ hrun) ?_
    rw [hd]
    refine new_done h (FrzW.none P conc st w) hr hap (Keeps.refl w) (fun b hb => by rw [hsv] at hb; cases hb) (fun conc' g1 g2 g3 => ⟨rfl, .inl ⟨hsv, hm0⟩⟩)
      (fun conc' ver hc => ⟨ver, _, true, hc, Nat.le_refl _, by rw [hsv]; rfl, fun _ => rfl⟩)
  · have hpm := List.length_pos_iff.2 hm0
    have hr0 : Reads P w (okOf conc) e [] (a.eval s) [] := ⟨none, 0, hsv, ⟨by simp, by simp, by simp⟩, .inl ⟨rfl, rfl⟩⟩
    have hrun := run_append_grown (ty := o.type) hu hi1 hi2 hi3 hi4 hr0 hx (ad := none) (cap := 0) hsv (by simpa using hpm) (by simpa using hlen)
    simp only [List.length_nil, Nat.zero_add] at hrun
    have hge := grownCap_ge w (List.length m.1) 0 T'
    have hle := grownCap_le_maxLen w (List.length m.1) 0 T' (by unfold maxLen; unfold most at hlen; omega)
    refine OpOK.value (exec _ _ hrun) ?_
    rw [hd]
    refine buf_new (U := T') (b := w.heap.size) h (FrzW.none P conc st w) hr hap hge hle ?_ (keeps_grown _) (Nat.le_refl _) (heap_alloc_new w.drew _) ?_
    · simp only [Array.size_append, List.size_toArray, zeroCells_size hpos, val_size e hpos, hrow.1, List.length_nil, Nat.zero_mul, Nat.zero_add]
      rw [← Nat.add_mul]
      congr 1
      omega
    · intro j y hj
      have e1 : ((#[] : Array Value) ++ (news.toArray ++ Builtin.zeroCells (e.val (zeroVals e)).cells (grownCap w (List.length m.1) 0 T' - List.length m.1))).toList =
          news ++ (Builtin.zeroCells (e.val (zeroVals e)).cells (grownCap w (List.length m.1) 0 T' - List.length m.1)).toList := by simp
      rw [e1]
      refine (hrow.chunks j y hj).mono e (Keeps.ext (keeps_grown _) _) ?_
      intro b hb hlt
      exact ⟨.inl (by rw [show ids [] = [] from rfl, frzL_nil]; exact hb), by omega⟩

theorem store_box_ok (hE : EnvOK P E) (h : Mod P w0 conc st a w) {o : Oper} {T id cv off : Nat} {t u : Ty} {ad x : Operand} {cells l : List AVal} {s : SVal} (hop : o.op = .store T ad x) (hd : o.dst = none)
    (hT : E.ty T = some t) (ha : (rdA [] ad).run st = some (.bptr id cv off)) (hx : (rd [] x).run st = some s) (hl : s.cells.run st = some l) (ho : Map.get st.heap id = some (cv, .box u cells))
    (h1 : l.length = t.sz) (h2 : off + t.sz ≤ cells.length) {st' : ASt} (hap : applyU st none ⟨none, [(id, (cv, .box u (splice cells off l)))]⟩ = some st') : OpOK P w0 o a w st' := by
  obtain ⟨te, rfl, hok⟩ := hE.tyOK hT
  obtain ⟨c, ow, g1, g2⟩ := obj_rel h ho
  obtain ⟨cv', c', ow', k1, _, _, k3⟩ := rdA_rel h (labs_nil _) ha
  rw [g1] at k1; cases k1
  obtain ⟨b, e1, e2⟩ := k3 rfl
  obtain ⟨rfl, b', cs, U, f1, f2, f3, f4, f5⟩ := g2
  rw [e1] at f1; cases f1
  obtain ⟨vs, q1, q2, q3⟩ := cells_spec hl (rd_rel h (labs_nil _) hx)
  have hlv := q3.length
  have hlc := f5.length
  have hrun := run_store hok (off := off) f2 q1 q2 (by omega) (by rw [← Array.length_toList, ← hlc]; exact h2)
  refine OpOK.skip (w' := w.setRow b (cs.toList.take off ++ vs ++ cs.toList.drop (off + te.ty.sz)).toArray) ?_ ?_
  · simp only [execOp, hop, e2]
    rw [Sem.run_bind, hrun]; rfl
  · rw [hd]
    refine set_done (W0 := []) h (FrzW.none P conc st w) (id := id) (cv := cv) (c := c) (by rw [show ids [] = [] from rfl, frzL_nil]; exact g1) (by rw [e1]; rfl) hap (fun conc' w' r1 r2 r3 r4 => ?_)
    rw [show ids [] = [] from rfl, frzL_nil] at r1 r2 r3
    subst r4
    refine ⟨rfl, b, _, U, e1, setRow_heap w b cs _ U (0, 0) f2, ?_, ?_, ?_⟩
    · unfold splice
      simp only [List.length_append, List.length_take, List.length_drop]
      omega
    · intro v hv
      simp only [List.mem_append] at hv
      rcases hv with (hv | hv) | hv
      · exact f4 v (List.mem_of_mem_take hv)
      · exact q2 v hv
      · exact f4 v (List.mem_of_mem_drop hv)
    · have := (f5.splice off te.ty.sz q3).imp fun x v hx => VRel.mono r2 r3 r1 x hx
      unfold splice
      rw [h1]
      simpa using this

theorem seti_some {α : Type} {l l' : List α} {i : Int} {x : α} (h : seti l i x = some l') : 0 ≤ i ∧ i.toNat < l.length ∧ l' = l.set i.toNat x := by
  unfold seti at h
  split at h
  · rename_i hc; cases h; exact ⟨hc.1, hc.2, rfl⟩
  · cases h

theorem store_elem_ok (hE : EnvOK P E) (h : Mod P w0 conc st a w) {o : Oper} {T id cv : Nat} {e : Ty} {i : Int} {ad x : Operand} {l l' : List e.den} {s : SVal} {d : e.den × W} (hop : o.op = .store T ad x) (hd : o.dst = none)
    (hT : E.ty T = some e) (ha : (rdA [] ad).run st = some (.eptr id cv e i)) (hx : (rd [] x).run st = some s) (hl : (peek E e s).run st = some d) (ho : Map.get st.heap id = some (cv, .buf e l))
    (hn : id ∉ ids d.2) (hset : seti l i d.1 = some l') {st' : ASt} (hap : applyU st none ⟨none, d.2 ++ [(id, (cv, .buf e l'))]⟩ = some st') : OpOK P w0 o a w st' := by
  obtain ⟨te, rfl, hok⟩ := hE.tyOK hT
  obtain ⟨i1, i2, rfl⟩ := seti_some hset
  obtain ⟨c, ow, g1, g2⟩ := obj_rel h ho
  obtain ⟨cv', c', ow', k1, _, _, k3⟩ := rdA_rel h (labs_nil _) ha
  rw [g1] at k1; cases k1
  obtain ⟨b, off, n, cap, e1, _, e2⟩ := k3 rfl
  obtain ⟨rfl, ⟨f1, f2⟩ | ⟨b', off', cap', cs, U, f1, f2, f3, f4, f5, f6⟩⟩ := g2
  · rw [e1] at f1; cases f1
  · rw [e1] at f1; cases f1
    obtain ⟨us, q1, q2⟩ := peek_spec hE h hl (rd_rel h (labs_nil _) hx)
    have hp := q2 (ids d.2) fun _ h => h
    have hle : (off + i.toNat * te.ty.sz) + te.ty.sz ≤ cs.toList.length := by
      have hcl : off + cap * te.ty.sz ≤ cs.toList.length := by simpa using f5
      refine Nat.le_trans ?_ hcl
      rw [Nat.add_assoc, ← Nat.succ_mul]; exact Nat.add_le_add_left (Nat.mul_le_mul_right _ (by omega)) _
    have hcells := val_cells' hok.pos hp.2
    rw [← q1] at hcells
    have hrun := run_store hok (off := off + i.toNat * te.ty.sz) f2 hcells (Rep.ones _ hp.2) hp.2.len (by simpa using hle)
    refine OpOK.skip (w' := w.setRow b (cs.toList.take (off + i.toNat * te.ty.sz) ++ us ++ cs.toList.drop (off + i.toNat * te.ty.sz + te.ty.sz)).toArray) ?_ ?_
    · simp only [execOp, hop, e2]
      rw [Sem.run_bind, hrun]; rfl
    · rw [hd]
      have hfz : frzL conc (ids d.2) id = some (cv, c, true) := by simp [frzL, g1, hn]
      refine set_done (W0 := d.2) h hp.1 (id := id) (cv := cv) (c := c) hfz (by rw [e1]; rfl) hap (fun conc' w' r1 r2 r3 r4 => ?_)
      subst r4
      refine ⟨rfl, .inr ⟨b, off, cap, _, U, by rw [e1, List.length_set], setRow_heap w b cs _ U (0, 0) f2, by rw [List.length_set]; exact f3, f4, ?_, fun j y hj => ?_⟩⟩
      · have hus := hp.2.len
        have hcl : off + cap * te.ty.sz ≤ cs.toList.length := by simpa using f5
        simp only [List.size_toArray, List.length_append, List.length_take, List.length_drop]
        omega
      · by_cases hij : i.toNat = j
        · subst hij
          rw [List.getElem?_set_self i2] at hj
          cases hj
          show Rep P te.ty _ _ (chunk (cs.toList.take (off + i.toNat * te.ty.sz) ++ us ++ cs.toList.drop (off + i.toNat * te.ty.sz + te.ty.sz)) _ _) _
          rw [chunk_splice_same hle hp.2.len]
          exact hp.2.mono te.ty r2 r3
        · rw [List.getElem?_set_ne hij] at hj
          have : chunk (cs.toList.take (off + i.toNat * te.ty.sz) ++ us ++ cs.toList.drop (off + i.toNat * te.ty.sz + te.ty.sz)) (off + j * te.ty.sz) te.ty.sz = chunk cs.toList (off + j * te.ty.sz) te.ty.sz := by
            refine chunk_splice_other hle hp.2.len ?_
            rcases Nat.lt_or_gt_of_ne hij with hlt | hlt
            · right
              rw [Nat.add_assoc, ← Nat.succ_mul]; exact Nat.add_le_add_left (Nat.mul_le_mul_right _ hlt) _
            · left
              rw [Nat.add_assoc, ← Nat.succ_mul]; exact Nat.add_le_add_left (Nat.mul_le_mul_right _ hlt) _
          show Rep P te.ty _ _ (chunk (cs.toList.take (off + i.toNat * te.ty.sz) ++ us ++ cs.toList.drop (off + i.toNat * te.ty.sz + te.ty.sz)) _ _) _
          rw [this]
          exact ((f6 j y hj).frz _).mono te.ty r2 r3

/-- The open field of an element is stored. -/
theorem store_cbuf_ok (hE : EnvOK P E) (h : Mod P w0 conc st a w) {o : Oper} {T id cv j v j' v' : Nat} {ta tu te : Ty} {i : Int} {ad x : Operand} {l : List (ta.den × Option (List tu.den) × te.den)} (hop : o.op = .store T ad x) (hd : o.dst = none)
    (hT : E.ty T = some (.slice tu)) (ha : (rdA [] ad).run st = some (.epart id cv (cellTy ta tu te) i ta.sz)) (hx : (rd [] x).run st = some (.v (.hand j' v'))) (ho : Map.get st.heap id = some (cv, .cbuf ta tu te l i j v))
    {z : (cellTy ta tu te).den} (hz : geti (α := (cellTy ta tu te).den) l i = some z) {st' : ASt} (hap : applyU st none ⟨none, [(id, (cv, .cbuf ta tu te l i j' v'))]⟩ = some st') : OpOK P w0 o a w st' := by
  obtain ⟨tE, hte, hok⟩ := hE.tyOK hT
  have hsz : tE.ty.sz = 1 := by rw [hte]; rfl
  obtain ⟨i1, i2⟩ : 0 ≤ i ∧ i.toNat < l.length := by
    unfold geti at hz
    split at hz
    · rename_i h0
      exact ⟨h0, (List.getElem?_eq_some_iff.1 hz).1⟩
    · cases hz
  obtain ⟨c, ow, g1, g2⟩ := obj_rel h ho
  obtain ⟨cv', c', ow', k1, _, _, k3⟩ := rdA_rel h (labs_nil _) ha
  rw [g1] at k1; cases k1
  obtain ⟨b, off, n, cap, e1, _, e2⟩ := k3 rfl
  obtain ⟨rfl, b', off', cap', cs, U, f1, f2, f3, f4, f5, f6⟩ := g2
  rw [e1] at f1; cases f1
  obtain ⟨vs, q1, q2, q3⟩ := cells_spec (st := st) (l := [.hand j' v']) rfl (rd_rel h (labs_nil _) hx)
  obtain ⟨y, rfl⟩ : ∃ y, vs = [y] := by
    match vs, q3 with
    | [y], _ => exact ⟨y, rfl⟩
  have hS : (cellTy ta tu te).sz = ta.sz + (1 + te.sz) := rfl
  generalize hSS : (cellTy ta tu te).sz = S at *
  have hmul : (i.toNat + 1) * S ≤ cap * S := Nat.mul_le_mul_right _ (by omega)
  rw [Nat.succ_mul] at hmul
  have hlt : off + i.toNat * S + ta.sz < cs.size := by omega
  have hrun := run_store hok (off := off + i.toNat * S + ta.sz) f2 q1 q2 (by rw [hsz]; rfl) (by rw [hsz]; omega)
  rw [hsz] at hrun
  have hset : cs.toList.take (off + i.toNat * S + ta.sz) ++ [y] ++ cs.toList.drop (off + i.toNat * S + ta.sz + 1) = cs.toList.set (off + i.toNat * S + ta.sz) y := by
    rw [List.set_eq_take_append_cons_drop, if_pos (by simpa using hlt)]
    simp
  refine OpOK.skip (w' := w.setRow b (cs.toList.take (off + i.toNat * S + ta.sz) ++ [y] ++ cs.toList.drop (off + i.toNat * S + ta.sz + 1)).toArray) ?_ ?_
  · simp only [execOp, hop, e2]
    rw [Sem.run_bind, hrun]; rfl
  · rw [hd]
    refine set_done (W0 := []) h (FrzW.none P conc st w) (id := id) (cv := cv) (c := c) (by rw [show ids [] = [] from rfl, frzL_nil]; exact g1) (by rw [e1]; rfl) hap (fun conc' w' r1 r2 r3 r4 => ?_)
    rw [show ids [] = [] from rfl, frzL_nil] at r1 r2 r3
    subst r4
    have hle : (off + i.toNat * S + ta.sz) + 1 ≤ cs.toList.length := by rw [Array.length_toList]; exact hlt
    refine ⟨rfl, b, off, cap, _, U, e1, setRow_heap w b cs _ U (0, 0) f2, f3, f4, ?_, fun k x hk => ?_⟩
    · rw [hSS]
      simp only [List.size_toArray, List.length_append, List.length_take, List.length_drop, List.length_cons, List.length_nil]
      simp only [Array.length_toList] at hle ⊢
      omega
    · obtain ⟨p1, p2, y0, p3, p4, p5⟩ := f6 k x hk
      rw [hSS]
      have hne : k ≠ i.toNat → (k + 1) * S ≤ i.toNat * S ∨ (i.toNat + 1) * S ≤ k * S := fun hn => by
        rcases Nat.lt_or_gt_of_ne hn with hn | hn
        · exact .inl (Nat.mul_le_mul_right _ hn)
        · exact .inr (Nat.mul_le_mul_right _ hn)
      simp only [Nat.succ_mul] at hne
      have ha1 : chunk (cs.toList.take (off + i.toNat * S + ta.sz) ++ [y] ++ cs.toList.drop (off + i.toNat * S + ta.sz + 1)) (off + k * S) ta.sz = chunk cs.toList (off + k * S) ta.sz :=
        chunk_splice_other hle rfl (by
          by_cases hn : k = i.toNat
          · subst hn; left; omega
          · rcases hne hn with hn | hn <;> omega)
      have ha2 : chunk (cs.toList.take (off + i.toNat * S + ta.sz) ++ [y] ++ cs.toList.drop (off + i.toNat * S + ta.sz + 1)) (off + k * S + ta.sz + 1) te.sz = chunk cs.toList (off + k * S + ta.sz + 1) te.sz :=
        chunk_splice_other hle rfl (by
          by_cases hn : k = i.toNat
          · subst hn; right; omega
          · rcases hne hn with hn | hn <;> omega)
      show Rep P ta _ _ (chunk (cs.toList.take (off + i.toNat * S + ta.sz) ++ [y] ++ cs.toList.drop (off + i.toNat * S + ta.sz + 1)) (off + k * S) ta.sz) x.1 ∧
        Rep P te _ _ (chunk (cs.toList.take (off + i.toNat * S + ta.sz) ++ [y] ++ cs.toList.drop (off + i.toNat * S + ta.sz + 1)) (off + k * S + ta.sz + 1) te.sz) x.2.2 ∧ _
      rw [ha1, ha2]
      refine ⟨p1.mono ta r2 r3, p2.mono te r2 r3, ?_⟩
      by_cases hn : k = i.toNat
      · subst hn
        refine ⟨y, ?_, fun hn => absurd (Int.toNat_of_nonneg i1) hn, fun _ => VRel.mono r2 r3 r1 _ q3.1⟩
        rw [List.getElem?_toArray, hset, List.getElem?_set_self (by simpa using hlt)]
      · refine ⟨y0, ?_, fun hn' => (p4 hn').mono _ r2 r3, fun hi => absurd (by omega) hn⟩
        rw [List.getElem?_toArray, hset, List.getElem?_set_ne (by
          rcases hne hn with hn | hn <;> omega)]
        rw [Array.getElem?_toList]
        exact p3

/-! Arguments and captured variables. -/

def PackedA (P : Program) (conc : Conc) (st : ASt) (w : World) (ts : List Ty) (x : denL ts) (vs : List Value) (l : W) : Prop :=
  ∀ F, (∀ id ∈ ids l, id ∈ F) → FrzW P conc st w F l ∧ ArgsRep P w (okOf (frzL conc F)) ts vs x

theorem PtrRep.frz {t : Ty} {v : Value} {d : t.den} (h : PtrRep P w (okOf conc) t v d) (F : List Nat) : PtrRep P w (okOf (frzL conc F)) t v d := by
  obtain ⟨b, off, cs, T, fr, h1, h2, h3, h4, h5⟩ := h
  exact ⟨b, off, cs, T, fr, h1, frzL_sub w conc F b h2 (Array.getElem?_eq_some_iff.1 h3).1, h3, h4, h5.frz F⟩

theorem map_some {α β : Type} {m : Option α} {f : α → β} {y : β} (h : m.map f = some y) : ∃ x, m = some x ∧ y = f x := by
  cases m with
  | none => cases h
  | some x => exact ⟨x, rfl, by cases h; rfl⟩

theorem capA_spec (hE : EnvOK P E) (h : Mod P w0 conc st a w) {t : Ty} {b : AVal} {v : Value} {d : t.den × W} (hr1 : (capA E t b).run st = some d) (hv : VRel P w conc (okOf conc) b v) :
    ∀ F, (∀ id ∈ ids d.2, id ∈ F) → FrzW P conc st w F d.2 ∧ PtrRep P w (okOf (frzL conc F)) t v d.1 := by
  unfold capA at hr1
  split at hr1
  · rename_i u y
    obtain ⟨z, hz, rfl⟩ := map_some (RM.ofOpt_some hr1)
    obtain ⟨e', he⟩ := castTy_some hz
    subst e'
    subst he
    intro F _
    exact ⟨FrzW.nil, PtrRep.frz hv F⟩
  · rename_i id ver
    simp only [RM.run] at hr1
    split at hr1
    · rename_i cv u cells ho
      obtain ⟨k1, hr2⟩ := cond_some hr1
      have := nbeq_true k1
      subst this
      obtain ⟨p, k2, hr3⟩ := RM.bind_some hr2
      split at hr3
      · rename_i hnil
        obtain ⟨z, hz, rfl⟩ := map_some (RM.ofOpt_some hr3)
        obtain ⟨e', he⟩ := castTy_some hz
        subst e'
        subst he
        obtain ⟨c, ow, q1, q2⟩ := obj_rel h ho
        obtain ⟨cv', c', ow', r1, _, _, r3⟩ := hv
        rw [q1] at r1; cases r1
        obtain ⟨bl, e1, e2⟩ := r3 rfl
        obtain ⟨how, bl', cs, U, f1, f2, f3, f4, f5⟩ := q2
        rw [e1] at f1; cases f1
        subst how
        obtain ⟨us, ws, m1, m2, m3⟩ := implode_spec hE h u k2 f5 f4
        rw [hnil] at m3
        cases ws with
        | cons _ _ => exact m3.elim
        | nil =>
          rw [List.append_nil] at m1
          intro F hF
          have hidF : id ∈ F := hF id (by rw [ids_append]; exact List.mem_append_right _ (by simp [ids]))
          obtain ⟨n1, n2⟩ := m2 F fun j hj => hF j (by rw [ids_append]; exact List.mem_append_left _ hj)
          have hok := okOf_frz h hidF q1 (b := bl) (by rw [e1]; rfl)
          have hlen := n2.len
          have hch : chunk cs.toList 0 u.sz = us := by
            unfold chunk
            rw [m1, List.drop_zero, List.take_of_length_le (by omega)]
          have hsz : u.sz ≤ cs.size := by rw [← Array.length_toList, m1]; omega
          refine ⟨n1.append ?_, bl, 0, cs, U, _, e2, hok, f2, by omega, by rw [hch]; exact n2⟩
          intro j cv' o hm
          simp only [List.mem_singleton, Prod.mk.injEq] at hm
          obtain ⟨rfl, rfl, rfl⟩ := hm
          exact ⟨⟨_, ho⟩, c, q1, rfl, bl, cs, U, _, e1, hok, f2, hsz, by rw [hch]; exact n2⟩
      · cases hr3
    · rename_i cv u y ho
      obtain ⟨k1, hr2⟩ := cond_some hr1
      have := nbeq_true k1
      subst this
      obtain ⟨z, hz, rfl⟩ := map_some (RM.ofOpt_some hr2)
      obtain ⟨e', he⟩ := castTy_some hz
      subst e'
      subst he
      obtain ⟨c, ow, q1, q2⟩ := obj_rel h ho
      obtain ⟨cv', c', ow', r1, _, _, r3⟩ := hv
      rw [q1] at r1; cases r1
      obtain ⟨bl, e1, e2⟩ := r3 rfl
      obtain ⟨_, bl', cs, U, fr, f1, f2, f3, f4, f5⟩ := q2
      rw [e1] at f1; cases f1
      intro F _
      exact ⟨FrzW.nil, PtrRep.frz ⟨bl, 0, cs, U, fr, e2, f2, f3, by omega, f5⟩ F⟩
    · cases hr1
  · cases hr1

theorem peekP_spec (hE : EnvOK P E) (h : Mod P w0 conc st a w) {t : Ty} {s : SVal} {v : Value} {d : t.den × W} (hr : (peekP E t s).run st = some d) (hv : SRel P w conc (okOf conc) s v) :
    ∃ vs, v = t.val vs ∧ Peeked P conc st w t d.1 vs d.2 := by
  unfold peekP at hr
  split at hr
  · have := capA_spec hE h hr hv
    exact ⟨[v], rfl, fun F hF => ⟨(this F hF).1, by
      obtain ⟨b, off, cs, T, fr, h1, h2⟩ := (this F hF).2
      exact ⟨b, off, cs, T, fr, by rw [h1], h2⟩⟩⟩
  · have := capA_spec hE h hr hv
    exact ⟨[v], rfl, fun F hF => ⟨(this F hF).1, by
      obtain ⟨b, off, cs, T, fr, h1, h2⟩ := (this F hF).2
      exact ⟨b, off, cs, T, fr, by rw [h1], h2⟩⟩⟩
  · exact peek_spec hE h hr hv

theorem packArgs_spec (hE : EnvOK P E) (h : Mod P w0 conc st a w) : (ts : List Ty) → {l : List SVal} → {vs : List Value} → {x : denL ts × W} → (packArgs E ts l).run st = some x →
    All2 (SRel P w conc (okOf conc)) l vs → PackedA P conc st w ts x.1 vs x.2
  | [], [], [], x, hr, _ => by cases hr; exact fun F _ => ⟨FrzW.nil, rfl⟩
  | [t], [s], [v], x, hr, hv => by
    obtain ⟨vs, h1, h2⟩ := peekP_spec hE h (t := t) hr hv.1
    exact fun F hF => ⟨(h2 F hF).1, vs, by rw [h1], (h2 F hF).2⟩
  | t :: u :: ts, s :: ss, v :: vs, x, hr, hv => by
    simp only [packArgs] at hr
    obtain ⟨p, g1, hr1⟩ := RM.bind_some hr
    obtain ⟨q, g2, hr2⟩ := RM.bind_some hr1
    cases hr2
    obtain ⟨us, h1, h2⟩ := peekP_spec hE h (t := t) g1 hv.1
    have h3 := packArgs_spec hE h (u :: ts) g2 hv.2
    intro F hF
    have k1 := h2 F fun id hi => hF id (by rw [ids_append]; exact List.mem_append_left _ hi)
    have k2 := h3 F fun id hi => hF id (by rw [ids_append]; exact List.mem_append_right _ hi)
    exact ⟨k1.1.append k2.1, us, vs, by rw [h1], k1.2, k2.2⟩
  | [], _ :: _, _, x, hr, _ => by cases hr
  | [t], [], _, x, hr, _ => by cases hr
  | [t], _ :: _ :: _, _, x, hr, _ => by cases hr
  | t :: u :: ts, [], _, x, hr, _ => by cases hr
  | [], [], _ :: _, _, _, hv => hv.elim
  | [t], [s], [], _, _, hv => hv.elim
  | [t], [s], _ :: _ :: _, _, _, hv => hv.2.elim
  | t :: u :: ts, s :: ss, [], _, _, hv => hv.elim

def PackedC (P : Program) (conc : Conc) (st : ASt) (w : World) (ts : List Ty) (x : denL ts) (vs : List Value) (l : W) : Prop :=
  ∀ F, (∀ id ∈ ids l, id ∈ F) → FrzW P conc st w F l ∧ CapsRep P w (okOf (frzL conc F)) ts vs x

theorem cap1_spec (hE : EnvOK P E) (h : Mod P w0 conc st a w) {t : Ty} {x : Operand} {d : t.den × W} (hr : (cap1 E t x).run st = some d) :
    ∀ F, (∀ id ∈ ids d.2, id ∈ F) → FrzW P conc st w F d.2 ∧ PtrRep P w (okOf (frzL conc F)) t (a.eval x) d.1 := by
  unfold cap1 at hr
  obtain ⟨b, g1, hr1⟩ := RM.bind_some hr
  exact capA_spec hE h hr1 (rdA_rel h (labs_nil _) g1)

theorem capsOf_spec (hE : EnvOK P E) (h : Mod P w0 conc st a w) : (ts : List Ty) → {xs : List Operand} → {y : denL ts × W} → (capsOf E ts xs).run st = some y → PackedC P conc st w ts y.1 (xs.map a.eval) y.2
  | [], [], y, hr => by cases hr; exact fun F _ => ⟨FrzW.nil, rfl⟩
  | [t], [x], y, hr => by
    have := cap1_spec hE h (t := t) hr
    exact fun F hF => ⟨(this F hF).1, _, rfl, (this F hF).2⟩
  | t :: u :: ts, x :: r, y, hr => by
    simp only [capsOf] at hr
    obtain ⟨p, g1, hr1⟩ := RM.bind_some hr
    obtain ⟨q, g2, hr2⟩ := RM.bind_some hr1
    cases hr2
    have h1 := cap1_spec hE h (t := t) g1
    have h2 := capsOf_spec hE h (u :: ts) g2
    intro F hF
    have k1 := h1 F fun id hi => hF id (by rw [ids_append]; exact List.mem_append_left _ hi)
    have k2 := h2 F fun id hi => hF id (by rw [ids_append]; exact List.mem_append_right _ hi)
    exact ⟨k1.1.append k2.1, _, _, rfl, k1.2, k2.2⟩
  | [], _ :: _, y, hr => by cases hr
  | [t], [], y, hr => by cases hr
  | [t], _ :: _ :: _, y, hr => by cases hr
  | t :: u :: ts, [], y, hr => by cases hr

end Go.Abs

set_option linter.unusedSimpArgs false
set_option linter.unusedVariables false
namespace Go.Abs
open Go
variable {P : Program} {E : Env} {w0 : Start} {w : World} {conc : Conc} {st : ASt} {a : Act}

/-- An object whose block alone is written, whatever it is. -/
theorem put_done (h : Mod P w0 conc st a w) {W0 : W} (hW : FrzW P conc st w (ids W0) W0) {id cv : Nat} {c : Value} {o' : AObj} {b : Nat} {ob : Obj} {w' : World} {st' : ASt}
    (hc : frzL conc (ids W0) id = some (cv, c, true)) (hb : hasB c b) (hap : applyU st none ⟨none, W0 ++ [(id, (cv, o'))]⟩ = some st') (hw' : w' = { w with heap := w.heap.setIfInBounds b ob })
    (hO : ∀ conc', CLe (frzL conc (ids W0)) conc' → Ext (okOf (frzL conc (ids W0))) w w' → Sub w (okOf (frzL conc (ids W0))) (okOf conc') → ORel P w' conc' (okOf conc') c true o') :
    Models P w0 st' a w' := by
  obtain ⟨conc1, rfl, h1, h2, h3⟩ := frz_done h hW
  obtain ⟨conc2, k1, _⟩ := h1.obj (id := id) (ver := cv) (c := c) (o := o') (w' := w') (fun cv' c0 ow hc' => by rw [hc] at hc'; cases hc'; exact .inr ⟨rfl, rfl⟩) (by rw [hw']) (by rw [hw']) (by rw [hw']) (by rw [hw']; simp)
    (fun b' hb' hne => by
      rw [hw']
      show (w.heap.setIfInBounds b ob)[b']? = _
      have hbb : b ≠ b' := fun e => hne cv c hc (e ▸ hb)
      rw [Array.getElem?_setIfInBounds_ne hbb]) (fun b' hb' => ⟨.inr ⟨cv, c, hc, hb'⟩, by
      have := (h1.base id cv c b' hc hb').2
      rw [hw']
      simpa using this⟩)
    (fun conc' g1 _ g2 g3 _ => hO conc' g1 g2 g3)
  refine ⟨conc2, ?_⟩
  unfold applyU at hap
  cases hap
  show Mod P w0 conc2 { N := st.N, marks := st.marks, slots := st.slots, heap := setObjs st.heap (W0 ++ [(id, (cv, o'))]), fixed := st.fixed } a w'
  rw [setObjs_append]
  exact k1

theorem makeMap_ok (h : Mod P w0 conc st a w) {o : Oper} {T d : Nat} {k u : Ty} (hop : o.op = .makeMap T none) (hd : o.dst = some d) {up : Upd} {st' : ASt}
    (hr : (newObj d (.map k u []) (.hand d) []).run st = some up) (hap : applyU st none up = some st') : OpOK P w0 o a w st' := by
  refine OpOK.value (v := .map (some w.heap.size)) (w' := w.alloc (.map #[] 0)) (by simp only [execOp, hop]; rfl) ?_
  rw [hd]
  refine new_done h (FrzW.none P conc st w) hr hap (Keeps.alloc w _) (fun b hb => ?_) (fun conc' g1 g2 g3 => ?_) (fun conc' ver hc => ?_)
  · cases hb; simp
  · refine ⟨rfl, w.heap.size, #[], 0, rfl, heap_new _, rfl, fun i x e hx _ => ?_⟩
    simp at hx
  · exact ⟨ver, _, true, hc, Nat.le_refl _, rfl, fun _ => rfl⟩

theorem cells_same : (k : Ty) → k.eqs = true → {ok : Nat → Prop} → {vs : List Value} → {x : k.den} → Rep P k w ok vs x → ∀ v ∈ vs, ∀ n, Instr.sameBits n v v = true
  | .int _, _, _, _, _, h, v, hv, n => by
    simp only [Rep] at h
    subst h
    simp only [List.mem_cons, List.not_mem_nil, or_false] at hv
    subst hv
    cases n <;> simp [Instr.sameBits]
  | .bool, _, _, _, _, h, v, hv, n => by
    simp only [Rep] at h
    subst h
    simp only [List.mem_cons, List.not_mem_nil, or_false] at hv
    subst hv
    cases n <;> simp [Instr.sameBits]
  | .str, _, _, _, _, h, v, hv, n => by
    simp only [Rep] at h
    subst h
    simp only [List.mem_cons, List.not_mem_nil, or_false] at hv
    subst hv
    have e : ∀ b : ByteArray, (b == b) = true := fun b => by rw [beq_toListBytes, beq_self_eq_true]
    cases n <;> simp only [Instr.sameBits, e]
  | .pair a b, he, _, vs, (x, y), h, v, hv, n => by
    simp only [Ty.eqs, Bool.and_eq_true] at he
    rw [← List.take_append_drop a.sz vs] at hv
    rcases List.mem_append.1 hv with hv | hv
    · exact cells_same a he.1 h.1 v hv n
    · exact cells_same b he.2 h.2 v hv n
  | .unit, he, _, _, _, _, _, _, _ => by cases he
  | .slice _, he, _, _, _, _, _, _, _ => by cases he
  | .fn1 _ _, he, _, _, _, _, _, _, _ => by cases he
  | .fn2 _ _ _, he, _, _, _, _, _, _, _ => by cases he
  | .seq _, he, _, _, _, _, _, _, _ => by cases he
  | .seq2 _ _, he, _, _, _, _, _, _, _ => by cases he
  | .map _ _, he, _, _, _, _, _, _, _ => by cases he
  | .ptr _, he, _, _, _, _, _, _, _ => by cases he
  | .sliceN _, he, _, _, _, _, _, _, _ => by cases he

theorem keyThatStays_same {k : Ty} (hk : k.eqs = true) {ok : Nat → Prop} {vs : List Value} {x : k.den} (h : Rep P k w ok vs x) : (Instr.keyThatStays (k.val vs) (k.val vs)).run P w = .ok (k.val vs) w := by
  have hc := cells_same k hk h
  have : Instr.sameBits 10000 (k.val vs) (k.val vs) = true := by
    cases hp : k.isPair
    · have hl := h.len
      have hu : k ≠ .unit := fun e => by rw [e] at hk; cases hk
      rw [sz_one hp hu] at hl
      match vs, hl with
      | [v], _ =>
        have : k.val [v] = v := by
          unfold Ty.val
          rw [hp]
          rfl
        rw [this]
        exact hc v (by simp) 10000
    · have : k.val vs = .agg vs.toArray := by
        unfold Ty.val
        rw [hp]
        rfl
      rw [this]
      simp only [Instr.sameBits, beq_self_eq_true, Bool.true_and, List.all_eq_true]
      intro p hp
      have : ∀ (l : List Value), (∀ v ∈ l, ∀ n, Instr.sameBits n v v = true) → ∀ p ∈ l.zip l, Instr.sameBits 9999 p.1 p.2 = true := by
        intro l
        induction l with
        | nil => simp
        | cons v l ih =>
          intro hl p hp
          rw [List.zip_cons_cons] at hp
          rcases List.mem_cons.1 hp with rfl | hp
          · exact hl v (by simp) _
          · exact ih (fun u hu => hl u (by simp [hu])) p hp
      exact this vs hc p hp
  simp [Instr.keyThatStays, this]

theorem ents_set {q : Ty} {u : Ty} {ok : Nat → Prop} {l : List (q.den × u.den)} {es : List MapEntry} (h : EntsRep P w ok q u l es) {i : Nat} {n : q.den} {y : u.den} {ks us : List Value} (hk : Rep P q w ok ks n) (hy : Rep P u w ok us y) {e : MapEntry} (he1 : e.key = q.val ks) (he2 : e.val = u.val us) :
    EntsRep P w ok q u (l.set i (n, y)) (es.set i e) := by
  refine ⟨by simpa using h.1, fun j x f hx hf => ?_⟩
  by_cases hij : i = j
  · subst hij
    rw [List.getElem?_set] at hx hf
    split at hx
    · split at hx
      · cases hx
        split at hf
        · split at hf
          · cases hf
            exact ⟨⟨ks, he1, hk⟩, us, he2, hy⟩
          · cases hf
        · rename_i hne; exact absurd rfl hne
      · cases hx
    · rename_i hne; exact absurd rfl hne
  · rw [List.getElem?_set_ne hij] at hx hf
    exact h.2 j x f hx hf

theorem ents_push {q : Ty} {u : Ty} {ok : Nat → Prop} {l : List (q.den × u.den)} {es : List MapEntry} (h : EntsRep P w ok q u l es) {n : q.den} {y : u.den} {ks us : List Value} (hk : Rep P q w ok ks n) (hy : Rep P u w ok us y) {e : MapEntry} (he1 : e.key = q.val ks) (he2 : e.val = u.val us) :
    EntsRep P w ok q u (l ++ [(n, y)]) (es ++ [e]) := by
  refine ⟨by simp [h.1], fun j x f hx hf => ?_⟩
  by_cases hlt : j < l.length
  · rw [List.getElem?_append_left hlt] at hx
    rw [List.getElem?_append_left (by rw [h.1]; exact hlt)] at hf
    exact h.2 j x f hx hf
  · rw [List.getElem?_append_right (by omega)] at hx
    rw [List.getElem?_append_right (by rw [h.1]; omega), h.1] at hf
    cases hj : j - l.length with
    | zero =>
      rw [hj] at hx hf
      cases hx
      cases hf
      exact ⟨⟨ks, he1, hk⟩, us, he2, hy⟩
    | succ m =>
      rw [hj] at hx
      cases hx

theorem EntsRep.mono {w' : World} {ok ok' : Nat → Prop} {k u : Ty} {l : List (k.den × u.den)} {es : List MapEntry} (h : EntsRep P w ok k u l es) (hx : Ext ok w w') (hs : Sub w ok ok') : EntsRep P w' ok' k u l es :=
  ⟨h.1, fun i x e hi he => by
    obtain ⟨⟨ks, g1, g2⟩, us, g3, g4⟩ := h.2 i x e hi he
    exact ⟨⟨ks, g1, g2.mono k hx hs⟩, us, g3, g4.mono u hx hs⟩⟩

theorem mapPut_ok (hE : EnvOK P E) (h : Mod P w0 conc st a w) {o : Oper} {T : Nat} {m k x : Operand} (hop : execOp a.eval o = (do Instr.mapUpdate T (a.eval m) (a.eval k) (a.eval x); pure .skip)) (hd : o.dst = none) {up : Upd} {st' : ASt}
    (hr : (mapPut E T m k x).run st = some up) (hap : applyU st none up = some st') : OpOK P w0 o a w st' := by
  unfold mapPut at hr
  split at hr
  · rename_i q u hT
    obtain ⟨b, g1, hr⟩ := RM.bind_some hr
    cases b <;> simp only at hr <;> try (cases hr; done)
    rename_i id ver
    obtain ⟨n, g2, hr⟩ := RM.bind_some hr
    obtain ⟨s, g3, hr⟩ := RM.bind_some hr
    obtain ⟨d, g4, hr⟩ := RM.bind_some hr
    simp only [RM.run] at hr
    split at hr
    · rename_i cv q' u' l ho
      obtain ⟨g5, hr1⟩ := cond_some hr
      clear hr
      simp only [Bool.and_eq_true] at g5
      have := nbeq_true g5.1
      subst this
      split at hr1
      · rename_i hh
        obtain ⟨hh1, hh2⟩ := hh
        subst hh1
        subst hh2
        cases hr1
        have hn : id ∉ ids d.2 := by
          intro hm
          obtain ⟨p, hp, he⟩ := List.mem_map.1 hm
          have := List.all_eq_true.1 g5.2 p hp
          simp [nbeq, he] at this
        obtain ⟨K, V, h1, h2, _⟩ := map_desc hE hT
        obtain ⟨c, ow, k1, k2⟩ := obj_rel h ho
        obtain ⟨cv', c', ow', m1, _, _, m3⟩ := rdA_rel h (labs_nil _) g1
        rw [k1] at m1; cases m1
        have hmv := m3 rfl
        obtain ⟨rfl, bl, es, clock, e1, e2, e3, e4⟩ := k2
        have hents : EntsRep P w (okOf conc) q' u' l es.toList := ⟨by simpa using e3, fun i x e hx he => e4 i x e hx (by simpa using he)⟩
        obtain ⟨us, q1, q2⟩ := peek_spec hE h g4 (rd_rel h (labs_nil _) g3)
        have hp := q2 (ids d.2) fun _ h => h
        have hfz : frzL conc (ids d.2) id = some (cv, c, true) := by simp [frzL, k1, hn]
        obtain ⟨ks, hk, hkr⟩ := rdK_sound hE h (labs_nil _) g2
        have hks : Rep P q' w (okOf conc) ks n := (hkr []).flat q' (eqs_flat q' h2.eqs)
        have hents' := hents.mono (w' := w) (ok' := okOf (frzL conc (ids d.2))) ⟨Nat.le_refl _, fun _ _ _ => rfl⟩ (frzL_sub w conc (ids d.2))
        have run : ∀ ob, (Instr.mapUpdate T (.map (some bl)) (q'.val ks) (a.eval x)).run P w = .ok () { w with heap := w.heap.setIfInBounds bl ob } →
            (∀ conc' w', CLe (frzL conc (ids d.2)) conc' → Ext (okOf (frzL conc (ids d.2))) w w' → Sub w (okOf (frzL conc (ids d.2))) (okOf conc') → w' = { w with heap := w.heap.setIfInBounds bl ob } → ORel P w' conc' (okOf conc') c true (.map q' u' (mputE q'.beq l n d.1))) → OpOK P w0 o a w st' := by
          intro ob hrun hO
          refine OpOK.skip (w' := { w with heap := w.heap.setIfInBounds bl ob }) ?_ ?_
          · rw [hop, hmv, e1, hk, Sem.run_bind, hrun]; rfl
          · rw [hd]
            exact put_done (W0 := d.2) h hp.1 hfz (by rw [e1]; rfl) hap rfl (fun conc' r1 r2 r3 => hO conc' _ r1 r2 r3 rfl)
        have hlt : bl < w.heap.size := (Array.getElem?_eq_some_iff.1 e2).1
        have hset : ∀ ob, ({ w with heap := w.heap.setIfInBounds bl ob } : World).heap[bl]? = some ob := fun ob => by simp [hlt]
        have setO : ∀ (es' : Array MapEntry) (c' : Nat), (setObj bl (.map es' c')).run P w = .ok () { w with heap := w.heap.setIfInBounds bl (.map es' c') } := fun es' c' => by simp [setObj, Sem.run, e2]
        have hck : (Instr.checkKey false 10000 K (q'.val ks)).run P w = .ok () w := h2.chk w _ ks n _ hks
        rcases find_spec h2 hks hents with ⟨f1, f2, f3⟩ | ⟨i, e, y, mm, f1, f2, f3, f4, f5, f6⟩
        · refine run (.map (es.push { key := q'.val ks, val := a.eval x, born := clock }) (clock + 1)) ?_ ?_
          · simp only [Instr.mapUpdate, Sem.run_bind, run_underlying h1, Result.andThen_ok, getObj_run e2, hck, f1, setO]
          · intro conc' w' r1 r2 r3 hw'
            subst hw'
            have := (ents_push hents' (n := n) (hks.flat q' (eqs_flat q' h2.eqs)) hp.2 (e := { key := q'.val ks, val := a.eval x, born := clock }) rfl q1).mono r2 r3
            rw [f3]
            refine ⟨rfl, bl, _, _, e1, hset _, by simpa using this.1, fun i y f hy hf => this.2 i y f hy (by rw [← Array.toList_push, Array.getElem?_toList]; exact hf)⟩
        · have he : es[i]? = some e := by simpa using f2
          have hil : i < es.size := (Array.getElem?_eq_some_iff.1 he).1
          obtain ⟨⟨ks', e5, e6⟩, _⟩ := hents.2 i (mm, y) e f3 f2
          have hkk : e.key = q'.val ks := by rw [e5, eqs_val q' h2.eqs e6 hks f4]
          refine run (.map (es.modify i fun f => { f with key := q'.val ks, val := a.eval x }) clock) ?_ ?_
          · simp only [Instr.mapUpdate, Sem.run_bind, run_underlying h1, Result.andThen_ok, getObj_run e2, hck, f1, he, Option.map_some, Option.getD_some, hkk, keyThatStays_same h2.eqs hks, setO]
          · intro conc' w' r1 r2 r3 hw'
            subst hw'
            have := (ents_set hents' (i := i) (n := n) (hks.flat q' (eqs_flat q' h2.eqs)) hp.2 (e := { e with key := q'.val ks, val := a.eval x }) rfl q1).mono r2 r3
            rw [f6]
            have hm : (es.modify i fun f => { f with key := q'.val ks, val := a.eval x }).toList = es.toList.set i { e with key := q'.val ks, val := a.eval x } := by
              apply List.ext_getElem?
              intro j
              rw [List.getElem?_set, Array.getElem?_toList, Array.getElem?_modify]
              by_cases hij : i = j
              · subst hij
                rw [if_pos rfl, if_pos rfl, he, if_pos (by simpa using hil)]
                rfl
              · simp [hij]
            refine ⟨rfl, bl, _, _, e1, hset _, by simpa using e3, fun j y f hy hf => this.2 j y f hy (by rw [← hm, Array.getElem?_toList]; exact hf)⟩
      · cases hr1
    · cases hr
  · cases hr

theorem sliceHand_ok (hE : EnvOK P E) (h : Mod P w0 conc st a w) {o : Oper} {T d id cv : Nat} {e : Ty} {x : Operand} {lo hi : Option Operand} {l z : List e.den} {p q : Int}
    (hop : o.op = .slice T x lo hi none) (hd : o.dst = some d) (hT : E.ty T = some (.slice e)) (hs : (rdA [] x).run st = some (.hand id cv)) (ho : Map.get st.heap id = some (cv, .buf e l))
    (hp : (rdBound [] 0 lo).run st = some p) (hq : (rdBound [] (List.length l : Nat) hi).run st = some q) (hz : cut l p q = some z) {st' : ASt}
    (hap : applyU st none ⟨some (d, ⟨[], true, .v (.hand id (cv + 1))⟩), [(id, (cv + 1, .buf e z))]⟩ = some st') : OpOK P w0 o a w st' := by
  obtain ⟨k1, k2, k3, rfl⟩ := cut_some hz
  obtain ⟨T', hu, i, hi1, hi2⟩ := slice_desc hE hT
  obtain ⟨c, ow, g1, g2⟩ := obj_rel h ho
  obtain ⟨cv', c', ow', m1, _, _, m3⟩ := rdA_rel h (labs_nil _) hs
  rw [g1] at m1; cases m1
  have hsv := m3 rfl
  subst hsv
  obtain ⟨rfl, g2⟩ := g2
  have hlen : ((l.take q.toNat).drop p.toNat).length = q.toNat - p.toNat := by
    rw [List.length_drop, List.length_take]; omega
  have fin : ∀ (ad : Option Addr) (cap : Nat), a.eval x = .slice ad l.length cap → l.length ≤ cap →
      (∀ conc', Ext (okOf conc) w w → Sub w (okOf conc) (okOf conc') → ORel P w conc' (okOf conc') (.slice (if cap = p.toNat then ad else ad.map (·.add (p.toNat * e.sz))) (q.toNat - p.toNat) (cap - p.toNat)) true (.buf e ((l.take q.toNat).drop p.toNat))) →
      (∀ b, blockOf (.slice (if cap = p.toNat then ad else ad.map (·.add (p.toNat * e.sz))) (q.toNat - p.toNat) (cap - p.toNat)) = some b → hasB (a.eval x) b) → OpOK P w0 o a w st' := by
    intro ad cap hv hc hO hbl
    have hb := sliceBounds_run (P := P) (w := w) h (labs_nil _) (b := true) hc hp hq k1 k2 k3
    refine OpOK.value (v := .slice (if cap = p.toNat then ad else ad.map (·.add (p.toNat * e.sz))) (q.toNat - p.toNat) (cap - p.toNat)) (w' := w) ?_ ?_
    · simp only [execOp, hop, Option.map_none]
      rw [Sem.run_bind, sliceAt_eq hE hT (.inl ⟨e, rfl⟩), hv]
      simp only [Instr.slice, Sem.run_bind, run_underlying hu, Result.andThen_ok, hb, sizeOf, typeInfo, Sem.run_pure]
      simp [hi1, hi2]
    · rw [hd]
      refine append_done h (c := a.eval x) g1 hap rfl rfl rfl (Nat.le_refl _) (fun _ _ _ => rfl) (fun b hb => ⟨.inr (hbl b hb), (h.base id cv _ b g1 (hbl b hb)).2⟩) rfl hO
  rcases g2 with ⟨f1, f2⟩ | ⟨bl, off, cap, cs, U, f1, f2, f3, f4, f5, f6⟩
  · subst f2
    have hp0 : p.toNat = 0 := by simp at k3; omega
    have hq0 : q.toNat = 0 := by simp at k3; omega
    refine fin none 0 f1 (Nat.le_refl _) (fun conc' _ _ => ⟨rfl, .inl ⟨?_, by simp⟩⟩) (fun b hb => ?_)
    · simp [hp0, hq0]
    · simp [blockOf] at hb
  · refine fin _ cap f1 f3 (fun conc' q1 q2 => ⟨rfl, .inr ⟨bl, if cap = p.toNat then off else off + p.toNat * e.sz, cap - p.toNat, cs, U, ?_, f2, by rw [hlen]; omega, by omega, ?_, fun j y hy => ?_⟩⟩) (fun b hb => ?_)
    · rw [hlen]
      split <;> simp [addr_add]
    · split
      · rename_i hc
        rw [hc, Nat.sub_self, Nat.zero_mul]
        omega
      · have : p.toNat * e.sz + (cap - p.toNat) * e.sz = cap * e.sz := by
          rw [← Nat.add_mul]; congr 1; omega
        omega
    · have hjl : j < ((l.take q.toNat).drop p.toNat).length := (List.getElem?_eq_some_iff.1 hy).1
      rw [hlen] at hjl
      rw [if_neg (by omega)]
      rw [List.getElem?_drop, List.getElem?_take] at hy
      split at hy
      · have := f6 _ y hy
        rw [Nat.add_mul, ← Nat.add_assoc] at this
        exact this.mono e q1 q2
      · cases hy
    · rw [f1]
      split at hb <;> simpa [hasB, blockOf, addr_add] using hb

end Go.Abs

set_option linter.unusedSimpArgs false
set_option linter.unusedVariables false
namespace Go.Abs
open Go
variable {P : Program} {E : Env} {w0 : Start} {w : World} {conc : Conc} {st : ASt} {a : Act}

theorem callFunc_run {f : Nat} (hb : Bodied P f) (args : Array Value) : (callFunc f args).run P w = .ok (.enter f args) w := by
  obtain ⟨fn, h1, h2, h3⟩ := hb
  have hp : ∀ k : Program → Sem Next, (program >>= k).run P w = (k P).run P w := fun k => rfl
  unfold callFunc
  rw [hp]
  simp only [h1, h2, h3, Bool.false_eq_true, if_false]
  rfl

theorem exec_call {o : Oper} {f : Operand} {args : Array Operand} {tys : Array TypeId} (hop : o.op = .call { callee := .value f, args := args, argTypes := tys }) {fid : Nat} {first cap : Array Value}
    (hf : a.eval f = .func (.func fid) first cap) (hb : Bodied P fid) : (execOp a.eval o).run P w = .ok (.enter fid (first ++ args.map a.eval ++ cap)) w := by
  simp only [execOp, hop, resolve, hf, Deferred.ofValue, pure_bind, invoke]
  exact callFunc_run hb _

theorem ResRep.mono {w' : World} {ok ok' : Nat → Prop} (hx : Ext ok w w') (hs : Sub w ok ok') : (ts : List Ty) → {v : Value} → {r : denL ts} → ResRep P w ok ts v r → ResRep P w' ok' ts v r
  | [], v, r, h => h
  | [t], v, r, ⟨cs, h1, h2⟩ => ⟨cs, h1, h2.mono t hx hs⟩
  | t :: u :: ts, v, r, ⟨vs, h1, h2⟩ => ⟨vs, h1, argsMono hx hs (t :: u :: ts) h2⟩
where
  argsMono {w' : World} {ok ok' : Nat → Prop} (hx : Ext ok w w') (hs : Sub w ok ok') : (ts : List Ty) → {vs : List Value} → {x : denL ts} → ArgsRep P w ok ts vs x → ArgsRep P w' ok' ts vs x
    | [], vs, x, h => h
    | [t], vs, x, ⟨cs, h1, h2⟩ => ⟨cs, h1, h2.mono t hx hs⟩
    | t :: u :: ts, vs, x, ⟨cs, r, h1, h2, h3⟩ => ⟨cs, r, h1, h2.mono t hx hs, argsMono hx hs (u :: ts) h3⟩

theorem ResRep.flat {w' : World} {ok ok' : Nat → Prop} : (ts : List Ty) → ts.all Ty.flat = true → {v : Value} → {r : denL ts} → ResRep P w ok ts v r → ResRep P w' ok' ts v r
  | [], _, v, r, h => h
  | [t], hf, v, r, ⟨cs, h1, h2⟩ => ⟨cs, h1, h2.flat t (by simpa using hf)⟩
  | t :: u :: ts, hf, v, r, ⟨vs, h1, h2⟩ => ⟨vs, h1, argsFlat (t :: u :: ts) hf h2⟩
where
  argsFlat {w' : World} {ok ok' : Nat → Prop} : (ts : List Ty) → ts.all Ty.flat = true → {vs : List Value} → {x : denL ts} → ArgsRep P w ok ts vs x → ArgsRep P w' ok' ts vs x
    | [], _, vs, x, h => h
    | [t], hf, vs, x, ⟨cs, h1, h2⟩ => ⟨cs, h1, h2.flat t (by simpa using hf)⟩
    | t :: u :: ts, hf, vs, x, ⟨cs, r, h1, h2, h3⟩ => by
      simp only [List.all_cons, Bool.and_eq_true] at hf
      exact ⟨cs, r, h1, h2.flat t hf.1, argsFlat (u :: ts) (by simpa using hf.2) h3⟩

theorem tup_rel {ok : Nat → Prop} : (ts : List Ty) → {vs : List Value} → {x : denL ts} → ArgsRep P w ok ts vs x → All2 (VRel P w conc ok) (tupOf ts x) vs
  | [], vs, x, h => by cases h; trivial
  | [t], vs, x, ⟨cs, h1, h2⟩ => by subst h1; exact ⟨⟨cs, rfl, h2⟩, trivial⟩
  | t :: u :: ts, vs, x, ⟨cs, r, h1, h2, h3⟩ => by subst h1; exact ⟨⟨cs, rfl, h2⟩, tup_rel (u :: ts) h3⟩

theorem resS_rel {ok : Nat → Prop} : (ts : List Ty) → {v : Value} → {r : denL ts} → ResRep P w ok ts v r → SRel P w conc ok (resS ts r) v
  | [], v, r, h => ⟨[], h, trivial⟩
  | [t], v, r, ⟨cs, h1, h2⟩ => ⟨cs, h1, h2⟩
  | t :: u :: ts, v, r, ⟨vs, h1, h2⟩ => ⟨vs, h1, tup_rel (t :: u :: ts) h2⟩

/-- What a call comes to: the objects that are written no more, and the result. -/
structure CallOK (P : Program) (conc : Conc) (st : ASt) (a : Act) (w : World) (o : Oper) (q : (Bool × SVal) × W) : Prop where
  frz : FrzW P conc st w (ids q.2) q.2
  call : ∃ fid args, (execOp a.eval o).run P w = .ok (.enter fid args) w ∧ Calls P fid args w fun e w' => ∃ v, e = .returned v ∧ Keeps w w' ∧
    SRel P w' (frzL conc (ids q.2)) (okOf (frzL conc (ids q.2))) q.1.2 v ∧
    (q.1.1 = true → (∀ e l, q.1.2 = .v (.pure (.slice e) l) → FreshRep P w.heap.size w' (newOk (okOf (frzL conc (ids q.2))) w) e v l) ∧
      ∀ a b x, q.1.2 = .v (.pure (.pair a b) x) → FreshP P w.heap.size w' (newOk (okOf (frzL conc (ids q.2))) w) (.pair a b) v x)

/-- New blocks are no objects of the state. -/
theorem new_ok {w' : World} {F : List Nat} (h : Mod P w0 conc st a w) : Sub w' (newOk (okOf (frzL conc F)) w) (okOf (frzL conc F)) := by
  intro b hb _
  rcases hb with hb | hb
  · exact hb
  · refine ⟨by show conc.B b; rw [h.cB]; exact h.up b (Nat.le_trans h.keeps.size hb), fun id ver c hc hbl => ?_⟩
    have := (h.base id ver c b (frzL_own hc).1 hbl).2
    omega

theorem FreshRep.flat {n : Nat} {ok ok' : Nat → Prop} {e : Ty} (hf : e.flat = true) {v : Value} {l : List e.den} (h : FreshRep P n w ok e v l) : FreshRep P n w ok' e v l := by
  rcases h with h | ⟨b, off, cap, cs, T, h1, h2, h3, h4, h5, h6, h7⟩
  · exact .inl h
  · exact .inr ⟨b, off, cap, cs, T, h1, h2, h3, h4, h5, h6, fun i x hi => (h7 i x hi).flat e hf⟩

theorem resS_slice : (ts : List Ty) → (r : denL ts) → {e : Ty} → {l : List e.den} → resS ts r = .v (.pure (.slice e) l) → ts = [.slice e] ∧ HEq r l
  | [], r, e, l, h => by cases h
  | [t], r, e, l, h => by
    simp only [resS, SVal.v.injEq, AVal.pure.injEq] at h
    obtain ⟨rfl, h⟩ := h
    exact ⟨rfl, h⟩
  | t :: u :: ts, r, e, l, h => by cases h

theorem freshC_slice {n : Nat} {ok : Nat → Prop} {ts : List Ty} {v : Value} {r : denL ts} {e : Ty} {l : List e.den} (hr : resS ts r = .v (.pure (.slice e) l)) (h : FreshC P n w ok ts v r) : FreshRep P n w ok e v l := by
  obtain ⟨rfl, h2⟩ := resS_slice ts r hr
  cases h2
  exact h

theorem resS_pair : (ts : List Ty) → (r : denL ts) → {a b : Ty} → {x : (Ty.pair a b).den} → resS ts r = .v (.pure (.pair a b) x) → ts = [.pair a b] ∧ HEq r x
  | [], r, a, b, x, h => by cases h
  | [t], r, a, b, x, h => by
    simp only [resS, SVal.v.injEq, AVal.pure.injEq] at h
    obtain ⟨rfl, h⟩ := h
    exact ⟨rfl, h⟩
  | t :: u :: ts, r, a, b, x, h => by cases h

theorem freshC_pair {n : Nat} {ok : Nat → Prop} {ts : List Ty} {v : Value} {r : denL ts} {a b : Ty} {x : (Ty.pair a b).den} (hr : resS ts r = .v (.pure (.pair a b) x)) (h : FreshC P n w ok ts v r) : FreshP P n w ok (.pair a b) v x := by
  obtain ⟨rfl, h2⟩ := resS_pair ts r hr
  cases h2
  exact h

theorem FreshT.flat {n : Nat} {ok ok' : Nat → Prop} : (t : Ty) → t.flat = true → {vs : List Value} → {d : t.den} → {bs : List Nat} → FreshT P n w ok t vs d bs → FreshT P n w ok' t vs d bs
  | .slice e, hf, vs, d, bs, h => by cases hf
  | .pair a b, hf, vs, (x, y), bs, ⟨b1, b2, h1, h2, h3⟩ => by
    simp only [Ty.flat, Bool.and_eq_true] at hf
    exact ⟨b1, b2, h1, FreshT.flat a hf.1 h2, FreshT.flat b hf.2 h3⟩
  | .int k, hf, vs, d, bs, ⟨h1, h2⟩ => ⟨h1, h2.flat _ hf⟩
  | .bool, hf, vs, d, bs, ⟨h1, h2⟩ => ⟨h1, h2.flat _ hf⟩
  | .str, hf, vs, d, bs, ⟨h1, h2⟩ => ⟨h1, h2.flat _ hf⟩
  | .unit, hf, vs, d, bs, ⟨h1, h2⟩ => ⟨h1, h2.flat _ hf⟩
  | .fn1 _ _, hf, _, _, _, _ => by cases hf
  | .fn2 _ _ _, hf, _, _, _, _ => by cases hf
  | .seq _, hf, _, _, _, _ => by cases hf
  | .seq2 _ _, hf, _, _, _, _ => by cases hf
  | .map _ _, hf, _, _, _, _ => by cases hf
  | .ptr _, hf, _, _, _, _ => by cases hf
  | .sliceN _, hf, _, _, _, _ => by cases hf

theorem light_pair {w' : World} {n : Nat} {ok ok' : Nat → Prop} : (outs : List Ty) → {r : denL outs} → {v : Value} → (outs.all Ty.flat = true ∨ freshFlat outs = true) → FreshC P n w' ok outs v r →
    ∀ a b x, resS outs r = .v (.pure (.pair a b) x) → FreshP P n w' ok' (.pair a b) v x := by
  intro outs r v hlt hf a b x hs
  obtain ⟨rfl, h2⟩ := resS_pair outs r hs
  cases h2
  rcases hlt with hlt | hlt
  · obtain ⟨vs, bs, h1, h2, h3, h4, h5⟩ := hf
    exact ⟨vs, bs, h1, h2, h3, h4, h5.flat _ (by simpa using hlt)⟩
  · cases hlt

theorem light_res {w' : World} (h : Mod P w0 conc st a w) {ok : Nat → Prop} : (outs : List Ty) → {r : denL outs} → {v : Value} → freshFlat outs = true → FreshC P w.heap.size w' ok outs v r →
    SRel P w' conc (okOf conc) (resS outs r) v
  | [.slice e], r, v, hlt, e4 => by
    rcases e4 with ⟨f1, f2⟩ | ⟨b, off, cap, cs, T, f1, f2, f3, f4, f5, f6, f7⟩
    · refine ⟨[v], rfl, none, 0, ?_, ?_, .inl f2⟩
      · rw [f1]; rw [show r = ([] : List e.den) from f2]; rfl
      · rw [show r = ([] : List e.den) from f2]; exact Nat.le_refl _
    · refine ⟨[v], rfl, some ⟨b, off, none⟩, cap, by rw [f1], f4, .inr ⟨b, off, cs, T, _, rfl, ?_, f3, ?_, fun i y hi => ?_⟩⟩
      · refine ⟨by rw [h.cB]; exact h.up b (Nat.le_trans h.keeps.size f2), fun id ver c hc' hbl => ?_⟩
        have := (h.base id ver c b hc' hbl).2
        omega
      · exact Nat.le_trans (Nat.add_le_add_left (Nat.mul_le_mul_right _ f4) _) f6
      · exact (f7 i y hi).flat e hlt
  | [], _, _, hlt, _ => by cases hlt
  | [.int _], _, _, hlt, _ => by cases hlt
  | [.bool], _, _, hlt, _ => by cases hlt
  | [.str], _, _, hlt, _ => by cases hlt
  | [.unit], _, _, hlt, _ => by cases hlt
  | [.pair _ _], _, _, hlt, _ => by cases hlt
  | [.fn1 _ _], _, _, hlt, _ => by cases hlt
  | [.fn2 _ _ _], _, _, hlt, _ => by cases hlt
  | [.seq _], _, _, hlt, _ => by cases hlt
  | [.seq2 _ _], _, _, hlt, _ => by cases hlt
  | [.map _ _], _, _, hlt, _ => by cases hlt
  | [.ptr _], _, _, hlt, _ => by cases hlt
  | [.sliceN _], _, _, hlt, _ => by cases hlt
  | _ :: _ :: _, _, _, hlt, _ => by simp [freshFlat] at hlt

theorem light_fresh {w' : World} {n : Nat} {ok ok' : Nat → Prop} : (outs : List Ty) → {r : denL outs} → {v : Value} → (outs.all Ty.flat = true ∨ freshFlat outs = true) → FreshC P n w' ok outs v r →
    ∀ e l, resS outs r = .v (.pure (.slice e) l) → FreshRep P n w' ok' e v l := by
  intro outs r v hlt hf e l hs
  obtain ⟨rfl, h2⟩ := resS_slice outs r hs
  cases h2
  rcases hlt with hlt | hlt
  · simp [Ty.flat] at hlt
  · exact FreshRep.flat hlt hf

theorem callCon_sound (hE : EnvOK P E) (h : Mod P w0 conc st a w) {L : List (Nat × Bool)} (hl : labs a.tmps L) {o : Oper} {fop : Operand} {f : Nat} {args : Array Operand} {tys : Array TypeId}
    (hop : o.op = .call { callee := .value fop, args := args, argTypes := tys }) {q : (Bool × SVal) × W} (hf : a.eval fop = .func (.func f) #[] #[]) (hr : (callCon E L true f args.toList).run st = some q) : CallOK P conc st a w o q := by
    simp only [callCon] at hr
    cases hc : Map.get E.C f with
    | none =>
      rw [hc] at hr
      obtain ⟨hi, hr⟩ := cond_some hr
      obtain ⟨l, g1, hr1⟩ := RM.bind_some hr
      split at hr1
      · rename_i x
        obtain ⟨r, g3, hr3⟩ := RM.opt_some hr1
        cases hr3
        rw [part_true] at g3
        obtain ⟨hb, hcall⟩ := hE.rt f (isIn_mem hi)
        have hargs := rdS_rel h hl g1
        match hx : args.toList.map a.eval, hargs with
        | [v1], hargs =>
          have hv1 : v1 = .float .f64 x := hargs.1
          have hex := exec_call (P := P) (w := w) (a := a) hop hf hb
          have ha : args.map a.eval = #[.float .f64 x] := by
            apply Array.ext'
            rw [Array.toList_map, hx, hv1]
          rw [ha] at hex
          refine ⟨FrzW.nil, f, _, hex, ?_⟩
          refine Calls.mono (hcall w x r g3) ?_
          rintro e w' ⟨f1, f2⟩
          exact ⟨_, f1, f2, rfl, fun h => by cases h⟩
        | [], hargs => exact hargs.elim
        | _ :: _ :: _, hargs => exact hargs.2.elim
      · cases hr1
    | some c =>
      rw [hc] at hr
      obtain ⟨l, g1, hr1⟩ := RM.bind_some hr
      obtain ⟨x, g2, hr2⟩ := RM.bind_some hr1
      obtain ⟨r, g3, hr3⟩ := RM.opt_some hr2
      cases hr3
      rw [part_true] at g3
      obtain ⟨hb, hcon⟩ := hE.con f c hc
      have hpk := packArgs_spec hE h c.ins g2 (rdS_rel h hl g1)
      obtain ⟨ins, caps, outs, fn, fresh⟩ := c
      cases caps with
      | cons _ _ => simp [Con.app] at g3
      | nil =>
        simp only [Con.app] at g3
        have hargs : (#[] ++ args.map a.eval ++ #[] : Array Value) = (args.toList.map a.eval ++ []).toArray := by apply Array.ext'; simp
        have hex := exec_call (P := P) (w := w) (a := a) hop (fid := f) (first := #[]) (cap := #[]) hf hb
        rw [hargs] at hex
        cases hlt : (Con.light ⟨ins, [], outs, fn, fresh⟩) with
        | false =>
          obtain ⟨k1, k2⟩ := hpk (ids x.2) fun _ h => h
          refine ⟨k1, f, _, hex, ?_⟩
          refine Calls.mono (hcon w _ _ [] x.1 () r k2 rfl g3) ?_
          rintro e w' ⟨v, e1, e2, e3, e4⟩
          refine ⟨v, e1, e2, ?_, ?_⟩
          · exact resS_rel outs (ResRep.mono ⟨Nat.le_refl _, fun _ _ _ => rfl⟩ (new_ok h) outs e3)
          · intro hfr
            exact ⟨fun e l hs => freshC_slice hs (e4 hfr), fun a b x hs => freshC_pair hs (e4 hfr)⟩
        | true =>
          have k2 : ArgsRep P w (fun _ => True) ins (args.toList.map a.eval) x.1 := by
            obtain ⟨_, k2⟩ := hpk (ids x.2) fun _ h => h
            exact ResRep.mono.argsMono ⟨Nat.le_refl _, fun _ _ _ => rfl⟩ (fun _ _ _ => trivial) ins k2
          refine ⟨?_, f, _, hex, ?_⟩
          · exact FrzW.nil
          refine Calls.mono (hcon w _ _ [] x.1 () r k2 rfl g3) ?_
          rintro e w' ⟨v, e1, e2, e3, e4⟩
          simp only [Con.light, Bool.or_eq_true, Bool.and_eq_true] at hlt
          refine ⟨v, e1, e2, ?_, ?_⟩
          · simp only [cond_true, show ids [] = [] from rfl, frzL_nil]
            rcases hlt with hlt | ⟨hfr, hlt⟩
            · exact resS_rel outs (ResRep.flat outs hlt e3)
            · exact light_res h outs hlt (e4 hfr)
          · intro hfr
            exact ⟨light_fresh outs (hlt.imp_right (·.2)) (e4 hfr), light_pair outs (hlt.imp_right (·.2)) (e4 hfr)⟩

theorem callOp_sound (hE : EnvOK P E) (h : Mod P w0 conc st a w) {L : List (Nat × Bool)} (hl : labs a.tmps L) {o : Oper} {f : Operand} {args : Array Operand} {tys : Array TypeId}
    (hop : o.op = .call { callee := .value f, args := args, argTypes := tys }) {q : (Bool × SVal) × W} (hr : (callOp E L true f args.toList).run st = some q) : CallOK P conc st a w o q := by
  cases f with
  | func f => exact callCon_sound hE h hl hop (fop := .func f) rfl hr
  | tmp t =>
    simp only [callOp] at hr
    obtain ⟨b, g1, hr1⟩ := RM.bind_some hr
    have hv := rdA_rel h hl g1
    split at hr1
    · exact callCon_sound hE h hl hop hv hr1
    · rename_i x r g
      obtain ⟨l, g2, hr2⟩ := RM.bind_some hr1
      split at hr2
      · rename_i s
        obtain ⟨d, g3, hr3⟩ := RM.bind_some hr2
        obtain ⟨y, g4, hr4⟩ := RM.opt_some hr3
        cases hr4
        rw [part_true] at g4
        have hargs := rdS_rel h hl g2
        obtain ⟨vs, e1, fid, first, cap, e2, hb, hcall⟩ := hv
        match hx : args.toList.map a.eval, hargs with
        | [v1], hargs =>
          obtain ⟨us, k1, k2⟩ := peek_spec hE h g3 hargs.1
          have hf : a.eval (.tmp t) = .func (.func fid) first cap := by rw [e1, e2]; rfl
          have hex := exec_call (P := P) (w := w) (a := a) hop hf hb
          have ha : args.map a.eval = #[x.val us] := by
            apply Array.ext'
            rw [Array.toList_map, hx, k1]
          rw [ha] at hex
          cases hfl : r.flat with
          | true =>
            refine ⟨FrzW.nil, fid, _, hex, ?_⟩
            refine Calls.mono (hcall w (fun _ => True) ⟨Nat.le_refl _, fun _ _ _ => rfl⟩ (fun _ _ _ => trivial) us d.1 k2.any y g4) ?_
            rintro e w' ⟨ys, f1, f2, f3⟩
            refine ⟨r.val ys, f1, f2, ?_, fun h => by cases h⟩
            exact ⟨ys, rfl, f3.flat r hfl⟩
          | false =>
            obtain ⟨m1, m2⟩ := k2 (ids d.2) fun _ h => h
            refine ⟨m1, fid, _, hex, ?_⟩
            refine Calls.mono (hcall w _ ⟨Nat.le_refl _, fun _ _ _ => rfl⟩ (frzL_sub w conc (ids d.2)) us d.1 m2 y g4) ?_
            rintro e w' ⟨ys, f1, f2, f3⟩
            exact ⟨r.val ys, f1, f2, ⟨ys, rfl, f3.mono r ⟨Nat.le_refl _, fun _ _ _ => rfl⟩ (new_ok h)⟩, fun h => by cases h⟩
        | [], hargs => exact hargs.elim
        | _ :: _ :: _, hargs => exact hargs.2.elim
      · cases hr2
    · rename_i x x2 r g
      obtain ⟨l, g2, hr2⟩ := RM.bind_some hr1
      split at hr2
      · rename_i s s2
        obtain ⟨d, g3, hr3⟩ := RM.bind_some hr2
        obtain ⟨d2, g3b, hr3b⟩ := RM.bind_some hr3
        obtain ⟨y, g4, hr4⟩ := RM.opt_some hr3b
        cases hr4
        rw [part_true] at g4
        have hargs := rdS_rel h hl g2
        obtain ⟨vs, e1, fid, first, cap, e2, hb, hcall⟩ := hv
        match hx : args.toList.map a.eval, hargs with
        | [v1, v2], hargs =>
          obtain ⟨us, k1, k2⟩ := peek_spec hE h g3 hargs.1
          obtain ⟨us2, k1b, k2b⟩ := peek_spec hE h g3b hargs.2.1
          have hf : a.eval (.tmp t) = .func (.func fid) first cap := by rw [e1, e2]; rfl
          have hex := exec_call (P := P) (w := w) (a := a) hop hf hb
          have ha : args.map a.eval = #[x.val us, x2.val us2] := by
            apply Array.ext'
            rw [Array.toList_map, hx, k1, k1b]
          rw [ha] at hex
          cases hfl : r.flat with
          | true =>
            refine ⟨FrzW.nil, fid, _, hex, ?_⟩
            refine Calls.mono (hcall w (fun _ => True) ⟨Nat.le_refl _, fun _ _ _ => rfl⟩ (fun _ _ _ => trivial) us d.1 us2 d2.1 k2.any k2b.any y g4) ?_
            rintro e w' ⟨ys, f1, f2, f3⟩
            refine ⟨r.val ys, f1, f2, ?_, fun h => by cases h⟩
            exact ⟨ys, rfl, f3.flat r hfl⟩
          | false =>
            obtain ⟨m1, m2⟩ := k2 (ids (d.2 ++ d2.2)) fun id hid => by rw [ids_append]; exact List.mem_append_left _ hid
            obtain ⟨m1b, m2b⟩ := k2b (ids (d.2 ++ d2.2)) fun id hid => by rw [ids_append]; exact List.mem_append_right _ hid
            refine ⟨m1.append m1b, fid, _, hex, ?_⟩
            refine Calls.mono (hcall w _ ⟨Nat.le_refl _, fun _ _ _ => rfl⟩ (frzL_sub w conc (ids (d.2 ++ d2.2))) us d.1 us2 d2.1 m2 m2b y g4) ?_
            rintro e w' ⟨ys, f1, f2, f3⟩
            exact ⟨r.val ys, f1, f2, ⟨ys, rfl, f3.mono r ⟨Nat.le_refl _, fun _ _ _ => rfl⟩ (new_ok h)⟩, fun h => by cases h⟩
        | [], hargs => exact hargs.elim
        | [_], hargs => exact hargs.2.elim
        | _ :: _ :: _ :: _, hargs => exact hargs.2.2.elim
      · cases hr2
    · cases hr1
  | _ => cases hr

end Go.Abs

set_option linter.unusedSimpArgs false
set_option linter.unusedVariables false
namespace Go.Abs
open Go
variable {P : Program} {E : Env} {w0 : Start} {w : World} {conc : Conc} {st : ASt} {a : Act}

theorem Rep.re' {t : Ty} {d : t.den} {vs : List Value} {w : World} {ok ok' : Nat → Prop} (h : Rep P t w ok vs d) (hs : Sub w ok ok') : Rep P t w ok' vs d :=
  h.mono t ⟨Nat.le_refl _, fun _ _ _ => rfl⟩ hs

structure NewO where
  k : Nat
  ver : Nat
  c : Value
  o : AObj

def objsOf (Z : List NewO) : W := Z.map fun z => (z.k, (z.ver, z.o))
def concsOf (Z : List NewO) : List (Nat × (Nat × Value)) := Z.map fun z => (z.k, (z.ver, z.c))

theorem map_get_mem' {α : Type} {m : List (Nat × α)} {k : Nat} {v : α} (h : Map.get m k = some v) : (k, v) ∈ m := by
  induction m with
  | nil => cases h
  | cons p r ih =>
    obtain ⟨q, u⟩ := p
    simp only [Map.get, nbeq] at h
    by_cases hq : q = k
    · subst hq
      simp at h
      subst h
      exact List.mem_cons_self
    · simp [hq] at h
      exact List.mem_cons_of_mem _ (ih h)

theorem map_get_nodup {α : Type} {m : List (Nat × α)} (hn : (m.map (·.1)).Nodup) {k : Nat} {v : α} (h : (k, v) ∈ m) : Map.get m k = some v := by
  induction m with
  | nil => cases h
  | cons p r ih =>
    obtain ⟨q, u⟩ := p
    simp only [List.map_cons, List.nodup_cons] at hn
    simp only [Map.get, nbeq]
    rcases List.mem_cons.1 h with e | h
    · cases e; simp
    · have : q ≠ k := fun e => hn.1 (by rw [e]; exact List.mem_map.2 ⟨_, h, rfl⟩)
      simp [this, ih hn.2 h]

theorem get_setObjs_nodup {l : W} (hn : (ids l).Nodup) {h0 : List (Nat × (Nat × AObj))} {id : Nat} {o : Nat × AObj} (h : (id, o) ∈ l) : Map.get (setObjs h0 l) id = some o := by
  rcases get_setObjs h0 l id with ⟨_, h2⟩ | ⟨o', h1, h2⟩
  · exact absurd (List.mem_map.2 ⟨_, h, rfl⟩) h2
  · have e1 := map_get_nodup hn h
    have e2 := map_get_nodup hn h2
    rw [e1] at e2
    cases e2
    exact h1

theorem Mod.news (h : Mod P w0 conc st a w) {w' : World} (hk : Keeps w w') {Z : List NewO} (hn : (Z.map (·.k)).Nodup)
    (hver : ∀ z ∈ Z, ∀ cv c0 ow, conc z.k = some (cv, c0, ow) → cv < z.ver)
    (hnew : ∀ z ∈ Z, ∀ b, hasB z.c b → w.heap.size ≤ b ∧ b < w'.heap.size)
    (hinj : ∀ z ∈ Z, ∀ z' ∈ Z, ∀ b, hasB z.c b → hasB z'.c b → z = z')
    (hO : ∀ conc', CLe conc conc' → Sub w (okOf conc) (okOf conc') → (∀ z ∈ Z, conc' z.k = some (z.ver, z.c, true)) → (∀ b, w.heap.size ≤ b → (∀ z ∈ Z, ¬ hasB z.c b) → okOf conc' b) → ∀ z ∈ Z, ORel P w' conc' (okOf conc') z.c true z.o) :
    ∃ conc', Mod P w0 conc' { st with heap := setObjs st.heap (objsOf Z) } a w' ∧ CLe conc conc' ∧ Sub w (okOf conc) (okOf conc') ∧ (∀ z ∈ Z, conc' z.k = some (z.ver, z.c, true)) ∧
      (∀ b, w.heap.size ≤ b → (∀ z ∈ Z, ¬ hasB z.c b) → okOf conc' b) := by
  let conc' : Conc := ⟨fun j => match Map.get (concsOf Z) j with
    | some (ver, c) => some (ver, c, true)
    | none => conc j, conc.B, conc.yl⟩
  have hn1 : ((concsOf Z).map (·.1)).Nodup := by simpa [concsOf, List.map_map, Function.comp_def] using hn
  have hn2 : (ids (objsOf Z)).Nodup := by simpa [objsOf, ids, List.map_map, Function.comp_def] using hn
  have isZ : ∀ j ver c, Map.get (concsOf Z) j = some (ver, c) → ∃ z ∈ Z, z.k = j ∧ z.ver = ver ∧ z.c = c := by
    intro j ver c hj
    obtain ⟨z, hz, he⟩ := List.mem_map.1 (map_get_mem' hj)
    simp only [Prod.mk.injEq] at he
    exact ⟨z, hz, he.1, he.2.1, he.2.2⟩
  have atZ : ∀ z ∈ Z, conc' z.k = some (z.ver, z.c, true) := by
    intro z hz
    have := map_get_nodup hn1 (k := z.k) (v := (z.ver, z.c)) (List.mem_map.2 ⟨z, hz, rfl⟩)
    simp only [conc', this]
  have noZ : ∀ j, Map.get (concsOf Z) j = none → conc' j = conc j := fun j hj => by simp only [conc', hj]
  have hle : CLe conc conc' := by
    refine ⟨rfl, ?_⟩
    intro j cv c0 ow hj
    cases hg : Map.get (concsOf Z) j with
    | none => exact ⟨cv, c0, ow, by rw [noZ j hg]; exact hj, .inr ⟨rfl, rfl⟩⟩
    | some p =>
      obtain ⟨z, hz, rfl, _, _⟩ := isZ j p.1 p.2 hg
      exact ⟨z.ver, z.c, true, atZ z hz, .inl (hver z hz cv c0 ow hj)⟩
  have split : ∀ j v c ow, conc' j = some (v, c, ow) → (∃ z ∈ Z, z.k = j ∧ z.ver = v ∧ z.c = c) ∨ conc j = some (v, c, ow) := by
    intro j v c ow hj
    cases hg : Map.get (concsOf Z) j with
    | none => rw [noZ j hg] at hj; exact .inr hj
    | some p =>
      obtain ⟨z, hz, rfl, e1, e2⟩ := isZ j p.1 p.2 hg
      rw [atZ z hz] at hj
      cases hj
      exact .inl ⟨z, hz, rfl, rfl, rfl⟩
  have hs : Sub w (okOf conc) (okOf conc') := by
    intro b hb hl
    refine ⟨hb.1, fun j v c hj hbl => ?_⟩
    rcases split j v c true hj with ⟨z, hz, _, _, rfl⟩ | hj
    · have := (hnew z hz b hbl).1
      omega
    · exact hb.2 j v c hj hbl
  have hz : ∀ b, w.heap.size ≤ b → (∀ z ∈ Z, ¬ hasB z.c b) → okOf conc' b := by
    intro b hb hnz
    refine ⟨by show conc.B b; rw [h.cB]; exact h.up b (Nat.le_trans h.keeps.size hb), fun j v c hj hbl => ?_⟩
    rcases split j v c true hj with ⟨z, hz, _, _, rfl⟩ | hj
    · exact hnz z hz hbl
    · have := (h.base j v c b hj hbl).2
      omega
  have hx : Ext (okOf conc) w w' := hk.ext _
  refine ⟨conc', { defers := h.defers, size := h.size, marks := h.marks, slots := ?_, heap := ?_, dead := ?_, inj := ?_, base := ?_, keeps := h.keeps.trans hk, cB := h.cB, cY := h.cY, okS := h.okS, fixed := h.fixed }, hle, hs, atZ, hz⟩
  · intro d sl hd
    obtain ⟨v, h1, h2⟩ := h.slots d sl hd
    exact ⟨v, h1, ⟨fun hl => ⟨(h2.yes hl).1, (h2.yes hl).2.mono hx hs hle⟩, h2.no⟩⟩
  · intro j vj oj hj
    dsimp only at hj
    rcases get_setObjs st.heap (objsOf Z) j with ⟨h1, h2⟩ | ⟨o', h1, h2⟩
    · rw [h1] at hj
      obtain ⟨c0, ow, g1, g2⟩ := h.heap j vj oj hj
      have hg : Map.get (concsOf Z) j = none := by
        cases hg : Map.get (concsOf Z) j with
        | none => rfl
        | some p =>
          obtain ⟨z, hz', rfl, _, _⟩ := isZ j p.1 p.2 hg
          exact absurd (List.mem_map.2 ⟨(z.k, (z.ver, z.o)), List.mem_map.2 ⟨z, hz', rfl⟩, rfl⟩) h2
      refine ⟨c0, ow, by rw [noZ j hg]; exact g1, g2.mono hx hs hle fun eo b hb => ?_⟩
      subst eo
      exact hk.block b (h.base j vj c0 b g1 hb).2
    · rw [h1] at hj
      cases hj
      obtain ⟨z, hz', he⟩ := List.mem_map.1 h2
      simp only [Prod.mk.injEq] at he
      obtain ⟨rfl, rfl, rfl⟩ := he
      exact ⟨z.c, true, atZ z hz', hO conc' hle hs atZ hz z hz'⟩
  · intro j hj
    dsimp only at hj
    rcases get_setObjs st.heap (objsOf Z) j with ⟨h1, h2⟩ | ⟨o', h1, h2⟩
    · rw [h1] at hj
      cases hg : Map.get (concsOf Z) j with
      | none => rw [noZ j hg]; exact h.dead j hj
      | some p =>
        obtain ⟨z, hz', rfl, _, _⟩ := isZ j p.1 p.2 hg
        exact absurd (List.mem_map.2 ⟨(z.k, (z.ver, z.o)), List.mem_map.2 ⟨z, hz', rfl⟩, rfl⟩) h2
    · rw [h1] at hj; cases hj
  · intro i j vi vj ci cj b hi hj hbi hbj
    rcases split i vi ci true hi with ⟨z, hz', rfl, _, rfl⟩ | hi'
    · rcases split j vj cj true hj with ⟨z2, hz2, rfl, _, rfl⟩ | hj'
      · rw [hinj z hz' z2 hz2 b hbi hbj]
      · have := (h.base j vj cj b hj' hbj).2
        have := (hnew z hz' b hbi).1
        omega
    · rcases split j vj cj true hj with ⟨z2, hz2, rfl, _, rfl⟩ | hj'
      · have := (h.base i vi ci b hi' hbi).2
        have := (hnew z2 hz2 b hbj).1
        omega
      · exact h.inj i j vi vj ci cj b hi' hj' hbi hbj
  · intro i vi ci b hi hb
    rcases split i vi ci true hi with ⟨z, hz', rfl, _, rfl⟩ | hi'
    · exact ⟨.inl (Nat.le_trans h.keeps.size (hnew z hz' b hb).1), (hnew z hz' b hb).2⟩
    · exact ⟨(h.base i vi ci b hi' hb).1, Nat.lt_of_lt_of_le (h.base i vi ci b hi' hb).2 hk.size⟩

/-- What the cells of new data are, and their objects. -/
structure NewL (P : Program) (st : ASt) (n : Nat) (w' : World) (okN : Nat → Prop) (id sz : Nat) (cells : List AVal) (vs : List Value) (bs : List Nat) (Z : List NewO) : Prop where
  range : ∀ z ∈ Z, id ≤ z.k ∧ z.k < id + sz
  nodup : (Z.map (·.k)).Nodup
  ver : ∀ z ∈ Z, (Map.get st.heap z.k = none ∧ z.ver = 0) ∨ ∃ cv o, Map.get st.heap z.k = some (cv, o) ∧ z.ver = cv + 1
  block : ∀ z ∈ Z, ∀ b, hasB z.c b → b ∈ bs ∧ n ≤ b ∧ b < w'.heap.size
  inj : bs.Nodup → ∀ z ∈ Z, ∀ z' ∈ Z, ∀ b, hasB z.c b → hasB z'.c b → z = z'
  cells : ∀ conc', (∀ z ∈ Z, conc' z.k = some (z.ver, z.c, true)) → Sub w' okN (okOf conc') → All2 (VRel P w' conc' (okOf conc')) cells vs
  objs : ∀ conc', Sub w' okN (okOf conc') → ∀ z ∈ Z, ORel P w' conc' (okOf conc') z.c true z.o

theorem newL_one {t : Ty} {n : Nat} {w' : World} {okN : Nat → Prop} {id : Nat} {vs : List Value} {d : t.den} {bs : List Nat} (ht : t.isPair = false) (hs : t.sz = 1) (h : bs = [] ∧ Rep P t w' okN vs d) :
    NewL P st n w' okN id t.sz [.pure t d] vs bs [] where
  range := fun z hz => (by cases hz)
  nodup := List.nodup_nil
  ver := fun z hz => (by cases hz)
  block := fun z hz => (by cases hz)
  inj := fun _ z hz => (by cases hz)
  cells := fun conc' _ hsub => explode_one ht hs (h.2.re' hsub)
  objs := fun _ _ z hz => (by cases hz)

theorem freshL_spec {n : Nat} {w' : World} {okN : Nat → Prop} : (t : Ty) → {id : Nat} → {d : t.den} → {p : List AVal × W} → {vs : List Value} → {bs : List Nat} → (freshL id t d).run st = some p → FreshT P n w' okN t vs d bs → vs.length = t.sz →
    ∃ Z, p.2 = objsOf Z ∧ NewL P st n w' okN id t.sz p.1 vs bs Z
  | .slice e, id, l, p, vs, bs, hr, hf, hlen => by
    have key : ∀ ver, ((Map.get st.heap id = none ∧ ver = 0) ∨ ∃ cv o, Map.get st.heap id = some (cv, o) ∧ ver = cv + 1) → p = ([.hand id ver], [(id, (ver, .buf e l))]) → ∃ Z, p.2 = objsOf Z ∧ NewL P st n w' okN id 1 p.1 vs bs Z := by
      intro ver hver hp
      subst hp
      obtain ⟨c, hc, hone, hO, hbl⟩ : ∃ c, vs = [c] ∧ one c = true ∧ (∀ conc', Sub w' okN (okOf conc') → ORel P w' conc' (okOf conc') c true (.buf e l)) ∧ ∀ b, hasB c b → b ∈ bs ∧ n ≤ b ∧ b < w'.heap.size := by
        rcases hf with ⟨h1, h2, h3⟩ | ⟨b, off, cap, cs, T, h1, h2, h3, h4, h5, h6, h7, h8⟩
        · exact ⟨_, h1, rfl, fun conc' _ => ⟨rfl, .inl ⟨rfl, h2⟩⟩, fun b hb => (by cases hb)⟩
        · refine ⟨_, h1, rfl, fun conc' hsub => ⟨rfl, .inr ⟨b, off, cap, cs, T, rfl, h4, h5, h6, h7, fun i x hi => (h8 i x hi).re' hsub⟩⟩, fun b' hb' => ?_⟩
          cases hb'
          exact ⟨by rw [h2]; simp, h3, (Array.getElem?_eq_some_iff.1 h4).1⟩
      subst hc
      refine ⟨[⟨id, ver, c, .buf e l⟩], rfl, ?_⟩
      refine { range := ?_, nodup := by simp, ver := ?_, block := ?_, inj := ?_, cells := ?_, objs := ?_ }
      · intro z hz; rw [List.mem_singleton] at hz; subst hz; exact ⟨Nat.le_refl _, Nat.lt_succ_self _⟩
      · intro z hz; rw [List.mem_singleton] at hz; subst hz; exact hver
      · intro z hz; rw [List.mem_singleton] at hz; subst hz; exact hbl
      · intro _ z hz z' hz' b _ _; rw [List.mem_singleton] at hz hz'; rw [hz, hz']
      · intro conc' hc hsub
        exact ⟨⟨ver, c, true, hc _ (List.mem_singleton.2 rfl), Nat.le_refl _, hone, fun _ => rfl⟩, trivial⟩
      · intro conc' hsub z hz; rw [List.mem_singleton] at hz; subst hz; exact hO conc' hsub
    simp only [freshL, RM.run] at hr
    cases hg : Map.get st.heap id with
    | none => rw [hg] at hr; cases hr; exact key 0 (.inl ⟨hg, rfl⟩) rfl
    | some q =>
      obtain ⟨cv, o⟩ := q
      rw [hg] at hr; cases hr
      exact key (cv + 1) (.inr ⟨cv, o, hg, rfl⟩) rfl
  | .pair a b, id, (x, y), p, vs, bs, hr, hf, hlen => by
    simp only [freshL] at hr
    obtain ⟨p1, g1, hr⟩ := RM.bind_some hr
    obtain ⟨p2, g2, hr⟩ := RM.bind_some hr
    cases hr
    obtain ⟨b1, b2, rfl, f1, f2⟩ := hf
    simp only [Ty.sz] at hlen
    obtain ⟨Z1, e1, N1⟩ := freshL_spec a g1 f1 (by simp; omega)
    obtain ⟨Z2, e2, N2⟩ := freshL_spec b g2 f2 (by simp; omega)
    refine ⟨Z1 ++ Z2, by simp [objsOf, e1, e2], { range := ?_, nodup := ?_, ver := ?_, block := ?_, inj := ?_, cells := ?_, objs := ?_ }⟩
    · intro z hz
      simp only [Ty.sz]
      rcases List.mem_append.1 hz with hz | hz
      · have := N1.range z hz; omega
      · have := N2.range z hz; omega
    · rw [List.map_append, List.nodup_append]
      refine ⟨N1.nodup, N2.nodup, fun i hi j hj e => ?_⟩
      obtain ⟨z, hz, rfl⟩ := List.mem_map.1 hi
      obtain ⟨z', hz', rfl⟩ := List.mem_map.1 hj
      have := N1.range z hz
      have := N2.range z' hz'
      omega
    · intro z hz
      rcases List.mem_append.1 hz with hz | hz
      · exact N1.ver z hz
      · exact N2.ver z hz
    · intro z hz bb hbb
      rcases List.mem_append.1 hz with hz | hz
      · have := N1.block z hz bb hbb; exact ⟨List.mem_append_left _ this.1, this.2⟩
      · have := N2.block z hz bb hbb; exact ⟨List.mem_append_right _ this.1, this.2⟩
    · intro hnd z hz z' hz' bb hb hb'
      rw [List.nodup_append] at hnd
      rcases List.mem_append.1 hz with hz | hz <;> rcases List.mem_append.1 hz' with hz' | hz'
      · exact N1.inj hnd.1 z hz z' hz' bb hb hb'
      · exact absurd rfl (hnd.2.2 bb (N1.block z hz bb hb).1 bb (N2.block z' hz' bb hb').1)
      · exact absurd rfl (hnd.2.2 bb (N1.block z' hz' bb hb').1 bb (N2.block z hz bb hb).1)
      · exact N2.inj hnd.2.1 z hz z' hz' bb hb hb'
    · intro conc' hc hsub
      rw [← List.take_append_drop a.sz vs]
      exact (N1.cells conc' (fun z hz => hc z (List.mem_append_left _ hz)) hsub).append (N2.cells conc' (fun z hz => hc z (List.mem_append_right _ hz)) hsub)
    · intro conc' hsub z hz
      rcases List.mem_append.1 hz with hz | hz
      · exact N1.objs conc' hsub z hz
      · exact N2.objs conc' hsub z hz
  | .unit, id, d, p, vs, bs, hr, hf, hlen => by
    cases hr
    have : vs = [] := hf.2
    subst this
    exact ⟨[], rfl, { range := (fun z hz => (by cases hz)), nodup := List.nodup_nil, ver := (fun z hz => (by cases hz)), block := (fun z hz => (by cases hz)), inj := (fun _ z hz => (by cases hz)), cells := fun _ _ _ => trivial, objs := (fun _ _ z hz => (by cases hz)) }⟩
  | .int k, id, d, p, vs, bs, hr, hf, hlen => by cases hr; exact ⟨[], rfl, newL_one rfl rfl hf⟩
  | .bool, id, d, p, vs, bs, hr, hf, hlen => by cases hr; exact ⟨[], rfl, newL_one rfl rfl hf⟩
  | .str, id, d, p, vs, bs, hr, hf, hlen => by cases hr; exact ⟨[], rfl, newL_one rfl rfl hf⟩
  | .fn1 _ _, id, d, p, vs, bs, hr, hf, hlen => by cases hr; exact ⟨[], rfl, newL_one rfl rfl hf⟩
  | .fn2 _ _ _, id, d, p, vs, bs, hr, hf, hlen => by cases hr; exact ⟨[], rfl, newL_one rfl rfl hf⟩
  | .seq _, id, d, p, vs, bs, hr, hf, hlen => by cases hr; exact ⟨[], rfl, newL_one rfl rfl hf⟩
  | .seq2 _ _, id, d, p, vs, bs, hr, hf, hlen => by cases hr; exact ⟨[], rfl, newL_one rfl rfl hf⟩
  | .map _ _, id, d, p, vs, bs, hr, hf, hlen => by cases hr; exact ⟨[], rfl, newL_one rfl rfl hf⟩
  | .ptr _, id, d, p, vs, bs, hr, hf, hlen => by cases hr; exact ⟨[], rfl, newL_one rfl rfl hf⟩
  | .sliceN _, id, d, p, vs, bs, hr, hf, hlen => by cases hr; exact ⟨[], rfl, newL_one rfl rfl hf⟩

/-- New data in slot d, behind objects that are written no more. -/
theorem news_done (h : Mod P w0 conc st a w) {W0 : W} (hW : FrzW P conc st w (ids W0) W0) {d id : Nat} {x y : Ty} {r : (Ty.pair x y).den} {p : List AVal × W} {st' : ASt} {v : Value} {w' : World}
    (hr : (freshL id (.pair x y) r).run st = some p) (hap : applyU st none ⟨some (d, ⟨[], true, .comp p.1⟩), W0 ++ p.2⟩ = some st') (hk : Keeps w w')
    (hf : FreshP P w.heap.size w' (newOk (okOf (frzL conc (ids W0))) w) (.pair x y) v r) : Models P w0 st' (a.put (some d) v) w' := by
  obtain ⟨conc1, rfl, h1, h2, h3⟩ := frz_done h hW
  obtain ⟨vs, bs, e1, e2, e3, e4, e5⟩ := hf
  obtain ⟨Z, hZ, N⟩ := freshL_spec (st := st) _ hr e5 e4
  have hkeep := fun k => ver_kept hW k
  have hsubN : ∀ conc', Sub w (okOf (frzL conc (ids W0))) (okOf conc') → (∀ b, w.heap.size ≤ b → (∀ z ∈ Z, ¬ hasB z.c b) → okOf conc' b) → Sub w' (fun b => newOk (okOf (frzL conc (ids W0))) w b ∧ b ∉ bs) (okOf conc') := by
    intro conc' g1 g2 b hb _
    by_cases hlt : b < w.heap.size
    · rcases hb.1 with hb1 | hb1
      · exact g1 b hb1 hlt
      · omega
    · exact g2 b (by omega) fun z hz hbl => hb.2 (N.block z hz b hbl).1
  have hver : ∀ z ∈ Z, ∀ cv c0 ow, frzL conc (ids W0) z.k = some (cv, c0, ow) → cv < z.ver := by
    intro z hz cv c0 ow hc
    have hv := hkeep z.k
    rcases N.ver z hz with ⟨q1, q2⟩ | ⟨cv1, o1, q1, q2⟩
    · rw [q1] at hv
      have : frzL conc (ids W0) z.k = none := h1.dead z.k (by
        cases hq : Map.get (setObjs st.heap W0) z.k with
        | none => rfl
        | some q => rw [hq] at hv; cases hv)
      rw [this] at hc; cases hc
    · rw [q1] at hv
      cases hq : Map.get (setObjs st.heap W0) z.k with
      | none => rw [hq] at hv; cases hv
      | some q =>
        obtain ⟨cv2, o2⟩ := q
        rw [hq] at hv
        simp at hv
        obtain ⟨c', ow', g1, _⟩ := h1.heap z.k cv2 o2 hq
        rw [g1] at hc
        cases hc
        omega
  obtain ⟨conc2, k1, k2, k3, k4, k5⟩ := h1.news hk (Z := Z) N.nodup hver (fun z hz b hb => (N.block z hz b hb).2) (N.inj e3) (fun conc' g1 g2 g3 g4 => N.objs conc' (hsubN conc' g2 g4))
  have hs := slot_done (st := st) (W0 := W0 ++ p.2) (d := some d) (s := .comp p.1) (st' := st') (v := v) (conc1 := conc2) (w1 := w') (a := a) (w0 := w0) (P := P)
  refine hs ?_ hap ⟨vs, by rw [e1]; simp [Ty.val, Ty.isPair], e2, N.cells conc2 k4 (hsubN conc2 k3 k5)⟩
  rw [setObjs_append, hZ]
  exact k1

end Go.Abs

set_option linter.unusedSimpArgs false
set_option linter.unusedVariables false
namespace Go.Abs
open Go
variable {P : Program} {E : Env} {w0 : Start} {w : World} {conc : Conc} {st : ASt} {a : Act}

theorem hasB_one {c : Value} {b : Nat} (h1 : one c = true) (h : hasB c b) : blockOf c = some b := by
  cases c <;> first | exact h | cases h1

/-- Objects of the call's own are changed. -/
theorem Mod.swap (h : Mod P w0 conc st a w) {w' : World} {Z : List NewO} (hn : (Z.map (·.k)).Nodup)
    (hold : ∀ z ∈ Z, ∃ v c, conc z.k = some (v, c, true) ∧ (v < z.ver ∨ (z.ver = v ∧ z.c = c)))
    (hos : w'.os = w.os) (htape : w'.tape = w.tape) (hout : w'.output = w.output) (hsz : w.heap.size ≤ w'.heap.size)
    (hkb : ∀ b, b < w.heap.size → (∀ z ∈ Z, ∀ v c, conc z.k = some (v, c, true) → ¬ hasB c b) → w'.heap[b]? = w.heap[b]?)
    (hblk : ∀ z ∈ Z, ∀ b, hasB z.c b → b < w'.heap.size ∧ (w.heap.size ≤ b ∨ ∃ z' ∈ Z, ∃ v c, conc z'.k = some (v, c, true) ∧ hasB c b))
    (hinj : ∀ z ∈ Z, ∀ z' ∈ Z, ∀ b, hasB z.c b → hasB z'.c b → z = z')
    (hO : ∀ conc', CLe conc conc' → Sub w (okOf conc) (okOf conc') → (∀ z ∈ Z, conc' z.k = some (z.ver, z.c, true)) → (∀ b, (w.heap.size ≤ b ∨ ∃ z' ∈ Z, ∃ v c, conc z'.k = some (v, c, true) ∧ hasB c b) → (∀ z ∈ Z, ¬ hasB z.c b) → okOf conc' b) → ∀ z ∈ Z, ORel P w' conc' (okOf conc') z.c true z.o) :
    ∃ conc', Mod P w0 conc' { st with heap := setObjs st.heap (objsOf Z) } a w' ∧ CLe conc conc' ∧ Sub w (okOf conc) (okOf conc') ∧ (∀ z ∈ Z, conc' z.k = some (z.ver, z.c, true)) ∧
      (∀ b, (w.heap.size ≤ b ∨ ∃ z' ∈ Z, ∃ v c, conc z'.k = some (v, c, true) ∧ hasB c b) → (∀ z ∈ Z, ¬ hasB z.c b) → okOf conc' b) := by
  let conc' : Conc := ⟨fun j => match Map.get (concsOf Z) j with
    | some (ver, c) => some (ver, c, true)
    | none => conc j, conc.B, conc.yl⟩
  have hn1 : ((concsOf Z).map (·.1)).Nodup := by simpa [concsOf, List.map_map, Function.comp_def] using hn
  have hn2 : (ids (objsOf Z)).Nodup := by simpa [objsOf, ids, List.map_map, Function.comp_def] using hn
  have isZ : ∀ j ver c, Map.get (concsOf Z) j = some (ver, c) → ∃ z ∈ Z, z.k = j ∧ z.ver = ver ∧ z.c = c := by
    intro j ver c hj
    obtain ⟨z, hz, he⟩ := List.mem_map.1 (map_get_mem' hj)
    simp only [Prod.mk.injEq] at he
    exact ⟨z, hz, he.1, he.2.1, he.2.2⟩
  have atZ : ∀ z ∈ Z, conc' z.k = some (z.ver, z.c, true) := by
    intro z hz
    have := map_get_nodup hn1 (k := z.k) (v := (z.ver, z.c)) (List.mem_map.2 ⟨z, hz, rfl⟩)
    simp only [conc', this]
  have noZ : ∀ j, Map.get (concsOf Z) j = none → conc' j = conc j := fun j hj => by simp only [conc', hj]
  have inZ : ∀ j, Map.get (concsOf Z) j = none → ∀ z ∈ Z, z.k ≠ j := by
    intro j hj z hz e
    have := map_get_nodup hn1 (k := z.k) (v := (z.ver, z.c)) (List.mem_map.2 ⟨z, hz, rfl⟩)
    rw [e, hj] at this
    cases this
  have hle : CLe conc conc' := by
    refine ⟨rfl, ?_⟩
    intro j cv c0 ow hj
    cases hg : Map.get (concsOf Z) j with
    | none => exact ⟨cv, c0, ow, by rw [noZ j hg]; exact hj, .inr ⟨rfl, rfl⟩⟩
    | some p =>
      obtain ⟨z, hz, rfl, _, _⟩ := isZ j p.1 p.2 hg
      obtain ⟨v, c, q1, q2⟩ := hold z hz
      rw [q1] at hj
      cases hj
      exact ⟨z.ver, z.c, true, atZ z hz, q2⟩
  have split : ∀ j v c ow, conc' j = some (v, c, ow) → (∃ z ∈ Z, z.k = j ∧ z.ver = v ∧ z.c = c) ∨ (conc j = some (v, c, ow) ∧ ∀ z ∈ Z, z.k ≠ j) := by
    intro j v c ow hj
    cases hg : Map.get (concsOf Z) j with
    | none => rw [noZ j hg] at hj; exact .inr ⟨hj, inZ j hg⟩
    | some p =>
      obtain ⟨z, hz, rfl, e1, e2⟩ := isZ j p.1 p.2 hg
      rw [atZ z hz] at hj
      cases hj
      exact .inl ⟨z, hz, rfl, rfl, rfl⟩
  have hs : Sub w (okOf conc) (okOf conc') := by
    intro b hb hl
    refine ⟨hb.1, fun j v c hj hbl => ?_⟩
    rcases split j v c true hj with ⟨z, hz, _, _, rfl⟩ | ⟨hj, _⟩
    · rcases (hblk z hz b hbl).2 with g | ⟨z', hz', v', c', g1, g2⟩
      · omega
      · exact hb.2 _ v' c' g1 g2
    · exact hb.2 j v c hj hbl
  have hz : ∀ b, (w.heap.size ≤ b ∨ ∃ z' ∈ Z, ∃ v c, conc z'.k = some (v, c, true) ∧ hasB c b) → (∀ z ∈ Z, ¬ hasB z.c b) → okOf conc' b := by
    intro b hb hnz
    refine ⟨by
      show conc.B b
      rw [h.cB]
      rcases hb with hb | ⟨z', _, v, c, g1, g2⟩
      · exact h.up b (Nat.le_trans h.keeps.size hb)
      · exact h.inB g1 g2, fun j v c hj hbl => ?_⟩
    rcases split j v c true hj with ⟨z, hz, _, _, rfl⟩ | ⟨hj, hne⟩
    · exact hnz z hz hbl
    · rcases hb with hb | ⟨z', hz', v', c', g1, g2⟩
      · have := (h.base j v c b hj hbl).2
        omega
      · exact hne z' hz' (h.inj _ _ v' v c' c b g1 hj g2 hbl)
  have hx : Ext (okOf conc) w w' := ⟨hsz, fun b hb hlt => hkb b hlt fun z _ v c hc hbl => hb.2 _ v c hc hbl⟩
  refine ⟨conc', { defers := h.defers, size := h.size, marks := h.marks, slots := ?_, heap := ?_, dead := ?_, inj := ?_, base := ?_, keeps := ?_, cB := h.cB, cY := h.cY, okS := h.okS, fixed := h.fixed }, hle, hs, atZ, hz⟩
  · intro d sl hd
    obtain ⟨v, h1, h2⟩ := h.slots d sl hd
    exact ⟨v, h1, ⟨fun hl => ⟨(h2.yes hl).1, (h2.yes hl).2.mono hx hs hle⟩, h2.no⟩⟩
  · intro j vj oj hj
    dsimp only at hj
    rcases get_setObjs st.heap (objsOf Z) j with ⟨h1, h2⟩ | ⟨o', h1, h2⟩
    · rw [h1] at hj
      obtain ⟨c0, ow, g1, g2⟩ := h.heap j vj oj hj
      have hg : Map.get (concsOf Z) j = none := by
        cases hg : Map.get (concsOf Z) j with
        | none => rfl
        | some p =>
          obtain ⟨z, hz', rfl, _, _⟩ := isZ j p.1 p.2 hg
          exact absurd (List.mem_map.2 ⟨(z.k, (z.ver, z.o)), List.mem_map.2 ⟨z, hz', rfl⟩, rfl⟩) h2
      refine ⟨c0, ow, by rw [noZ j hg]; exact g1, g2.mono hx hs hle fun eo b hb => ?_⟩
      subst eo
      exact hkb b (h.base j vj c0 b g1 hb).2 fun z hz' v c hc hbl => inZ j hg z hz' (h.inj _ _ v vj c c0 b hc g1 hbl hb)
    · rw [h1] at hj
      cases hj
      obtain ⟨z, hz', he⟩ := List.mem_map.1 h2
      simp only [Prod.mk.injEq] at he
      obtain ⟨rfl, rfl, rfl⟩ := he
      exact ⟨z.c, true, atZ z hz', hO conc' hle hs atZ hz z hz'⟩
  · intro j hj
    dsimp only at hj
    rcases get_setObjs st.heap (objsOf Z) j with ⟨h1, h2⟩ | ⟨o', h1, h2⟩
    · rw [h1] at hj
      cases hg : Map.get (concsOf Z) j with
      | none => rw [noZ j hg]; exact h.dead j hj
      | some p =>
        obtain ⟨z, hz', rfl, _, _⟩ := isZ j p.1 p.2 hg
        exact absurd (List.mem_map.2 ⟨(z.k, (z.ver, z.o)), List.mem_map.2 ⟨z, hz', rfl⟩, rfl⟩) h2
    · rw [h1] at hj; cases hj
  · have cross : ∀ z ∈ Z, ∀ j vj cj b, conc j = some (vj, cj, true) → (∀ z ∈ Z, z.k ≠ j) → hasB z.c b → hasB cj b → False := by
      intro z hz' j vj cj b hj hne hbz hbj
      rcases (hblk z hz' b hbz).2 with g | ⟨z2, hz2, v2, c2, g1, g2⟩
      · have := (h.base j vj cj b hj hbj).2
        omega
      · exact hne z2 hz2 (h.inj _ _ v2 vj c2 cj b g1 hj g2 hbj)
    intro i j vi vj ci cj b hi hj hbi hbj
    rcases split i vi ci true hi with ⟨z, hz', rfl, _, rfl⟩ | ⟨hi', hni⟩
    · rcases split j vj cj true hj with ⟨z2, hz2, rfl, _, rfl⟩ | ⟨hj', hnj⟩
      · rw [hinj z hz' z2 hz2 b hbi hbj]
      · exact (cross z hz' j vj cj b hj' hnj hbi hbj).elim
    · rcases split j vj cj true hj with ⟨z2, hz2, rfl, _, rfl⟩ | ⟨hj', _⟩
      · exact (cross z2 hz2 i vi ci b hi' hni hbj hbi).elim
      · exact h.inj i j vi vj ci cj b hi' hj' hbi hbj
  · intro i vi ci b hi hb
    rcases split i vi ci true hi with ⟨z, hz', rfl, _, rfl⟩ | ⟨hi', _⟩
    · refine ⟨?_, (hblk z hz' b hb).1⟩
      rcases (hblk z hz' b hb).2 with g | ⟨z2, hz2, v2, c2, g1, g2⟩
      · exact .inl (Nat.le_trans h.keeps.size g)
      · exact (h.base _ v2 c2 b g1 g2).1
    · exact ⟨(h.base i vi ci b hi' hb).1, Nat.lt_of_lt_of_le (h.base i vi ci b hi' hb).2 hsz⟩
  · exact ⟨hos.trans h.keeps.os, htape.trans h.keeps.tape, hout.trans h.keeps.output, Nat.le_trans h.keeps.size hsz, fun b hb hm => (hkb b (Nat.lt_of_lt_of_le hb h.keeps.size) fun z hz' v c hc hbl => by
      rcases (h.base _ v c b hc hbl).1 with g | g
      · omega
      · exact hm g).trans (h.keeps.block b hb hm)⟩

/-! A variable of the call's own. -/

theorem oread_one (hE : EnvOK P E) (h : Mod P w0 conc st a w) {t : Ty} {b : AVal} {vs : List Value} {q : t.den × List Nat} (ht : t.isPair = false) (hs : t.sz = 1)
    (hr : ((peekA E t b).bind noW).run st = some q) (hv : All2 (VRel P w conc (okOf conc)) [b] vs) : q.2 = [] ∧ Rep P t w (okOf conc) vs q.1 := by
  obtain ⟨x, g1, g2⟩ := RM.bind_some hr
  obtain ⟨x, m⟩ := x
  cases m with
  | cons _ _ => cases g2
  | nil =>
    cases g2
    cases vs with
    | nil => exact hv.elim
    | cons v vs =>
      cases vs with
      | cons _ _ => exact hv.2.elim
      | nil =>
        obtain ⟨us, e1, e2⟩ := peekA_spec hE h g1 hv.1
        have h2 := (e2 [] (fun _ hi => (by cases hi))).2
        rw [frzL_nil] at h2
        have hlen := h2.len
        rw [hs] at hlen
        match us, hlen with
        | [u], _ =>
          have : v = u := by rw [e1]; simp [Ty.val, ht]
          rw [this]
          exact ⟨rfl, h2⟩

theorem oread_spec (hE : EnvOK P E) (h : Mod P w0 conc st a w) : (t : Ty) → {fl : List Bool} → {l : List AVal} → {vs : List Value} → {q : t.den × List Nat} → (oread E t fl l).run st = some q → All2 (VRel P w conc (okOf conc)) l vs →
    ∃ hs, OCells P w (okOf conc) t fl vs q.1 hs ∧ All2 (fun id c => ∃ cv e l, conc id = some (cv, c, true) ∧ Map.get st.heap id = some (cv, .buf e l)) q.2 hs
  | .unit, fl, l, vs, q, hr, hv => by
    cases l with
    | nil =>
      cases fl <;> (simp only [oread] at hr; cases hr; cases vs with
        | nil => exact ⟨[], ⟨rfl, rfl⟩, trivial⟩
        | cons _ _ => exact hv.elim)
    | cons b l => cases fl with
      | nil => cases hr
      | cons f fl => cases f <;> cases l <;> first | (cases hr; done) | (cases b <;> cases hr)
  | .pair x y, fl, l, vs, q, hr, hv => by
    simp only [oread] at hr
    obtain ⟨p, g1, hr⟩ := RM.bind_some hr
    obtain ⟨r, g2, hr⟩ := RM.bind_some hr
    cases hr
    obtain ⟨h1, a1, b1⟩ := oread_spec hE h x g1 (hv.take _)
    obtain ⟨h2, a2, b2⟩ := oread_spec hE h y g2 (hv.drop _)
    exact ⟨h1 ++ h2, ⟨h1, h2, rfl, a1, a2⟩, b1.append b2⟩
  | .slice e, true :: fl, l, vs, q, hr, hv => by
    match l, hr with
    | [.hand id ver], hr =>
      simp only [oread, RM.run] at hr
      split at hr
      · rename_i cv e' l' ho
        obtain ⟨k1, hr2⟩ := cond_some hr
        clear hr
        have := nbeq_true k1
        subst this
        split at hr2
        · rename_i x hx
          cases hr2
          obtain ⟨e1, he⟩ := castTy_some hx
          have hee : e' = e := by injection e1
          subst hee
          subst he
          match vs, hv with
          | [v], hv =>
            obtain ⟨c, ow, q1, q2⟩ := obj_rel h ho
            obtain ⟨cv', c', ow', r1, _, _, r3⟩ := hv.1
            rw [q1] at r1; cases r1
            have := r3 rfl
            subst this
            obtain ⟨rfl, q2⟩ := q2
            exact ⟨[v], ⟨v, rfl, rfl, q2⟩, ⟨_, _, _, q1, ho⟩, trivial⟩
        · cases hr2
      · cases hr
    | [], hr => cases hr
    | [.pure _ _], hr | [.nils], hr | [.bptr _ _ _], hr | [.pptr _ _], hr | [.eptr _ _ _ _], hr | [.epart _ _ _ _ _], hr | [.fref _], hr | [.flt _], hr | [.nhand _ _], hr | [.nptr _ _ _ _], hr | [.nel _ _ _ _], hr | [.nelp _ _ _ _ _], hr
    | [.oclo _ _ _ _ _], hr | [.junk], hr | [.yld], hr => cases hr
    | x :: _ :: _, hr => cases x <;> cases hr
  | .slice e, false :: fl, [b], vs, q, hr, hv => ⟨[], (by obtain ⟨q1, q2⟩ := oread_one hE h rfl rfl (by simpa only [oread] using hr) hv; exact ⟨⟨rfl, q2⟩, by rw [q1]; trivial⟩)⟩
  | .int _, false :: fl, [b], vs, q, hr, hv => ⟨[], (by obtain ⟨q1, q2⟩ := oread_one hE h rfl rfl (by simpa only [oread] using hr) hv; exact ⟨⟨rfl, q2⟩, by rw [q1]; trivial⟩)⟩
  | .bool, false :: fl, [b], vs, q, hr, hv => ⟨[], (by obtain ⟨q1, q2⟩ := oread_one hE h rfl rfl (by simpa only [oread] using hr) hv; exact ⟨⟨rfl, q2⟩, by rw [q1]; trivial⟩)⟩
  | .str, false :: fl, [b], vs, q, hr, hv => ⟨[], (by obtain ⟨q1, q2⟩ := oread_one hE h rfl rfl (by simpa only [oread] using hr) hv; exact ⟨⟨rfl, q2⟩, by rw [q1]; trivial⟩)⟩
  | .fn1 _ _, _, _, vs, q, hr, hv | .fn2 _ _ _, _, _, vs, q, hr, hv | .seq _, _, _, vs, q, hr, hv | .seq2 _ _, _, _, vs, q, hr, hv | .map _ _, _, _, vs, q, hr, hv | .ptr _, _, _, vs, q, hr, hv | .sliceN _, _, _, vs, q, hr, hv => by cases hr
  | .slice e, [], _, vs, q, hr, hv | .int _, [], _, vs, q, hr, hv | .bool, [], _, vs, q, hr, hv | .str, [], _, vs, q, hr, hv => by cases hr
  | .slice e, false :: _, [], vs, q, hr, hv | .int _, false :: _, [], vs, q, hr, hv | .bool, false :: _, [], vs, q, hr, hv | .str, false :: _, [], vs, q, hr, hv => by cases hr
  | .slice e, false :: _, _ :: _ :: _, vs, q, hr, hv | .int _, false :: _, _ :: _ :: _, vs, q, hr, hv | .bool, false :: _, _ :: _ :: _, vs, q, hr, hv | .str, false :: _, _ :: _ :: _, vs, q, hr, hv => by cases hr
  | .int _, true :: _, l, vs, q, hr, hv | .bool, true :: _, l, vs, q, hr, hv | .str, true :: _, l, vs, q, hr, hv => by cases hr

/-- What is written behind the call: objects Z for the slices. -/
structure Wrote (P : Program) (st : ASt) (w' : World) (ok : Nat → Prop) (L : List Nat) (vs hs : List Value) (cells : List AVal) (objs : W) (Z : List NewO) : Prop where
  eq : objs = objsOf Z
  k : Z.map (·.k) = L
  c : Z.map (·.c) = hs
  ver : ∀ z ∈ Z, ∃ cv e l, Map.get st.heap z.k = some (cv, .buf e l) ∧ z.ver = cv + 1
  cells : ∀ conc', (∀ z ∈ Z, conc' z.k = some (z.ver, z.c, true)) → Sub w' ok (okOf conc') → All2 (VRel P w' conc' (okOf conc')) cells vs
  objs : ∀ conc', Sub w' ok (okOf conc') → ∀ z ∈ Z, ORel P w' conc' (okOf conc') z.c true z.o

theorem wrote_one {w' : World} {ok : Nat → Prop} {t : Ty} {d : t.den} {vs hs : List Value} {L : List Nat} (ht : t.isPair = false) (hs1 : t.sz = 1) (hL : L = []) (h : hs = [] ∧ Rep P t w' ok vs d) :
    ∃ Z, Wrote P st w' ok L vs hs [.pure t d] [] Z := by
  obtain ⟨rfl, h2⟩ := h
  subst hL
  exact ⟨[], { eq := rfl, k := rfl, c := rfl, ver := (fun z hz => (by cases hz)), cells := fun conc' _ hsub => explode_one ht hs1 (h2.re' hsub), objs := (fun _ _ z hz => (by cases hz)) }⟩

theorem noW_nil {t : Ty} {b : AVal} {q : t.den × List Nat} (hr : ((peekA E t b).bind noW).run st = some q) : q.2 = [] := by
  obtain ⟨x, g1, g2⟩ := RM.bind_some hr
  obtain ⟨x, m⟩ := x
  cases m with
  | cons _ _ => cases g2
  | nil => cases g2; rfl

theorem owrite_spec {w' : World} {ok : Nat → Prop} : (t : Ty) → {fl : List Bool} → {l : List AVal} → {q : t.den × List Nat} → (oread E t fl l).run st = some q → {vs : List Value} → {d : t.den} → {hs : List Value} →
    OCells P w' ok t fl vs d hs → ∃ Z, Wrote P st w' ok q.2 vs hs (owrite t fl l d).1 (owrite t fl l d).2 Z
  | .unit, fl, l, q, hr, vs, d, hs, h => by
    obtain ⟨rfl, rfl⟩ := h
    have : q.2 = [] := by
      cases l with
      | nil => cases fl <;> (simp only [oread] at hr; cases hr; rfl)
      | cons b l => cases fl with
        | nil => cases hr
        | cons f fl => cases f <;> cases l <;> first | (cases hr; done) | (cases b <;> cases hr)
    refine ⟨[], { eq := ?_, k := this.symm, c := rfl, ver := (fun z hz => (by cases hz)), cells := ?_, objs := (fun _ _ z hz => (by cases hz)) }⟩
    · cases fl <;> rfl
    · intro conc' _ _
      show All2 _ _ _
      cases fl <;> trivial
  | .pair x y, fl, l, q, hr, vs, d, hs, h => by
    simp only [oread] at hr
    obtain ⟨p, g1, hr⟩ := RM.bind_some hr
    obtain ⟨r, g2, hr⟩ := RM.bind_some hr
    cases hr
    obtain ⟨h1, h2, rfl, a1, a2⟩ := h
    obtain ⟨Z1, N1⟩ := owrite_spec x g1 a1
    obtain ⟨Z2, N2⟩ := owrite_spec y g2 a2
    refine ⟨Z1 ++ Z2, { eq := by simp [owrite, objsOf, N1.eq, N2.eq], k := by simp [N1.k, N2.k], c := by simp [N1.c, N2.c], ver := ?_, cells := ?_, objs := ?_ }⟩
    · intro z hz
      rcases List.mem_append.1 hz with hz | hz
      · exact N1.ver z hz
      · exact N2.ver z hz
    · intro conc' hc hsub
      have := (N1.cells conc' (fun z hz => hc z (List.mem_append_left _ hz)) hsub).append (N2.cells conc' (fun z hz => hc z (List.mem_append_right _ hz)) hsub)
      rw [List.take_append_drop] at this
      simpa only [owrite] using this
    · intro conc' hsub z hz
      rcases List.mem_append.1 hz with hz | hz
      · exact N1.objs conc' hsub z hz
      · exact N2.objs conc' hsub z hz
  | .slice e, true :: fl, l, q, hr, vs, d, hs, h => by
    match l, hr with
    | [.hand id ver], hr =>
      simp only [oread, RM.run] at hr
      split at hr
      · rename_i cv e' l' ho
        obtain ⟨k1, hr2⟩ := cond_some hr
        clear hr
        have := nbeq_true k1
        subst this
        split at hr2
        · rename_i x hx
          cases hr2
          obtain ⟨c, rfl, rfl, hb⟩ := h
          have hone : one c = true := by
            rcases hb with ⟨q, _⟩ | ⟨b, off, cap, cs, T, q, _⟩ <;> rw [q] <;> rfl
          refine ⟨[⟨id, cv + 1, c, .buf e d⟩], { eq := rfl, k := rfl, c := rfl, ver := ?_, cells := ?_, objs := ?_ }⟩
          · intro z hz; rw [List.mem_singleton] at hz; subst hz; exact ⟨_, _, _, ho, rfl⟩
          · intro conc' hc hsub
            exact ⟨⟨_, c, true, hc _ (List.mem_singleton.2 rfl), Nat.le_refl _, hone, fun _ => rfl⟩, trivial⟩
          · intro conc' hsub z hz
            rw [List.mem_singleton] at hz; subst hz
            refine ⟨rfl, ?_⟩
            rcases hb with q | ⟨b, off, cap, cs, T, q1, q2, q3, q4, q5, q6⟩
            · exact .inl q
            · exact .inr ⟨b, off, cap, cs, T, q1, q2, q3, q4, q5, fun i x hi => (q6 i x hi).re' hsub⟩
        · cases hr2
      · cases hr
    | [], hr => cases hr
    | [.pure _ _], hr | [.nils], hr | [.bptr _ _ _], hr | [.pptr _ _], hr | [.eptr _ _ _ _], hr | [.epart _ _ _ _ _], hr | [.fref _], hr | [.flt _], hr | [.nhand _ _], hr | [.nptr _ _ _ _], hr | [.nel _ _ _ _], hr | [.nelp _ _ _ _ _], hr
    | [.oclo _ _ _ _ _], hr | [.junk], hr | [.yld], hr => cases hr
    | x :: _ :: _, hr => cases x <;> cases hr
  | .slice e, false :: fl, [b], q, hr, vs, d, hs, h => wrote_one rfl rfl (noW_nil (by simpa only [oread] using hr)) h
  | .int _, false :: fl, [b], q, hr, vs, d, hs, h => wrote_one rfl rfl (noW_nil (by simpa only [oread] using hr)) h
  | .bool, false :: fl, [b], q, hr, vs, d, hs, h => wrote_one rfl rfl (noW_nil (by simpa only [oread] using hr)) h
  | .str, false :: fl, [b], q, hr, vs, d, hs, h => wrote_one rfl rfl (noW_nil (by simpa only [oread] using hr)) h
  | .fn1 _ _, _, _, q, hr, vs, d, hs, h | .fn2 _ _ _, _, _, q, hr, vs, d, hs, h | .seq _, _, _, q, hr, vs, d, hs, h | .seq2 _ _, _, _, q, hr, vs, d, hs, h | .map _ _, _, _, q, hr, vs, d, hs, h | .ptr _, _, _, q, hr, vs, d, hs, h
  | .sliceN _, _, _, q, hr, vs, d, hs, h => by cases hr
  | .slice e, [], _, q, hr, vs, d, hs, h | .int _, [], _, q, hr, vs, d, hs, h | .bool, [], _, q, hr, vs, d, hs, h | .str, [], _, q, hr, vs, d, hs, h => by cases hr
  | .slice e, false :: _, [], q, hr, vs, d, hs, h | .int _, false :: _, [], q, hr, vs, d, hs, h | .bool, false :: _, [], q, hr, vs, d, hs, h | .str, false :: _, [], q, hr, vs, d, hs, h => by cases hr
  | .slice e, false :: _, _ :: _ :: _, q, hr, vs, d, hs, h | .int _, false :: _, _ :: _ :: _, q, hr, vs, d, hs, h | .bool, false :: _, _ :: _ :: _, q, hr, vs, d, hs, h | .str, false :: _, _ :: _ :: _, q, hr, vs, d, hs, h => by cases hr
  | .int _, true :: _, l, q, hr, vs, d, hs, h | .bool, true :: _, l, q, hr, vs, d, hs, h | .str, true :: _, l, q, hr, vs, d, hs, h => by cases hr

theorem nodupN_ok : {l : List Nat} → nodupN l = true → l.Nodup
  | [], _ => List.nodup_nil
  | i :: r, h => by
    simp only [nodupN, Bool.and_eq_true, Bool.not_eq_true', List.any_eq_false] at h
    refine List.nodup_cons.2 ⟨fun hm => h.1 i hm (by simp [nbeq]), nodupN_ok h.2⟩

theorem All2.left {α β : Type} {R : α → β → Prop} : {l : List α} → {m : List β} → All2 R l m → ∀ x ∈ l, ∃ y ∈ m, R x y
  | [], [], _, x, hx => by cases hx
  | a :: l, b :: m, ⟨h1, h2⟩, x, hx => by
    rcases List.mem_cons.1 hx with rfl | hx
    · exact ⟨b, List.mem_cons_self, h1⟩
    · obtain ⟨y, q1, q2⟩ := All2.left h2 x hx
      exact ⟨y, List.mem_cons_of_mem _ q1, q2⟩
  | [], _ :: _, h, _, _ => h.elim
  | _ :: _, [], h, _, _ => h.elim

theorem All2.right {α β : Type} {R : α → β → Prop} : {l : List α} → {m : List β} → All2 R l m → ∀ y ∈ m, ∃ x ∈ l, R x y
  | [], [], _, x, hx => by cases hx
  | a :: l, b :: m, ⟨h1, h2⟩, y, hy => by
    rcases List.mem_cons.1 hy with rfl | hy
    · exact ⟨a, List.mem_cons_self, h1⟩
    · obtain ⟨x, q1, q2⟩ := All2.right h2 y hy
      exact ⟨x, List.mem_cons_of_mem _ q1, q2⟩
  | [], _ :: _, h, _, _ => h.elim
  | _ :: _, [], h, _, _ => h.elim

def Apart (x y : Value) : Prop := ∀ b, blockOf x = some b → blockOf y ≠ some b

/-- Different objects lie apart. -/
theorem own_apart (h : Mod P w0 conc st a w) : {L : List Nat} → {hs : List Value} → All2 (fun id c => ∃ cv, conc id = some (cv, c, true)) L hs → L.Nodup → hs.Pairwise Apart
  | [], [], _, _ => .nil
  | i :: L, c :: hs, ⟨⟨cv, h1⟩, h2⟩, hn => by
    rw [List.nodup_cons] at hn
    refine .cons (fun y hy b hb hb' => ?_) (own_apart h h2 hn.2)
    obtain ⟨j, hj, cv', h3⟩ := h2.right y hy
    have := h.inj i j cv cv' c y b h1 h3 (hasB_of hb) (hasB_of hb')
    subst this
    exact hn.1 hj
  | [], _ :: _, h, _ => h.elim
  | _ :: _, [], h, _ => h.elim

theorem apart_eq : {Z : List NewO} → (Z.map (·.c)).Pairwise Apart → ∀ z ∈ Z, ∀ z' ∈ Z, ∀ b, blockOf z.c = some b → blockOf z'.c = some b → z = z'
  | [], _, z, hz, _, _, _, _, _ => by cases hz
  | x :: Z, h, z, hz, z', hz', b, hb, hb' => by
    rw [List.map_cons, List.pairwise_cons] at h
    rcases List.mem_cons.1 hz with e1 | e1 <;> rcases List.mem_cons.1 hz' with e2 | e2
    · rw [e1, e2]
    · exact absurd hb' (h.1 _ (List.mem_map.2 ⟨z', e2, rfl⟩) b (by rw [← e1]; exact hb))
    · exact absurd hb (h.1 _ (List.mem_map.2 ⟨z, e1, rfl⟩) b (by rw [← e2]; exact hb'))
    · exact apart_eq h.2 z e1 z' e2 b hb hb'

theorem ocells_blk {w : World} {ok : Nat → Prop} : (t : Ty) → {fl : List Bool} → {vs hs : List Value} → {d : t.den} → OCells P w ok t fl vs d hs → ∀ c ∈ hs, one c = true ∧ ∀ b, blockOf c = some b → b < w.heap.size
  | .unit, fl, vs, hs, d, h, c, hc => by
    obtain ⟨_, rfl⟩ := h
    cases hc
  | .pair x y, fl, vs, hs, d, h, c, hc => by
    obtain ⟨h1, h2, rfl, a1, a2⟩ := h
    rcases List.mem_append.1 hc with hc | hc
    · exact ocells_blk x a1 c hc
    · exact ocells_blk y a2 c hc
  | .slice e, true :: fl, vs, hs, d, h, c, hc => by
    obtain ⟨c', _, rfl, hb⟩ := h
    rw [List.mem_singleton] at hc
    subst hc
    rcases hb with ⟨q, _⟩ | ⟨b, off, cap, cs, T, q, q2, _⟩
    · rw [q]; exact ⟨rfl, fun b hb => (by cases hb)⟩
    · rw [q]
      refine ⟨rfl, fun b' hb => ?_⟩
      cases hb
      exact (Array.getElem?_eq_some_iff.1 q2).1
  | .slice e, false :: fl, vs, hs, d, h, c, hc => by rw [h.1] at hc; cases hc
  | .slice e, [], vs, hs, d, h, c, hc => by rw [h.1] at hc; cases hc
  | .int _, fl, vs, hs, d, h, c, hc => by rw [h.1] at hc; cases hc
  | .bool, fl, vs, hs, d, h, c, hc => by rw [h.1] at hc; cases hc
  | .str, fl, vs, hs, d, h, c, hc => by rw [h.1] at hc; cases hc
  | .fn1 _ _, fl, vs, hs, d, h, c, hc => by rw [h.1] at hc; cases hc
  | .fn2 _ _ _, fl, vs, hs, d, h, c, hc => by rw [h.1] at hc; cases hc
  | .seq _, fl, vs, hs, d, h, c, hc => by rw [h.1] at hc; cases hc
  | .seq2 _ _, fl, vs, hs, d, h, c, hc => by rw [h.1] at hc; cases hc
  | .map _ _, fl, vs, hs, d, h, c, hc => by rw [h.1] at hc; cases hc
  | .ptr _, fl, vs, hs, d, h, c, hc => by rw [h.1] at hc; cases hc
  | .sliceN _, fl, vs, hs, d, h, c, hc => by rw [h.1] at hc; cases hc

theorem tup_mem {vs : List Value} {b : Nat} : hasB (.tuple vs.toArray) b ↔ ∃ v ∈ vs, blockOf v = some b := by
  show (∃ v ∈ (vs.toArray).toList, blockOf v = some b) ↔ _
  rw [List.toList_toArray]

/-- A variable of the call's own, as a call finds it. -/
theorem ovar_of (hE : EnvOK P E) (h : Mod P w0 conc st a w) {id cv : Nat} {t : Ty} {fl : List Bool} {cells : List AVal} {q : t.den × List Nat} {pv : Value} (ho : Map.get st.heap id = some (cv, .box t cells))
    (hv : VRel P w conc (okOf conc) (.bptr id cv 0) pv) (hr : (oread E t fl cells).run st = some q) (hn : (id :: q.2).Nodup) :
    ∃ hs, OVar P w (okOf conc) t fl pv q.1 hs ∧ conc id = some (cv, pv, true) ∧ All2 (fun id c => ∃ cv e l, conc id = some (cv, c, true) ∧ Map.get st.heap id = some (cv, .buf e l)) q.2 hs := by
  obtain ⟨c, ow, q1, q2⟩ := obj_rel h ho
  obtain ⟨cv', c', ow', r1, _, _, r3⟩ := hv
  rw [q1] at r1; cases r1
  obtain ⟨b, e1, e2⟩ := r3 rfl
  obtain ⟨rfl, b', cs, T, f1, f2, f3, f4, f5⟩ := q2
  have : pv = c := by rw [e1, e2]
  subst this
  rw [e1] at f1
  cases f1
  obtain ⟨hs, k1, k2⟩ := oread_spec hE h t hr f5
  refine ⟨hs, ⟨b, cs, T, e1, f2, ?_, f4, k1, ?_⟩, q1, k2⟩
  · rw [← f3, f5.length, Array.length_toList]
  · have := own_apart h (L := id :: q.2) (hs := pv :: hs) ⟨⟨cv, q1⟩, k2.imp fun _ _ ⟨cv, _, _, g, _⟩ => ⟨cv, g⟩⟩ hn
    exact this

theorem objCall_ok (hE : EnvOK P E) (h : Mod P w0 conc st a w) {o : Oper} {f : Nat} {c : OCon} (hO : Map.get E.O f = some c) {p : AVal} {pv : Value} {args : List Operand} {qs : List Value} {y : denL c.caps} {av : Array Value}
    (hex : (execOp a.eval o).run P w = .ok (.enter f av) w) (hargs : av = (bif c.clo then args.map a.eval ++ qs ++ [pv] else pv :: (args.map a.eval ++ qs)).toArray)
    (hp : VRel P w conc (okOf conc) p pv) (hy : CapsRep P w (okOf conc) c.caps qs y) {u : Upd} {st' : ASt} (hr : (objCall E o.dst c p args y).run st = some u) (hap : applyU st none u = some st') : OpOK P w0 o a w st' := by
  obtain ⟨hb, hflat, hcon⟩ := hE.oc f c hO
  unfold objCall at hr
  split at hr
  · rename_i id ver off
    obtain ⟨ss, g1, hr⟩ := RM.bind_some hr
    obtain ⟨x, g2, hr⟩ := RM.bind_some hr
    simp only [RM.run] at hr
    split at hr
    · rename_i cv t cells ho
      obtain ⟨g3, hr1⟩ := cond_some hr
      clear hr
      simp only [Bool.and_eq_true] at g3
      have := nbeq_true g3.1
      subst this
      have := nbeq_true g3.2
      subst this
      split at hr1
      · rename_i hx2
        split at hr1
        · rename_i ht
          subst ht
          obtain ⟨q, g4, hr2⟩ := RM.bind_some hr1
          obtain ⟨g5, hr3⟩ := cond_some hr2
          obtain ⟨r, g6, hr4⟩ := RM.opt_some hr3
          cases hr4
          have hnd := nodupN_ok g5
          obtain ⟨hs, hov, hid, hown⟩ := ovar_of hE h ho hp g4 hnd
          have hpk := packArgs_spec hE h c.ins g2 (rdS_rel h (labs_nil _) g1) [] (fun i hi => by rw [hx2] at hi; cases hi)
          have hpk2 := hpk.2
          rw [frzL_nil] at hpk2
          have hmem : ∀ v ∈ pv :: hs, ∃ j ∈ id :: q.2, ∃ cv, conc j = some (cv, v, true) := by
            intro v hv
            rcases List.mem_cons.1 hv with rfl | hv
            · exact ⟨id, List.mem_cons_self, _, hid⟩
            · obtain ⟨j, hj, cv', _, _, g, _⟩ := hown.right v hv
              exact ⟨j, List.mem_cons_of_mem _ hj, cv', g⟩
          have hnok : ∀ b, hasB (.tuple (pv :: hs).toArray) b → ¬ okOf conc b := by
            intro b hb hok
            obtain ⟨v, hv, hbv⟩ := tup_mem.1 hb
            obtain ⟨j, _, cv', hj⟩ := hmem v hv
            exact hok.2 j cv' v hj (hasB_of hbv)
          have hcall := hcon w (okOf conc) pv q.1 hs (args.map a.eval) qs x.1 y r hov hnok hpk2 hy g6
          rw [← hargs] at hcall
          refine OpOK.enter hex hcall ?_
          rintro v w' ⟨hk, hres, hs', hov', hblk⟩
          obtain ⟨b, cs, T, e1, e2, e3, e4, e5, e6⟩ := hov'
          obtain ⟨Z, N⟩ := owrite_spec (st := st) (w' := w') c.t g4 e5
          have hkids : ∀ z ∈ Z, ∃ cv c0, conc z.k = some (cv, c0, true) ∧ z.ver = cv + 1 ∧ c0 ∈ hs := by
            intro z hz
            have hz2 : z.k ∈ q.2 := by rw [← N.k]; exact List.mem_map.2 ⟨z, hz, rfl⟩
            obtain ⟨c0, hc0, cv1, e1', l1', k1, k2⟩ := hown.left z.k hz2
            obtain ⟨cv2, e2', l2', k3, k4⟩ := N.ver z hz
            rw [k2] at k3
            cases k3
            exact ⟨cv1, c0, k1, k4, hc0⟩
          let z0 : NewO := ⟨id, cv, pv, .box c.t (owrite c.t c.own cells r.1).1⟩
          have hZ0 : objsOf (z0 :: Z) = (id, (cv, .box c.t (owrite c.t c.own cells r.1).1)) :: (owrite c.t c.own cells r.1).2 := by
            rw [N.eq]; rfl
          have hcs : (z0 :: Z).map (·.c) = pv :: hs' := by rw [List.map_cons, N.c]
          have honeZ : ∀ z ∈ z0 :: Z, one z.c = true ∧ (∀ b', blockOf z.c = some b' → b' < w'.heap.size) ∧ z.c ∈ pv :: hs' := by
            intro z hz
            rcases List.mem_cons.1 hz with rfl | hz
            · refine ⟨by show one pv = true; rw [e1]; rfl, fun b' hb' => ?_, List.mem_cons_self⟩
              rw [show z0.c = pv from rfl, e1] at hb'
              cases hb'
              exact (Array.getElem?_eq_some_iff.1 e2).1
            · have hzc : z.c ∈ hs' := by rw [← N.c]; exact List.mem_map.2 ⟨z, hz, rfl⟩
              obtain ⟨k1, k2⟩ := ocells_blk c.t e5 z.c hzc
              exact ⟨k1, k2, List.mem_cons_of_mem _ hzc⟩
          have hold : ∀ z ∈ z0 :: Z, ∃ v c, conc z.k = some (v, c, true) ∧ (v < z.ver ∨ (z.ver = v ∧ z.c = c)) := by
            intro z hz
            rcases List.mem_cons.1 hz with rfl | hz
            · exact ⟨cv, pv, hid, .inr ⟨rfl, rfl⟩⟩
            · obtain ⟨cv1, c0, k1, k2, _⟩ := hkids z hz
              exact ⟨cv1, c0, k1, .inl (by omega)⟩
          have hmemZ : ∀ v ∈ pv :: hs, ∃ z ∈ z0 :: Z, ∃ cv, conc z.k = some (cv, v, true) := by
            intro v hv
            obtain ⟨j, hj, cv1, k1⟩ := hmem v hv
            rcases List.mem_cons.1 hj with rfl | hj
            · exact ⟨z0, List.mem_cons_self, cv1, k1⟩
            · rw [← N.k] at hj
              obtain ⟨z, hz, rfl⟩ := List.mem_map.1 hj
              exact ⟨z, List.mem_cons_of_mem _ hz, cv1, k1⟩
          have hinZ : ∀ z ∈ z0 :: Z, ∀ v c0, conc z.k = some (v, c0, true) → c0 ∈ pv :: hs := by
            intro z hz v c0 hc0
            rcases List.mem_cons.1 hz with rfl | hz
            · rw [show z0.k = id from rfl, hid] at hc0
              cases hc0
              exact List.mem_cons_self
            · obtain ⟨cv1, c1, k1, k2, k3⟩ := hkids z hz
              rw [k1] at hc0
              cases hc0
              exact List.mem_cons_of_mem _ k3
          obtain ⟨conc', m1, m2, m3, m4, m5⟩ := h.swap (w' := w') (Z := z0 :: Z) (by rw [List.map_cons, N.k]; exact hnd) hold hk.os hk.tape hk.output hk.size
            (fun b' hlt hne => hk.block b' hlt fun hb' => by
              obtain ⟨v', hv', hbv⟩ := tup_mem.1 hb'
              obtain ⟨z, hz, cv1, k1⟩ := hmemZ v' hv'
              exact hne z hz cv1 v' k1 (hasB_of hbv))
            (fun z hz b' hb' => by
              obtain ⟨k1, k2, k3⟩ := honeZ z hz
              have hbo := hasB_one k1 hb'
              refine ⟨k2 b' hbo, ?_⟩
              rcases hblk b' (tup_mem.2 ⟨z.c, k3, hbo⟩) with g | g
              · obtain ⟨v', hv', hbv⟩ := tup_mem.1 g
                obtain ⟨z', hz', cv1, k4⟩ := hmemZ v' hv'
                exact .inr ⟨z', hz', cv1, v', k4, hasB_of hbv⟩
              · exact .inl g)
            (fun z hz z' hz' b' hb1 hb2 => apart_eq (by rw [hcs]; exact e6) z hz z' hz' b' (hasB_one (honeZ z hz).1 hb1) (hasB_one (honeZ z' hz').1 hb2))
            (fun conc' k1 k2 k3 k4 => by
              have hsub : Sub w' (fun b => (newOk (okOf conc) w b ∨ hasB (.tuple (pv :: hs).toArray) b) ∧ ¬ hasB (.tuple (pv :: hs').toArray) b) (okOf conc') := by
                intro b' hb' _
                have hno : ∀ z ∈ z0 :: Z, ¬ hasB z.c b' := fun z hz hbz => hb'.2 (tup_mem.2 ⟨z.c, (honeZ z hz).2.2, hasB_one (honeZ z hz).1 hbz⟩)
                by_cases hlt : b' < w.heap.size
                · rcases hb'.1 with (g | g) | g
                  · exact k2 b' g hlt
                  · omega
                  · obtain ⟨v', hv', hbv⟩ := tup_mem.1 g
                    obtain ⟨z', hz', cv1, k5⟩ := hmemZ v' hv'
                    exact k4 b' (.inr ⟨z', hz', cv1, v', k5, hasB_of hbv⟩) hno
                · exact k4 b' (.inl (by omega)) hno
              intro z hz
              rcases List.mem_cons.1 hz with rfl | hz
              · have hc2 := N.cells conc' (fun z hz => k3 z (List.mem_cons_of_mem _ hz)) hsub
                exact ⟨rfl, b, cs, T, e1, e2, by rw [hc2.length, Array.length_toList, e3], e4, hc2⟩
              · exact N.objs conc' hsub z hz)
          have hap' : applyU st none (.slot o.dst [] true (resS c.outs r.2) (objsOf (z0 :: Z))) = some st' := by
            rw [← hap, hZ0]
            cases o.dst <;> rfl
          refine slot_done (conc1 := conc') m1 hap' (resS_rel c.outs (ResRep.flat c.outs hflat hres))
        · cases hr1
      · cases hr1
    · cases hr
  · cases hr

theorem oCall_ok (hE : EnvOK P E) (h : Mod P w0 conc st a w) {o : Oper} {f : Operand} {args : Array Operand} {tys : Array TypeId} (hop : o.op = .call { callee := .value f, args := args, argTypes := tys })
    {u : Upd} {st' : ASt} (hr : (oCallOp E o.dst f args.toList).run st = some (some u)) (hap : applyU st none u = some st') : OpOK P w0 o a w st' := by
  unfold oCallOp at hr
  split at hr
  · rename_i g
    split at hr
    · rename_i t own ins outs fn x r hO hargs
      obtain ⟨p, g1, hr⟩ := RM.bind_some hr
      obtain ⟨u', g2, hr⟩ := RM.bind_some hr
      cases hr
      have hb := (hE.oc g _ hO).1
      have hex := exec_call (P := P) (w := w) (a := a) hop (fid := g) (first := #[]) (cap := #[]) rfl hb
      refine objCall_ok hE h hO (qs := []) (pv := a.eval x) hex ?_ (rdA_rel h (labs_nil _) g1) rfl g2 hap
      apply Array.ext'
      simp [hargs]
    · cases hr
    · cases hr
  · rename_i t
    obtain ⟨b, g1, hr⟩ := RM.bind_some hr
    have hv := rdA_rel h (labs_nil _) g1
    split at hr
    · rename_i g s d id ver
      split at hr
      · rename_i t' own ins s' outs fn hO
        split at hr
        · rename_i hs
          subst hs
          obtain ⟨u', g2, hr⟩ := RM.bind_some hr
          cases hr
          have hb := (hE.oc g _ hO).1
          obtain ⟨cv, c, ow, q, p, k1, k2, k3, k4, k5, k6⟩ := hv
          have hex := exec_call (P := P) (w := w) (a := a) hop (fid := g) (first := #[]) (cap := #[q, p]) k3 hb
          refine objCall_ok hE h hO (p := .bptr id ver 0) (qs := [q]) (pv := p) hex ?_ ⟨cv, c, ow, k1, k2, k4, fun e => ?_⟩ ⟨q, rfl, k6⟩ g2 hap
          · apply Array.ext'
            simp
          · obtain ⟨b, e1, e2⟩ := k5 e
            exact ⟨b, e1, e2.trans e1⟩
        · cases hr
      · cases hr
    · cases hr
  · cases hr

theorem oMake_ok (hE : EnvOK P E) (h : Mod P w0 conc st a w) {o : Oper} {f : Nat} {first cap : Array Operand} (hop : o.op = .makeFunc (.func f) first cap) (hfi : first.toList.isEmpty = true) {c : OCon}
    {u : Upd} {st' : ASt} (hr : (oMake E o.dst f c cap.toList).run st = some u) (hap : applyU st none u = some st') : OpOK P w0 o a w st' := by
  unfold oMake at hr
  split at hr
  · rename_i t own ins s outs fn x y hcap
    obtain ⟨d, g1, hr⟩ := RM.bind_some hr
    obtain ⟨b, g2, hr⟩ := RM.bind_some hr
    split at hr
    · rename_i id ver off
      simp only [RM.run] at hr
      split at hr
      · rename_i cv t' cells ho
        obtain ⟨g3, hr1⟩ := cond_some hr
        clear hr
        simp only [Bool.and_eq_true] at g3
        have := nbeq_true g3.1.1
        subst this
        have := nbeq_true g3.1.2
        subst this
        split at hr1
        · rename_i ht
          cases hr1
          have hn : id ∉ ids d.2 := by
            intro hm
            obtain ⟨p, hp, he⟩ := List.mem_map.1 hm
            have := List.all_eq_true.1 g3.2 p hp
            simp [nbeq, he] at this
          obtain ⟨k1, k2⟩ := cap1_spec hE h g1 (ids d.2) fun _ h => h
          obtain ⟨c1, ow, q1, q2⟩ := obj_rel h ho
          obtain ⟨cv', c', ow', r1, _, r2, r3⟩ := rdA_rel h (labs_nil _) g2
          rw [q1] at r1; cases r1
          obtain ⟨b, e1, e2⟩ := r3 rfl
          obtain ⟨rfl, _⟩ := q2
          have hfi : first = #[] := by
            have : first.toList = [] := by simpa using hfi
            rw [← Array.toArray_toList (xs := first), this]
          subst hfi
          refine OpOK.value (v := .func (.func f) #[] (cap.map a.eval)) (w' := w) ?_ ?_
          · simp [execOp, hop, Instr.makeFunc]
          · refine slot_done (h.freeze k1) hap ⟨cv, c1, true, a.eval x, a.eval y, by simp [frzL, q1, hn], Nat.le_refl _, ?_, r2, fun _ => ⟨b, e1, e2.trans e1.symm⟩, k2⟩
            have : cap.map a.eval = #[a.eval x, a.eval y] := by
              apply Array.ext'
              simp [hcap]
            rw [this]
        · cases hr1
      · cases hr
    · cases hr
  · cases hr

end Go.Abs

set_option linter.unusedSimpArgs false
set_option linter.unusedVariables false
namespace Go.Abs
open Go
variable {P : Program} {E : Env} {w0 : Start} {w : World} {conc : Conc} {st : ASt} {a : Act}

theorem CapsRep.mono {w' : World} {ok ok' : Nat → Prop} (hx : Ext ok w w') (hs : Sub w ok ok') : (ts : List Ty) → {vs : List Value} → {x : denL ts} → CapsRep P w ok ts vs x → CapsRep P w' ok' ts vs x
  | [], vs, x, h => h
  | [t], vs, x, ⟨v, h1, h2⟩ => ⟨v, h1, ptr h2⟩
  | t :: u :: ts, vs, x, ⟨v, r, h1, h2, h3⟩ => ⟨v, r, h1, ptr h2, CapsRep.mono hx hs (u :: ts) h3⟩
where
  ptr {t : Ty} {v : Value} {d : t.den} (h : PtrRep P w ok t v d) : PtrRep P w' ok' t v d := by
    obtain ⟨b, off, cs, T, fr, h1, h2, h3, h4, h5⟩ := h
    exact ⟨b, off, cs, T, fr, h1, hs b h2 (Array.getElem?_eq_some_iff.1 h3).1, (hx.block b h2 (Array.getElem?_eq_some_iff.1 h3).1).trans h3, h4, h5.mono t hx hs⟩

theorem funOf_spec (hE : EnvOK P E) (h : Mod P w0 conc st a w) {f : Nat} {c : Con} (hc : Map.get E.C f = some c) {y : denL c.caps} {cvs : List Value} {W1 : W} (hcaps : PackedC P conc st w c.caps y cvs W1)
    {l : List SVal} {fvs : List Value} (hl : All2 (SRel P w conc (okOf conc)) l fvs) {p : AVal × W} (hr : (funOf E c y l).run st = some p) :
    ∀ F, (∀ id ∈ ids (W1 ++ p.2), id ∈ F) → FrzW P conc st w F (W1 ++ p.2) ∧ VRel P w (frzL conc F) (okOf (frzL conc F)) p.1 (.func (.func f) fvs.toArray cvs.toArray) := by
  obtain ⟨hb, hcon⟩ := hE.con f c hc
  obtain ⟨ins, caps, outs, fn, fresh⟩ := c
  intro F hF
  obtain ⟨k1, k2⟩ := hcaps F fun id hi => hF id (by rw [ids_append]; exact List.mem_append_left _ hi)
  dsimp only [funOf] at hr
  unfold funOfL at hr
  split at hr
  · rename_i a' r' fn' y
    cases hr
    cases fvs with
    | cons _ _ => exact hl.elim
    | nil =>
      refine ⟨by simpa using k1, [_], rfl, f, _, _, rfl, hb, fun w' ok' hx hs xs x hxs z hz => ?_⟩
      have := hcon w' ok' [a'.val xs] cvs x y z ⟨xs, rfl, hxs⟩ (k2.mono hx hs caps) hz
      refine Calls.mono (by simpa using this) ?_
      rintro e w'' ⟨v, h1, h2, ⟨cs, h3, h4⟩, _⟩
      exact ⟨cs, by rw [h1, h3], h2, h4⟩
  · rename_i a' b' r' fn' y
    cases hr
    cases fvs with
    | cons _ _ => exact hl.elim
    | nil =>
      refine ⟨by simpa using k1, [_], rfl, f, _, _, rfl, hb, fun w' ok' hx hs xs x xs' x' hxs hxs' z hz => ?_⟩
      have := hcon w' ok' [a'.val xs, b'.val xs'] cvs (x, x') y z ⟨xs, _, rfl, hxs, xs', rfl, hxs'⟩ (k2.mono hx hs caps) hz
      refine Calls.mono (by simpa using this) ?_
      rintro e w'' ⟨v, h1, h2, ⟨cs, h3, h4⟩, _⟩
      exact ⟨cs, by rw [h1, h3], h2, h4⟩
  · rename_i t' a' r' s' fn' y
    obtain ⟨d, g1, g2⟩ := RM.bind_some hr
    cases g2
    match fvs, hl with
    | [fv], hl =>
      obtain ⟨us, e1, e2⟩ := peek_spec hE h g1 hl.1
      obtain ⟨m1, m2⟩ := e2 F fun id hi => hF id (by rw [ids_append]; exact List.mem_append_right _ hi)
      refine ⟨k1.append m1, [_], rfl, f, _, _, rfl, hb, fun w' ok' hx hs xs x hxs z hz => ?_⟩
      have := hcon w' ok' [fv, a'.val xs] cvs (d.1, x) y z ⟨us, _, by rw [e1], m2.mono t' hx hs, xs, rfl, hxs⟩ (k2.mono hx hs caps) hz
      refine Calls.mono (by simpa using this) ?_
      rintro e w'' ⟨v, h1, h2, ⟨cs, h3, h4⟩, _⟩
      exact ⟨cs, by rw [h1, h3], h2, h4⟩
    | [], hl => exact hl.elim
    | _ :: _ :: _, hl => exact hl.2.elim
  · rename_i t' a' b' r' s' fn' y
    obtain ⟨d, g1, g2⟩ := RM.bind_some hr
    cases g2
    match fvs, hl with
    | [fv], hl =>
      obtain ⟨us, e1, e2⟩ := peek_spec hE h g1 hl.1
      obtain ⟨m1, m2⟩ := e2 F fun id hi => hF id (by rw [ids_append]; exact List.mem_append_right _ hi)
      refine ⟨k1.append m1, [_], rfl, f, _, _, rfl, hb, fun w' ok' hx hs xs x xs' x' hxs hxs' z hz => ?_⟩
      have := hcon w' ok' [fv, a'.val xs, b'.val xs'] cvs (d.1, x, x') y z ⟨us, _, by rw [e1], m2.mono t' hx hs, xs, _, rfl, hxs, xs', rfl, hxs'⟩ (k2.mono hx hs caps) hz
      refine Calls.mono (by simpa using this) ?_
      rintro e w'' ⟨v, h1, h2, ⟨cs, h3, h4⟩, _⟩
      exact ⟨cs, by rw [h1, h3], h2, h4⟩
    | [], hl => exact hl.elim
    | _ :: _ :: _, hl => exact hl.2.elim
  · cases hr

theorem makeFunc_ok (hE : EnvOK P E) (h : Mod P w0 conc st a w) {o : Oper} {f : Nat} {first cap : Array Operand} (hop : o.op = .makeFunc (.func f) first cap) {c : Con} (hc : Map.get E.C f = some c)
    {y : denL c.caps × W} (hy : (capsOf E c.caps cap.toList).run st = some y) {l : List SVal} (hl : (rdS [] first.toList).run st = some l) {p : AVal × W} (hp : (funOf E c y.1 l).run st = some p) {st' : ASt}
    (hap : applyU st none (.slot o.dst [] true (.v p.1) (y.2 ++ p.2)) = some st') : OpOK P w0 o a w st' := by
  have hk := funOf_spec hE h hc (capsOf_spec hE h c.caps hy) (rdS_rel h (labs_nil _) hl) hp (ids (y.2 ++ p.2)) fun _ h => h
  obtain ⟨k1, k2⟩ := hk
  refine OpOK.value (v := .func (.func f) (first.map a.eval) (cap.map a.eval)) (w' := w) ?_ ?_
  · simp only [execOp, hop, Instr.makeFunc]; rfl
  · refine slot_done (h.freeze k1) hap ?_
    have e1 : first.map a.eval = (first.toList.map a.eval).toArray := by apply Array.ext'; simp
    have e2 : cap.map a.eval = (cap.toList.map a.eval).toArray := by apply Array.ext'; simp
    rw [e1, e2]
    exact k2

theorem makeIt_ok (hE : EnvOK P E) (h : Mod P w0 conc st a w) {o : Oper} {f : Nat} {first cap : Array Operand} (hop : o.op = .makeFunc (.func f) first cap) (hfi : first.toList.isEmpty = true) {c : ICon} (hc : Map.get E.I f = some c)
    {y : denL c.caps × W} (hy : (capsOf E c.caps cap.toList).run st = some y) {xs : c.out.den} (hx : c.fn y.1 = some xs) {st' : ASt}
    (hap : applyU st none (.slot o.dst [] true (.v (.pure c.out xs)) y.2) = some st') : OpOK P w0 o a w st' := by
  obtain ⟨k1, k2⟩ := capsOf_spec hE h c.caps hy (ids y.2) fun _ h => h
  obtain ⟨i1, i2⟩ := hE.it f c hc
  have hfi : first = #[] := by
    have : first.toList = [] := by simpa using hfi
    rw [← Array.toArray_toList (xs := first), this]
  subst hfi
  refine OpOK.value (v := .func (.func f) #[] (cap.map a.eval)) (w' := w) ?_ ?_
  · simp [execOp, hop, Instr.makeFunc]
  · refine slot_done (h.freeze k1) hap ⟨[_], ?_, i2 _ _ _ _ _ k2 hx⟩
    have e2 : cap.map a.eval = (cap.toList.map a.eval).toArray := by apply Array.ext'; simp
    rw [e2]
    simp [Ty.val, i1]

theorem call_ok (h : Mod P w0 conc st a w) {o : Oper} {q : (Bool × SVal) × W} (hq : CallOK P conc st a w o q) {u : Upd} {st' : ASt} (hr : (callUpd o.dst q).run st = some u) (hap : applyU st none u = some st') : OpOK P w0 o a w st' := by
  obtain ⟨hfrz, fid, args, hex, hcall⟩ := hq
  refine OpOK.enter hex hcall ?_
  rintro v w' ⟨e2, e3, e4⟩
  unfold callUpd at hr
  split at hr
  · rename_i e l d hfr hs hd
    have hfresh := (e4 hfr).1 e l hs
    rw [hd]
    rcases hfresh with ⟨f1, f2⟩ | ⟨b, off, cap, cs, T, f1, f2, f3, f4, f5, f6, f7⟩
    · subst f2
      refine new_done h hfrz hr hap e2 (fun b hb => by rw [f1] at hb; cases hb) (fun conc' g1 g2 g3 => ⟨rfl, .inl ⟨f1, rfl⟩⟩)
        (fun conc' ver hc => ⟨ver, _, true, hc, Nat.le_refl _, by rw [f1]; rfl, fun _ => rfl⟩)
    · rw [f1]
      exact buf_newO h hfrz hr hap f4 f5 f6 e2 f2 f3 fun i x hi => (f7 i x hi).mono e ⟨Nat.le_refl _, fun _ _ _ => rfl⟩ (fun b' hb' _ => ⟨hb'.1, hb'.2⟩)
  · rename_i x y r d hfr hs hd
    obtain ⟨p, g1, g2⟩ := RM.bind_some hr
    cases g2
    rw [hd]
    exact news_done h hfrz g1 hap e2 ((e4 hfr).2 x y r hs)
  · cases hr
    exact slot_done ((h.freeze hfrz).grow e2) hap e3

/-- A call that changes a slice of the call's own. -/
theorem mut_ok (hE : EnvOK P E) (h : Mod P w0 conc st a w) {o : Oper} {f : Nat} {args : Array Operand} {tys : Array TypeId} (hop : o.op = .call { callee := .value (.func f), args := args, argTypes := tys }) {c : MCon} (hM : Map.get E.M f = some c)
    {u : Upd} {st' : ASt} (hr : (mutOp E o.dst c args.toList).run st = some u) (hap : applyU st none u = some st') : OpOK P w0 o a w st' := by
  obtain ⟨hb, hcon⟩ := hE.mu f c hM
  obtain ⟨el, ins, fn, back⟩ := c
  cases hargs : args.toList with
  | nil => rw [hargs] at hr; cases hr
  | cons x xs =>
    rw [hargs] at hr
    simp only [mutOp] at hr
    obtain ⟨b, g1, hr⟩ := RM.bind_some hr
    cases b <;> simp only at hr <;> try (cases hr; done)
    rename_i id ver
    obtain ⟨ss, g2, hr⟩ := RM.bind_some hr
    obtain ⟨y, g3, hr⟩ := RM.bind_some hr
    simp only [RM.run] at hr
    split at hr
    · rename_i cv e l ho
      obtain ⟨g4, hr1⟩ := cond_some hr
      clear hr
      simp only [Bool.and_eq_true] at g4
      have := nbeq_true g4.1
      subst this
      split at hr1
      · rename_i hh
        subst hh
        obtain ⟨l', g5, hr2⟩ := RM.opt_some hr1
        have hn : id ∉ ids y.2 := by
          intro hm
          obtain ⟨p, hp, he⟩ := List.mem_map.1 hm
          have := List.all_eq_true.1 g4.2 p hp
          simp [nbeq, he] at this
        obtain ⟨cc, ow, k1, k2⟩ := obj_rel h ho
        obtain ⟨cv', c', ow', m1, _, _, m3⟩ := rdA_rel h (labs_nil _) g1
        rw [k1] at m1; cases m1
        have hv := m3 rfl
        subst hv
        obtain ⟨rfl, k2⟩ := k2
        obtain ⟨hfz, hpk⟩ := packArgs_spec hE h ins g3 (rdS_rel h (labs_nil _) g2) (ids y.2) (fun _ h => h)
        have hfi : frzL conc (ids y.2) id = some (cv, a.eval x, true) := by simp [frzL, k1, hn]
        have hown : OwnBuf P w (okOf (frzL conc (ids y.2))) e (a.eval x) l := by
          rcases k2 with q | ⟨b, off, cap, cs, T, q1, q2, q3, q4, q5, q6⟩
          · exact .inl q
          · exact .inr ⟨b, off, cap, cs, T, q1, q2, q3, q4, q5, fun i z hz => (q6 i z hz).mono e ⟨Nat.le_refl _, fun _ _ _ => rfl⟩ (frzL_sub w conc (ids y.2))⟩
        have hnok : ∀ b, hasB (a.eval x) b → ¬ okOf (frzL conc (ids y.2)) b := fun b hb hok => hok.2 id cv _ hfi hb
        have hex := exec_call (P := P) (w := w) (a := a) hop (fid := f) (first := #[]) (cap := #[]) rfl hb
        have hae : (#[] ++ args.map a.eval ++ #[] : Array Value) = (a.eval x :: xs.map a.eval).toArray := by
          apply Array.ext'
          simp [hargs]
        rw [hae] at hex
        refine OpOK.enter hex (hcon w _ (a.eval x) (xs.map a.eval) l y.1 l' hown hpk hnok g5) ?_
        rintro r w' ⟨hk, hres⟩
        obtain ⟨conc1, rfl, h1, _, _⟩ := frz_done h hfz
        have up : ∀ (c2 : Value) (conc' : Conc), Ext (okOf (frzL conc (ids y.2))) w w' → Sub w (okOf (frzL conc (ids y.2))) (okOf conc') → (∀ b, w.heap.size ≤ b → ¬ hasB c2 b → okOf conc' b) → (∀ b, hasB c2 b → b < w.heap.size) →
            OwnBuf P w' (newOk (okOf (frzL conc (ids y.2))) w) e c2 l' → ORel P w' conc' (okOf conc') c2 true (.buf e l') := by
          intro c2 conc' _ g2 g3 g4 ho
          refine ⟨rfl, ?_⟩
          rcases ho with q | ⟨b, off, cap, cs, T, q1, q2, q3, q4, q5, q6⟩
          · exact .inl q
          · refine .inr ⟨b, off, cap, cs, T, q1, q2, q3, q4, q5, fun i z hz => (q6 i z hz).mono e ⟨Nat.le_refl _, fun _ _ _ => rfl⟩ fun b' hb' _ => ?_⟩
            rcases Nat.lt_or_ge b' w.heap.size with hlt | hge
            · rcases hb' with hb' | hb'
              · exact g2 b' hb' hlt
              · omega
            · exact g3 b' hge fun e => by have := g4 b' e; omega
        have hlt : ∀ b, hasB (a.eval x) b → b < w.heap.size := fun b hb => (h1.base id cv _ b hfi hb).2
        have hkb : ∀ b, b < w.heap.size → (∀ cv0 c0, frzL conc (ids y.2) id = some (cv0, c0, true) → ¬ hasB c0 b) → w'.heap[b]? = w.heap[b]? := fun b hb hne => hk.block b hb (hne cv _ hfi)
        cases hbk : back <;> rw [hbk] at hr2
        · cases hr2
          rcases hres with ⟨q, _⟩ | ⟨_, hr0, q⟩
          · rw [hbk] at q; cases q
          · obtain ⟨conc2, z1, _⟩ := h1.obj (id := id) (ver := cv) (c := a.eval x) (o := .buf e l') (w' := w') (fun cv' c0 ow hc' => by rw [hfi] at hc'; cases hc'; exact .inr ⟨rfl, rfl⟩) hk.os hk.tape hk.output hk.size hkb
              (fun b hb => ⟨.inr ⟨cv, _, hfi, hb⟩, Nat.lt_of_lt_of_le (hlt b hb) hk.size⟩) (fun conc' _ _ g2 g3 g4 => up _ conc' g2 g3 g4 hlt q)
            have hap' : applyU st none (.slot o.dst [] true (.tup []) (y.2 ++ [(id, (cv, .buf e l'))])) = some st' := by
              rw [← hap]
              cases o.dst <;> rfl
            refine slot_done (W0 := y.2 ++ [(id, (cv, .buf e l'))]) (d := o.dst) (s := .tup []) (conc1 := conc2) ?_ hap' ⟨[], by rw [hr0], trivial⟩
            rw [setObjs_append]
            exact z1
        · cases hd : o.dst <;> rw [hd] at hr2 <;> dsimp only at hr2 <;> first | (cases hr2; done) | skip
          rename_i d
          cases hr2
          rcases hres with ⟨_, q, hbl⟩ | ⟨q, _⟩
          · have hone : one r = true := by
              rcases q with ⟨q, _⟩ | ⟨b, off, cap, cs, T, q, _⟩ <;> rw [q] <;> rfl
            obtain ⟨conc2, z1, z2, _⟩ := h1.obj (id := id) (ver := cv + 1) (c := r) (o := .buf e l') (w' := w') (fun cv' c0 ow hc' => by rw [hfi] at hc'; cases hc'; exact .inl (Nat.lt_succ_self _)) hk.os hk.tape hk.output hk.size hkb
              (fun b hb => ⟨.inr ⟨cv, _, hfi, hbl b hb⟩, Nat.lt_of_lt_of_le (hlt b (hbl b hb)) hk.size⟩) (fun conc' _ _ g2 g3 g4 => up _ conc' g2 g3 g4 (fun b hb => hlt b (hbl b hb)) q)
            refine slot_done (W0 := y.2 ++ [(id, (cv + 1, .buf e l'))]) (d := some d) (s := .v (.hand id (cv + 1))) (conc1 := conc2) ?_ hap ⟨cv + 1, r, true, z2, Nat.le_refl _, hone, fun _ => rfl⟩
            rw [setObjs_append]
            exact z1
          · rw [hbk] at q; cases q
      · cases hr1
    · cases hr

theorem val_ok (hE : EnvOK P E) (h : Mod P w0 conc st a w) {o : Oper} {s : SVal} (hr : (valOp E [] true o.op).run st = some s) {st' : ASt} (hap : applyU st none (.slot o.dst [] true s []) = some st') : OpOK P w0 o a w st' := by
  obtain ⟨v, h1, h2⟩ := valOp_sound hE h (labs_nil _) hr
  exact OpOK.value h1 (slot_done (W0 := []) h hap h2)

theorem bytes_ok (hE : EnvOK P E) (h : Mod P w0 conc st a w) {o : Oper} {S T : Nat} {x : Operand} (hop : o.op = .convert S T x) (hS : E.ty S = some .str) (hT : E.ty T = some (.slice (.int .u8))) {l : List UInt8}
    (hx : (rdA [] x).run st = some (.pure .str l)) {st' : ASt} (hap : applyU st none (.slot o.dst [] true (.v (.pure (.slice (.int .u8)) (bytesOf l))) []) = some st') : OpOK P w0 o a w st' := by
  obtain ⟨te, hte, hokS⟩ := hE.tyOK hS
  have hs := hokS.desc
  rw [hte] at hs
  obtain ⟨te', hte', hokT⟩ := hE.tyOK hT
  obtain ⟨T', hu, hb⟩ := hokT.bytes hte'
  have hv := rdA_rel h (labs_nil _) hx
  obtain ⟨vs, e1, e2⟩ := hv
  have e3 : vs = [.string ⟨⟨l⟩⟩] := e2
  subst e3
  have e4 : a.eval x = .string ⟨⟨l⟩⟩ := e1
  have hrun := run_bytes_of_string w S T T' ⟨⟨l⟩⟩ hs hu hb
  have hsz : (⟨⟨l⟩⟩ : ByteArray).size = l.length := rfl
  rw [hsz] at hrun
  refine OpOK.value (w' := _) (v := _) (by simp only [execOp, hop, e4]; rw [Sem.run_bind, hrun]; rfl) ?_
  have hk : Keeps w (w.drew.alloc (.cells (bytesRow ⟨⟨l⟩⟩ (grownCap w l.length 0 T')) T' ((bytesRow ⟨⟨l⟩⟩ (grownCap w l.length 0 T')).size, (bytesRow ⟨⟨l⟩⟩ (grownCap w l.length 0 T')).size + 1))) :=
    (Keeps.drew w).trans (Keeps.alloc _ _)
  have hge := grownCap_ge w l.length 0 T'
  have hb1 : (bytesRow ⟨⟨l⟩⟩ (grownCap w l.length 0 T')).toList = l.map (fun c => Value.int .u8 (c.toNat : Int)) ++ List.replicate (grownCap w l.length 0 T' - l.length) (.int .u8 0) := by
    simp [bytesRow, ByteArray.size]
  refine slot_done (W0 := []) (h.grow hk) hap ⟨[_], rfl, some ⟨w.heap.size, 0, none⟩, grownCap w l.length 0 T', ?_, ?_, .inr ⟨w.heap.size, 0, _, _, _, rfl, ?_, heap_alloc_new _ _, ?_, fun i y hi => ?_⟩⟩
  · simp [bytesOf]
  · simpa [bytesOf] using hge
  · refine ⟨by rw [h.cB]; exact h.up _ h.keeps.size, fun id ver c hc hbl => ?_⟩
    have := (h.base id ver c _ hc hbl).2
    omega
  · rw [← Array.length_toList, hb1]
    simp [bytesOf, Ty.sz]
  · show chunk _ _ _ = [_]
    rw [hb1]
    simp only [bytesOf, List.getElem?_map, Option.map_eq_some_iff] at hi
    obtain ⟨c, hc, rfl⟩ := hi
    obtain ⟨hlt, hc⟩ := List.getElem?_eq_some_iff.1 hc
    simp only [chunk, Ty.sz, Nat.zero_add, Nat.mul_one]
    rw [List.drop_append_of_le_length (by simp; omega), List.take_append_of_le_length (by simp; omega)]
    rw [List.drop_eq_getElem_cons (by simpa using hlt)]
    simp [hc]

theorem effOp_sound (hE : EnvOK P E) (h : Mod P w0 conc st a w) {o : Oper} {u : Upd} (hr : (effOp E o).run st = some u) {st' : ASt} (hap : applyU st none u = some st') : OpOK P w0 o a w st' := by
  unfold effOp at hr
  split at hr
  · rename_i hop
    split at hr
    · rename_i d e hd hT
      cases hN : isIn E.N d with
      | true =>
        rw [hN] at hr
        simp only [cond_true] at hr
        split at hr
        · exact nilN_ok h hop hd hr hap
        · cases hr
      | false =>
        rw [hN] at hr
        exact nil_ok h hop hd hr hap
    · cases hr
  · rename_i T hop
    split at hr
    · rename_i d t hd hT
      exact alloc_ok hE h hop hd hT hr hap
    · cases hr
  · rename_i T x hop
    split at hr
    · rename_i d t hd hT
      obtain ⟨s, g1, hr⟩ := RM.bind_some hr
      obtain ⟨l, g2, hr⟩ := RM.bind_some hr
      obtain ⟨g3, hr⟩ := cond_some hr
      exact box_ok hE h hop hd g1 g2 (nbeq_true g3) hr hap
    · cases hr
  · rename_i T n ps hop
    split at hr
    · rename_i d e hd hT
      obtain ⟨l, g1, hr⟩ := RM.bind_some hr
      obtain ⟨g3, hr⟩ := cond_some hr
      simp only [Bool.and_eq_true] at g3
      exact buildSlice_ok hE h hop hd (elT_elem hE hT) g3.1 (by simpa using g3.2) g1 hr hap
    · cases hr
  · rename_i T x y hop
    split at hr
    · rename_i d e hd hT
      obtain ⟨b, g1, hr⟩ := RM.bind_some hr
      split at hr
      · rename_i n
        obtain ⟨g3, hr1⟩ := cond_some hr
        clear hr
        simp only [Bool.and_eq_true] at g3
        obtain ⟨q, g4, hr⟩ := RM.opt_some hr1
        clear hr1
        have hxy := nbeq_true g3.1
        rw [← hxy] at hop
        have hn : 0 ≤ n ∧ n ≤ (most : Int) := by
          unfold chki at g4
          split at g4
          · assumption
          · cases g4
        exact makeSlice_ok hE h hop hd hT g3.2 g1 hn.1 hn.2 hr hap
      · cases hr
    · cases hr
  · rename_i T ad x hop
    split at hr
    · rename_i t hd hT
      obtain ⟨b, g1, hr⟩ := RM.bind_some hr
      cases b with
      | bptr id ver off =>
        simp only [storeOp] at hr
        obtain ⟨s, g2, hr⟩ := RM.bind_some hr
        obtain ⟨l, g3, hr⟩ := RM.bind_some hr
        simp only [RM.run] at hr
        split at hr
        · rename_i cv t' cells ho
          obtain ⟨g4, hr1⟩ := cond_some hr
          clear hr
          simp only [Bool.and_eq_true] at g4
          have := nbeq_true g4.1.1
          subst this
          cases hr1
          exact store_box_ok hE h hop hd hT g1 g2 g3 ho (nbeq_true g4.1.2) (by simpa using g4.2) hap
        · cases hr
      | eptr id ver e i =>
        simp only [storeOp] at hr
        obtain ⟨s, g2, hr⟩ := RM.bind_some hr
        obtain ⟨d, g3, hr⟩ := RM.bind_some hr
        simp only [RM.run] at hr
        split at hr
        · rename_i cv e' l ho
          obtain ⟨g4, hr1⟩ := cond_some hr
          clear hr
          simp only [Bool.and_eq_true] at g4
          have := nbeq_true g4.1
          subst this
          split at hr1
          · rename_i hh
            obtain ⟨hh1, hh2⟩ := hh
            subst hh1
            subst hh2
            obtain ⟨l', g5, hr⟩ := RM.opt_some hr1
            cases hr
            have hn : id ∉ ids d.2 := by
              intro hm
              obtain ⟨p, hp, he⟩ := List.mem_map.1 hm
              have := List.all_eq_true.1 g4.2 p hp
              simp [nbeq, he] at this
            exact store_elem_ok hE h hop hd hT g1 g2 g3 ho hn g5 hap
          · cases hr1
        · cases hr
      | epart id ver e i off =>
        simp only [storeOp] at hr
        obtain ⟨s, g2, hr⟩ := RM.bind_some hr
        split at hr
        · simp only [RM.run] at hr
          split at hr
          · rename_i cv ta tu te l n j v ho
            obtain ⟨g4, hr1⟩ := cond_some hr
            clear hr
            simp only [Bool.and_eq_true] at g4
            have e1 := nbeq_true g4.1
            have e2 := nbeq_true g4.2
            subst e1
            subst e2
            split at hr1
            · rename_i hh
              obtain ⟨rfl, rfl⟩ := hh
              obtain ⟨_, h0, hr2⟩ := RM.opt_some hr1
              have hin : i = n := by
                unfold eqI at h0
                split at h0
                · assumption
                · cases h0
              subst hin
              obtain ⟨z, g5, hr⟩ := RM.opt_some hr2
              cases hr
              exact store_cbuf_ok hE h hop hd hT g1 g2 ho g5 hap
            · cases hr1
          · cases hr
        · cases hr
      | _ => cases hr
    · cases hr
  · rename_i args tys hop
    split at hr
    · rename_i d s x T T' hd ha ht
      obtain ⟨g0, hr1⟩ := cond_some hr
      clear hr
      have := nbeq_true g0
      subst this
      have ha' : args = #[s, x] := by rw [← Array.toArray_toList (xs := args), ha]
      have ht' : tys = #[T, T] := by rw [← Array.toArray_toList (xs := tys), ht]
      subst ha' ht'
      obtain ⟨b, g1, hr⟩ := RM.bind_some hr1
      clear hr1
      cases b with
      | hand id ver =>
        simp only [appendOp] at hr
        obtain ⟨b2, g2, hr⟩ := RM.bind_some hr
        simp only [RM.run] at hr
        split at hr
        · rename_i cv e l ho
          obtain ⟨g4, hr1⟩ := cond_some hr
          clear hr
          have := nbeq_true g4
          subst this
          obtain ⟨hT, hr2⟩ := ite_some hr1
          obtain ⟨m, g5, hr3⟩ := RM.bind_some hr2
          obtain ⟨q, g6, hr4⟩ := RM.opt_some hr3
          cases hr4
          have hle : l.length + List.length (α := e.den) m.1 ≤ most := by
            unfold chk at g6
            split at g6
            · assumption
            · cases g6
          exact append_hand_ok hE h hop hd (sl_elem hE hT) g1 ho g2 g5 hle hap
        · cases hr
      | nils =>
        simp only [appendOp] at hr
        split at hr
        · rename_i e hT
          obtain ⟨b2, g2, hr⟩ := RM.bind_some hr
          obtain ⟨m, g5, hr⟩ := RM.bind_some hr
          obtain ⟨q, g6, hr⟩ := RM.opt_some hr
          have hle : List.length (α := e.den) m.1 ≤ most := by
            unfold chk at g6
            split at g6
            · assumption
            · cases g6
          exact append_nils_ok hE h hop hd hT g1 g2 g5 hle hr hap
        · cases hr
      | _ => cases hr
    · cases hr
  · rename_i f first cap hop
    cases hc : Map.get E.C f with
    | none =>
      simp only [hc] at hr
      cases ho : Map.get E.O f with
      | some c =>
        simp only [ho] at hr
        obtain ⟨g0, hr1⟩ := cond_some hr
        exact oMake_ok hE h hop g0 hr1 hap
      | none =>
      simp only [ho] at hr
      cases hi : Map.get E.I f with
      | none => simp only [hi] at hr; cases hr
      | some c =>
        simp only [hi] at hr
        obtain ⟨g0, hr1⟩ := cond_some hr
        obtain ⟨y, g1, hr2⟩ := RM.bind_some hr1
        obtain ⟨xs, g2, hr3⟩ := RM.opt_some hr2
        cases hr3
        exact makeIt_ok hE h hop g0 hi g1 g2 hap
    | some c =>
      simp only [hc] at hr
      obtain ⟨y, g1, hr⟩ := RM.bind_some hr
      obtain ⟨l, g2, hr⟩ := RM.bind_some hr
      obtain ⟨p, g3, hr⟩ := RM.bind_some hr
      cases hr
      exact makeFunc_ok hE h hop hc g1 g2 g3 hap
  · rename_i T hop
    split at hr
    · rename_i d k u hd hT
      exact makeMap_ok h hop hd hr hap
    · cases hr
  · rename_i T m k x hop
    split at hr
    · rename_i hd
      exact mapPut_ok hE h (by simp only [execOp, hop]) hd hr hap
    · cases hr
  · rename_i T m k x hop
    split at hr
    · rename_i hd
      exact mapPut_ok hE h (by simp only [execOp, hop]) hd hr hap
    · cases hr
  · rename_i T x lo hi hop
    obtain ⟨b, g1, hr⟩ := RM.bind_some hr
    split at hr
    · rename_i id ver d hd
      simp only [RM.run] at hr
      split at hr
      · rename_i cv e l ho
        obtain ⟨g2, hr1⟩ := cond_some hr
        have := nbeq_true g2
        subst this
        obtain ⟨hT, hr2⟩ := ite_some hr1
        obtain ⟨p, g3, hr3⟩ := RM.bind_some hr2
        obtain ⟨q, g4, hr4⟩ := RM.bind_some hr3
        obtain ⟨z, g5, hr5⟩ := RM.opt_some hr4
        cases hr5
        exact sliceHand_ok hE h hop hd hT g1 ho g3 g4 g5 hap
      · cases hr
    · obtain ⟨s, g2, hr2⟩ := RM.bind_some hr
      cases hr2
      exact val_ok hE h (by rw [hop]; exact g2) hap
  · rename_i f args tys hop
    split at hr
    · rename_i c hc
      split at hc
      · exact mut_ok hE h hop hc hr hap
      · cases hc
    · obtain ⟨z, g0, hr⟩ := RM.bind_some hr
      cases z with
      | some u' =>
        cases hr
        exact oCall_ok hE h hop g0 hap
      | none =>
        obtain ⟨q, g1, hr⟩ := RM.bind_some hr
        exact call_ok h (callOp_sound hE h (labs_nil _) hop g1) hr hap
  · rename_i S T x hop
    have other : ∀ {u}, ((valOp E [] true o.op).bind fun s => RM.ret (Upd.slot o.dst [] true s [])).run st = some u → applyU st none u = some st' → OpOK P w0 o a w st' := by
      intro u hr hap
      obtain ⟨s, g1, hr⟩ := RM.bind_some hr
      cases hr
      exact val_ok hE h g1 hap
    rw [hop] at other
    split at hr
    · rename_i hS hT
      obtain ⟨b, g1, hr⟩ := RM.bind_some hr
      split at hr
      · rename_i l
        cases hr
        exact bytes_ok hE h hop hS hT g1 hap
      · cases hr
    · exact other hr hap
  · obtain ⟨s, g1, hr⟩ := RM.bind_some hr
    cases hr
    exact val_ok hE h g1 hap

end Go.Abs

set_option linter.unusedSimpArgs false
set_option linter.unusedVariables false
namespace Go.Abs
open Go
variable {P : Program} {E : Env} {w0 : Start} {w : World} {conc : Conc} {st : ASt} {a : Act}

/-- One operation of a region, carried out or passed over. -/
def StepOK (P : Program) (w0 : Start) (ops : Array Oper) (o : Oper) (a : Act) (w : World) (st' : ASt) : Prop :=
  (Region.wanted o (yielded ops a.tmps) = true → OpOK P w0 o a w st') ∧ (Region.wanted o (yielded ops a.tmps) = false → Models P w0 st' (a.put o.dst undef) w)

/-- A slot under a test is written. -/
theorem lab_done (h : Mod P w0 conc st a w) {L : List (Nat × Bool)} {g : Bool} {s : SVal} {q : Nat} {W0 : W} {d : Option Nat} {st' : ASt} {v : Value} {w1 : World} (hk : Keeps w w1) (hW : W0 = [])
    (hap : applyU st (some q) (.slot d L g s W0) = some st') (hL : ∀ p ∈ L, p.1 = q ∨ p.1 ∈ st.marks) (hv : SlotRel P w1 conc (okOf conc) a.tmps ⟨L, g, s⟩ v) : Models P w0 st' (a.put d v) w1 := by
  subst hW
  refine ⟨conc, ?_⟩
  have h1 := h.grow hk
  rcases applyU_slot hap with ⟨d', rfl, g1, g2, rfl⟩ | ⟨rfl, rfl⟩
  · refine h1.put (d := d') (sl := ⟨L, g, s⟩) (v := v) (ms := moreMarks (some q) st.marks) g1 (fun m hm => List.mem_cons_of_mem _ hm) (fun p hp => ?_) hv
    rcases hL p hp with e | e
    · exact ⟨by rw [e]; exact List.mem_cons_self, fun e2 => g2 q rfl (by rw [← e2, e])⟩
    · exact ⟨List.mem_cons_of_mem _ e, fun e2 => (may_iff.1 g1).2.1 (e2 ▸ e)⟩
  · exact h1.marks_more (ms := moreMarks (some q) st.marks) fun m hm => List.mem_cons_of_mem _ hm

def boolV : Value → Option Bool
  | .bool b => some b
  | _ => none

theorem boolV_some {v : Value} {b : Bool} (h : boolV v = some b) : v = .bool b := by
  cases v <;> simp [boolV] at h
  rw [h]

theorem guardOp_sound (hE : EnvOK P E) (h : Mod P w0 conc st a w) {ops : Array Oper} {o : Oper} {j s : Nat} {want : Bool} (hg : o.guard = some (j, want)) (hs : (ops[j]?).bind (·.dst) = some s)
    {u : Upd} (hr : (guardOp E o s want).run st = some u) {st' : ASt} (hap : applyU st (some s) u = some st') : StepOK P w0 ops o a w st' := by
  simp only [guardOp, RM.run] at hr
  split at hr
  · rename_i L g b hsl
    obtain ⟨v, hv1, hv2⟩ := h.slots s _ hsl
    have hmk := h.marks s _ hsl
    dsimp only at hmk
    have hy : yielded ops a.tmps j = boolV v := by
      unfold yielded
      rw [hs]
      simp only [Option.bind_some, hv1]
      cases v <;> rfl
    have hw : Region.wanted o (yielded ops a.tmps) = ((yielded ops a.tmps j) == some want) := by
      unfold Region.wanted; rw [hg]
    let L' : List (Nat × Bool) := (s, want) :: L
    let g' : Bool := gAnd L g (bif want then b else !b)
    have hL' : ∀ p ∈ L', p.1 = s ∨ p.1 ∈ st.marks := by
      intro p hp
      rcases List.mem_cons.1 hp with rfl | hp
      · exact .inl rfl
      · exact .inr (hmk p hp)
    have yes : Region.wanted o (yielded ops a.tmps) = true → labs a.tmps L' ∧ g' = true := by
      intro hwt
      rw [hw, hy] at hwt
      have hvb : v = .bool want := boolV_some (by simpa using hwt)
      by_cases hl : labs a.tmps L
      · obtain ⟨k1, k2⟩ := hv2.yes hl
        obtain ⟨us, e1, e2⟩ := k2
        have := rep_bool e1 e2
        rw [hvb] at this
        have hbw : b = want := by cases this; rfl
        refine ⟨labs_cons (by rw [hv1, hvb]) hl, ?_⟩
        have hb' : (bif want then b else !b) = true := by
          rw [hbw]; cases want <;> rfl
        show gAnd L g (bif want then b else !b) = true
        rw [hb']
        have hgt : g = true := k1
        rw [hgt]
        unfold gAnd
        split <;> rfl
      · have := hv2.no hl
        rw [hvb] at this; cases this
    have no : labs a.tmps L' → Region.wanted o (yielded ops a.tmps) = true := by
      intro hl
      have h1 := hl (s, want) (List.mem_cons_self)
      dsimp only at h1
      rw [hv1] at h1
      cases h1
      rw [hw, hy]
      simp [boolV]
    split at hr
    · rename_i f args tys hop
      obtain ⟨q, g1, hr⟩ := RM.bind_some hr
      split at hr
      · rename_i hnil
        cases hr
        constructor
        · intro hwt
          obtain ⟨hl, hgt⟩ := yes hwt
          have g1' : (callOp E L' g' f args.toList).run st = some q := g1
          rw [hgt] at g1'
          obtain ⟨hfrz, fid, cargs, hex, hcall⟩ := callOp_sound hE h hl hop g1'
          refine OpOK.enter hex hcall ?_
          rintro v' w' ⟨e2, e3, _⟩
          rw [hnil, show ids [] = [] from rfl, frzL_nil] at e3
          exact lab_done (W0 := []) h e2 rfl hap hL' ⟨fun _ => ⟨hgt, e3⟩, fun hn => absurd hl hn⟩
        · intro hwf
          have hn : ¬ labs a.tmps L' := fun hl => by rw [no hl] at hwf; cases hwf
          exact lab_done (W0 := []) h (Keeps.refl w) rfl hap hL' ⟨fun hl => absurd hl hn, fun _ => rfl⟩
      · cases hr
    · rename_i T n ps hop
      split at hr
      · rename_i e hT
        obtain ⟨l, g1, hr1⟩ := RM.bind_some hr
        split at hr1
        · rename_i hnil
          obtain ⟨g2, hr2⟩ := cond_some hr1
          simp only [Bool.and_eq_true] at g2
          cases hr2
          constructor
          · intro hwt
            obtain ⟨hl, hgt⟩ := yes hwt
            obtain ⟨k3, k2, cs', T', hcs, k5, hrun⟩ := buildSlice_run hE h hop (elem_of hE hT) g2.1 (by simpa using g2.2) g1
            rw [hnil, show ids [] = [] from rfl, frzL_nil] at k5
            refine OpOK.value hrun ?_
            refine lab_done (W0 := []) h (Keeps.alloc w _) rfl hap hL' ⟨fun _ => ⟨hgt, [_], rfl, some ⟨w.heap.size, 0, none⟩, n, by rw [k2], by rw [k2]; exact Nat.le_refl _, .inr ⟨w.heap.size, 0, cs', T', _, rfl, ?_, heap_alloc_new _ _, ?_, fun i y hi => ?_⟩⟩, fun hn => absurd hl hn⟩
            · refine ⟨by rw [h.cB]; exact h.up _ h.keeps.size, fun id ver c hc hbl => ?_⟩
              have := (h.base id ver c _ hc hbl).2
              omega
            · rw [k2, Nat.zero_add, hcs]
              exact Nat.le_refl _
            · rw [Nat.zero_add]
              exact (k5.2.2 i y hi).mono e (Keeps.ext (Keeps.alloc w _) _) (Sub.refl _ _)
          · intro hwf
            have hn : ¬ labs a.tmps L' := fun hl => by rw [no hl] at hwf; cases hwf
            exact lab_done (W0 := []) h (Keeps.refl w) rfl hap hL' ⟨fun hl => absurd hl hn, fun _ => rfl⟩
        · cases hr1
      · cases hr
    · obtain ⟨q, g1, hr⟩ := RM.bind_some hr
      cases hr
      constructor
      · intro hwt
        obtain ⟨hl, hgt⟩ := yes hwt
        have g1' : (valOp E L' g' o.op).run st = some q := g1
        rw [hgt] at g1'
        obtain ⟨v', e1, e2⟩ := valOp_sound hE h hl g1'
        refine OpOK.value e1 ?_
        exact lab_done (W0 := []) h (Keeps.refl w) rfl hap hL' ⟨fun _ => ⟨hgt, e2⟩, fun hn => absurd hl hn⟩
      · intro hwf
        have hn : ¬ labs a.tmps L' := fun hl => by rw [no hl] at hwf; cases hwf
        exact lab_done (W0 := []) h (Keeps.refl w) rfl hap hL' ⟨fun hl => absurd hl hn, fun _ => rfl⟩
  · cases hr

theorem opRM_sound (hE : EnvOK P E) (h : Models P w0 st a w) {ops : Array Oper} {o : Oper} {u : Upd} (hr : (opRM E ops o).run st = some u) {st' : ASt} (hap : applyU st (guardSlot ops o) u = some st') : StepOK P w0 ops o a w st' := by
  obtain ⟨conc, h⟩ := h
  unfold opRM at hr
  unfold guardSlot at hap
  cases hg : o.guard with
  | none =>
    rw [hg] at hr hap
    have hw : Region.wanted o (yielded ops a.tmps) = true := by unfold Region.wanted; rw [hg]
    exact ⟨fun _ => effOp_sound hE h hr hap, fun hf => by rw [hw] at hf; cases hf⟩
  | some p =>
    obtain ⟨j, want⟩ := p
    rw [hg] at hr hap
    dsimp only at hr hap
    cases hs : (ops[j]?).bind (·.dst) with
    | none => rw [hs] at hr; cases hr
    | some s =>
      rw [hs] at hr hap
      exact guardOp_sound hE h hg hs hr hap

/-- What one operation does to a state, by itself. -/
def stepD (E : Env) (ops : Array Oper) (o : Oper) (st : ASt) : Option ASt := ((opRM E ops o).run st).bind fun u => applyU st (guardSlot ops o) u

theorem opR_eq {R : Type} (ops : Array Oper) (o : Oper) (st : ASt) (K : ASt → Option R) : opR E ops o st K = (stepD E ops o st).bind K := by
  unfold opR stepD
  rw [RM.runK_eq]
  cases (opRM E ops o).run st with
  | none => rfl
  | some u =>
    simp only [Option.bind_some]
    cases applyU st (guardSlot ops o) u <;> rfl

def stepsD (E : Env) (ops : Array Oper) : List Oper → ASt → Option ASt
  | [], st => some st
  | o :: r, st => (stepD E ops o st).bind (stepsD E ops r)

theorem opsR_eq {R : Type} (ops : Array Oper) : ∀ (l : List Oper) (st : ASt) (K : ASt → Option R), opsR E ops l st K = (stepsD E ops l st).bind K
  | [], st, K => rfl
  | o :: r, st, K => by
    rw [opsR, opR_eq, stepsD]
    cases stepD E ops o st with
    | none => rfl
    | some st' => simp only [Option.bind_some]; exact opsR_eq ops r st' K

theorem stepD_sound (hE : EnvOK P E) (h : Models P w0 st a w) {ops : Array Oper} {o : Oper} {st' : ASt} (hr : stepD E ops o st = some st') : StepOK P w0 ops o a w st' := by
  unfold stepD at hr
  cases hu : (opRM E ops o).run st with
  | none => rw [hu] at hr; cases hr
  | some u => rw [hu] at hr; exact opRM_sound hE h hu hr

/-! Fences: the wide one, and that of a round of a loop over a function. -/
def Fr (r : Option Nat) : Fence := { Fence.wide with round := r }
theorem fr_none : Fr none = Fence.wide := rfl
theorem fr_room (r : Option Nat) (n : Nat) : (Fr r).room n := fun _ h => by simp [Fr, Fence.wide] at h
theorem fr_calls {r : Option Nat} {n : Nat} {f : FuncId} {args : Array Value} {w : World} {R : Ending → World → Prop} (h : Calls P f args w R) : CallsIn (Fr r) n P f args w R :=
  (callsIn_wide (n := n)).2 h
theorem fr_rows {r : Option Nat} {n : Nat} {row : String} {args : Array Value} {w : World} {R : Value → World → Prop} (h : Rows P row args w R) : RowsIn (Fr r) n P row args w R :=
  fun c cs _ => let ⟨v, w', q, s⟩ := h c cs; ⟨v, w', q, (stepsIn_wide (P := P)).2 s⟩

theorem wpIn_n {r : Option Nat} {n m : Nat} {c : Code} {Q : Exit → Act → World → Prop} {a : Act} {w : World} (h : c.wpIn (Fr r) n P Q a w) : c.wpIn (Fr r) m P Q a w :=
  fun b k cs hro hb _ => h b k cs hro hb (fr_room _ _)

theorem op_in {r : Option Nat} {n : Nat} {o : Oper} {a : Act} {w : World} {K : Act → World → Prop} {Q : Exit → Act → World → Prop} (hd : ∀ c, o.op ≠ .defer c) (h : o.wp P a w K Q) : o.wpIn (Fr r) n P a w K Q := by
  refine ⟨fun _ _ => trivial, ?_⟩
  rw [Oper.semAt_eq _ _ _ hd]
  unfold Oper.wp at h
  generalize (execOp a.eval o).run P w = z at *
  cases z with
  | ok x w' =>
    cases x <;> simp only [Oper.upon, Oper.uponIn] at h ⊢ <;> first | exact h | exact h.elim | skip
    · refine ⟨fun e => by simp [Fr, Fence.wide] at e, (fr_calls h).mono ?_⟩
      intro e w'' he
      cases e <;> exact he
    · exact ⟨fun e => by simp [Fr, Fence.wide] at e, fr_rows h⟩
  | halt x w' => cases x <;> simp only [Oper.upon, Oper.uponIn] at h ⊢ <;> first | exact h | exact h.elim

theorem no_defer {ops : Array Oper} {o : Oper} {u : Upd} (hr : (opRM E ops o).run st = some u) : ∀ c, o.op ≠ .defer c := by
  intro c hc
  unfold opRM at hr
  cases hg : o.guard with
  | none =>
    rw [hg] at hr
    simp [effOp, hc, valOp, RM.bind, RM.run] at hr
  | some p =>
    obtain ⟨j, want⟩ := p
    rw [hg] at hr
    dsimp only at hr
    cases hs : (ops[j]?).bind (·.dst) with
    | none => rw [hs] at hr; cases hr
    | some s =>
      rw [hs] at hr
      simp only [guardOp, RM.run] at hr
      split at hr
      · simp [hc, valOp, RM.bind, RM.run] at hr
      · cases hr

theorem stepD_no_defer {ops : Array Oper} {o : Oper} {st' : ASt} (hr : stepD E ops o st = some st') : ∀ c, o.op ≠ .defer c := by
  unfold stepD at hr
  cases hu : (opRM E ops o).run st with
  | none => rw [hu] at hr; cases hr
  | some u => exact no_defer hu

/-- Operations along a list of their numbers. -/
theorem wpOps_sound (hE : EnvOK P E) {r : Option Nat} {n : Nat} {ops : Array Oper} {Q : Exit → Act → World → Prop} {st2 : ASt} : ∀ (is : List Nat) (l : List Oper), is.map (fun i => ops[i]?) = l.map some → ∀ {st : ASt} {a : Act} {w : World}, Models P w0 st a w →
    stepsD E ops l st = some st2 → (∀ a' w', Models P w0 st2 a' w' → Q .normal a' w') → wpOpsIn (Fr r) n P ops Q is a w
  | [], l, hl, st, a, w, h, hr, hq => by
    have : l = [] := by cases l <;> simp at hl ⊢
    subst this
    cases hr
    exact hq a w h
  | i :: is, l, hl, st, a, w, h, hr, hq => by
    cases l with
    | nil => simp at hl
    | cons o l =>
      simp only [List.map_cons, List.cons.injEq] at hl
      obtain ⟨h1, h2⟩ := hl
      simp only [stepsD] at hr
      cases hs : stepD E ops o st with
      | none => rw [hs] at hr; cases hr
      | some st1 =>
        rw [hs] at hr
        have hstep := stepD_sound hE h hs
        simp only [wpOpsIn, h1]
        cases hw : Region.wanted o (yielded ops a.tmps) with
        | true =>
          simp only [if_true]
          exact op_in (stepD_no_defer hs) (hstep.1 hw _ Q fun a' w' hm => wpOps_sound hE is l h2 hm hr hq)
        | false =>
          simp only [Bool.false_eq_true, if_false]
          exact ⟨fun _ _ => trivial, wpOps_sound hE is l h2 (hstep.2 hw) hr hq⟩

theorem range_ops (ops : Array Oper) : (List.range ops.size).map (fun i => ops[i]?) = ops.toList.map some := by
  apply List.ext_getElem?
  intro i
  simp only [List.getElem?_map, List.getElem?_range', Array.getElem?_toList]
  by_cases h : i < ops.size
  · rw [List.getElem?_range h]
    simp [h]
  · rw [List.getElem?_eq_none (by simp; omega)]
    simp [h]

/-- What stands under a test is forgotten. -/
theorem unlab_mod (h : Mod P w0 conc st a w) : Mod P w0 conc (unlab st) a w := by
  refine ({ defers := h.defers, size := h.size, marks := ?_, slots := ?_, heap := h.heap, dead := h.dead, inj := h.inj, base := h.base, keeps := h.keeps, cB := h.cB, cY := h.cY, okS := h.okS, fixed := h.fixed } : Mod P w0 conc (unlab st) a w)
  · intro d sl hd
    unfold unlab at hd
    simp only at hd
    rw [Map.get_map (fun sl : Slot => if sl.L.isEmpty then sl else ⟨[], true, .v .junk⟩)] at hd
    cases hg : Map.get st.slots d with
    | none => rw [hg] at hd; cases hd
    | some sl0 =>
      rw [hg] at hd
      simp only [Option.map_some, Option.some.injEq] at hd
      intro p hp
      split at hd
      · rename_i he
        subst hd
        rw [List.isEmpty_iff] at he
        rw [he] at hp; cases hp
      · subst hd; cases hp
  · intro d sl hd
    unfold unlab at hd
    simp only at hd
    rw [Map.get_map (fun sl : Slot => if sl.L.isEmpty then sl else ⟨[], true, .v .junk⟩)] at hd
    cases hg : Map.get st.slots d with
    | none => rw [hg] at hd; cases hd
    | some sl0 =>
      rw [hg] at hd
      simp only [Option.map_some, Option.some.injEq] at hd
      obtain ⟨v, h1, h2⟩ := h.slots d sl0 hg
      refine ⟨v, h1, ?_⟩
      split at hd
      · subst hd; exact h2
      · subst hd; exact ⟨fun _ => ⟨rfl, trivial⟩, fun hn => absurd (labs_nil _) hn⟩

theorem unlab_models (h : Models P w0 st a w) : Models P w0 (unlab st) a w := by
  obtain ⟨conc, h⟩ := h
  exact ⟨conc, unlab_mod h⟩

theorem unlab_L {st : ASt} {d : Nat} {sl : Slot} (hd : Map.get (unlab st).slots d = some sl) : sl.L = [] := by
  unfold unlab at hd
  simp only at hd
  rw [Map.get_map (fun sl : Slot => if sl.L.isEmpty then sl else ⟨[], true, .v .junk⟩)] at hd
  cases hg : Map.get st.slots d with
  | none => rw [hg] at hd; cases hd
  | some sl0 =>
    rw [hg] at hd
    simp only [Option.map_some, Option.some.injEq] at hd
    split at hd
    · rename_i he
      subst hd
      exact List.isEmpty_iff.1 he
    · subst hd
      rfl

end Go.Abs

set_option linter.unusedSimpArgs false
set_option linter.unusedVariables false
namespace Go.Abs
open Go
variable {P : Program} {E : Env} {w0 : Start} {w : World} {conc : Conc} {st : ASt} {a : Act}

theorem putJ_mod (h : Mod P w0 conc st a w) {d : Nat} {st1 : ASt} (hp : putJ st d = some st1) (v : Value) : Mod P w0 conc st1 (a.put (some d) v) w := by
  unfold putJ at hp
  cases hm : st.may d with
  | false => rw [hm] at hp; cases hp
  | true =>
    rw [hm] at hp
    cases hp
    exact h.put (d := d) (sl := ⟨[], true, .v .junk⟩) (v := v) (ms := st.marks) hm (fun _ h => h) (fun p hp => by simp at hp) ⟨fun _ => ⟨rfl, trivial⟩, fun hn => absurd (labs_nil _) hn⟩

theorem putJ_heap {d : Nat} {st1 : ASt} (hp : putJ st d = some st1) : st1.heap = st.heap := by
  unfold putJ at hp
  cases hm : st.may d with
  | false => rw [hm] at hp; cases hp
  | true => rw [hm] at hp; cases hp; rfl

/-- An object takes the blocks of another one, too, which is left without memory. -/
theorem Mod.merge {w' : World} (h : Mod P w0 conc st a w) {id j ver ver' : Nat} {c : Value} {o : AObj} {u : Ty} (hne : j ≠ id)
    (hver : ∀ cv c0 ow, conc id = some (cv, c0, ow) → cv < ver) (hver' : ∀ cv c0 ow, conc j = some (cv, c0, ow) → cv < ver')
    (hos : w'.os = w.os) (htape : w'.tape = w.tape) (hout : w'.output = w.output) (hsize : w.heap.size ≤ w'.heap.size)
    (hblocks : ∀ b, b < w.heap.size → (∀ cv c0, conc id = some (cv, c0, true) → ¬ hasB c0 b) → w'.heap[b]? = w.heap[b]?)
    (hnew : ∀ b, hasB c b → (w.heap.size ≤ b ∨ ∃ k, (k = id ∨ k = j) ∧ ∃ cv c0, conc k = some (cv, c0, true) ∧ hasB c0 b) ∧ b < w'.heap.size)
    (hO : ∀ conc', CLe conc conc' → Ext (okOf conc) w w' → Sub w (okOf conc) (okOf conc') → ORel P w' conc' (okOf conc') c true o) :
    ∃ conc', Mod P w0 conc' { st with heap := Map.set (Map.set st.heap j (ver', .buf u [])) id (ver, o) } a w' ∧ conc' id = some (ver, c, true) ∧ CLe conc conc' := by
  let conc' : Conc := ⟨fun k => if k = id then some (ver, c, true) else if k = j then some (ver', .slice none 0 0, true) else conc k, conc.B, conc.yl⟩
  have e1 : conc' id = some (ver, c, true) := by simp [conc']
  have e3 : conc' j = some (ver', .slice none 0 0, true) := by simp [conc', hne]
  have e2 : ∀ k, k ≠ id → k ≠ j → conc' k = conc k := fun k hk hk' => by simp [conc', hk, hk']
  have nb : ∀ b, ¬ hasB (.slice none 0 0) b := fun b hb => by cases hb
  have hle : CLe conc conc' := by
    refine ⟨rfl, ?_⟩
    intro k cv c0 ow hk
    by_cases e : k = id
    · subst e; exact ⟨ver, c, true, e1, .inl (hver cv c0 ow hk)⟩
    · by_cases e' : k = j
      · subst e'; exact ⟨ver', _, true, e3, .inl (hver' cv c0 ow hk)⟩
      · exact ⟨cv, c0, ow, by rw [e2 k e e']; exact hk, .inr ⟨rfl, rfl⟩⟩
  have hx : Ext (okOf conc) w w' := ⟨hsize, fun b hb hl => hblocks b hl fun cv c0 hi => hb.2 id cv c0 hi⟩
  have hs : Sub w (okOf conc) (okOf conc') := by
    intro b hb hl
    refine ⟨hb.1, fun k cv c0 hk hbl => ?_⟩
    by_cases e : k = id
    · subst e
      rw [e1] at hk; cases hk
      rcases (hnew b hbl).1 with h1 | ⟨k', _, cv', c', h1, h2⟩
      · omega
      · exact hb.2 _ _ _ h1 h2
    · by_cases e' : k = j
      · subst e'
        rw [e3] at hk; cases hk
        exact nb b hbl
      · rw [e2 k e e'] at hk
        exact hb.2 k cv c0 hk hbl
  refine ⟨conc', ?_, e1, hle⟩
  refine
    { defers := h.defers, size := h.size, marks := h.marks, slots := ?_, heap := ?_, dead := ?_, inj := ?_, base := ?_, keeps := ?_, cB := h.cB, cY := h.cY, okS := h.okS, fixed := h.fixed }
  · intro d sl hd
    obtain ⟨v, h1, h2⟩ := h.slots d sl hd
    exact ⟨v, h1, ⟨fun hl => ⟨(h2.yes hl).1, (h2.yes hl).2.mono hx hs hle⟩, h2.no⟩⟩
  · intro k vk ok hk
    simp only [Map.get_set] at hk
    split at hk
    · rename_i e; subst e
      cases hk
      exact ⟨c, true, e1, hO conc' hle hx hs⟩
    · rename_i e
      split at hk
      · rename_i e'; subst e'
        cases hk
        exact ⟨_, true, e3, rfl, .inl ⟨rfl, rfl⟩⟩
      · rename_i e'
        obtain ⟨c0, ow, g1, g2⟩ := h.heap k vk ok hk
        refine ⟨c0, ow, by rw [e2 k (fun q => e q.symm) (fun q => e' q.symm)]; exact g1, g2.mono hx hs hle fun eo b hb => ?_⟩
        subst eo
        refine hblocks b (h.base k vk c0 b g1 hb).2 fun cv c1 hi hb' => e ?_
        exact h.inj id k cv vk c1 c0 b hi g1 hb' hb
  · intro k hk
    simp only [Map.get_set] at hk
    split at hk
    · cases hk
    · split at hk
      · cases hk
      · rename_i e e'; rw [e2 k (fun q => e q.symm) (fun q => e' q.symm)]; exact h.dead k hk
  · -- of whom a block is
    have own : ∀ k vk ck b, conc' k = some (vk, ck, true) → hasB ck b → (k = id ∧ (w.heap.size ≤ b ∨ ∃ k', (k' = id ∨ k' = j) ∧ ∃ cv c0, conc k' = some (cv, c0, true) ∧ hasB c0 b)) ∨ (k ≠ id ∧ k ≠ j ∧ conc k = some (vk, ck, true)) := by
      intro k vk ck b hk hb
      by_cases e : k = id
      · subst e
        rw [e1] at hk; cases hk
        exact .inl ⟨rfl, (hnew b hb).1⟩
      · by_cases e' : k = j
        · subst e'
          rw [e3] at hk; cases hk
          exact absurd hb (nb b)
        · rw [e2 k e e'] at hk
          exact .inr ⟨e, e', hk⟩
    intro i k vi vk ci ck b hi hk hbi hbk
    rcases own i vi ci b hi hbi with ⟨rfl, g⟩ | ⟨n1, n2, g⟩ <;> rcases own k vk ck b hk hbk with ⟨rfl, g'⟩ | ⟨m1, m2, g'⟩
    · rfl
    · rcases g with g | ⟨k', hk', cv, c0, q1, q2⟩
      · have := (h.base k vk ck b g' hbk).2; omega
      · have := h.inj k' k _ _ _ _ b q1 g' q2 hbk
        rcases hk' with rfl | rfl
        · exact absurd this.symm m1
        · exact absurd this.symm m2
    · rcases g' with g' | ⟨k', hk', cv, c0, q1, q2⟩
      · have := (h.base i vi ci b g hbi).2; omega
      · have := h.inj k' i _ _ _ _ b q1 g q2 hbi
        rcases hk' with rfl | rfl
        · exact absurd this.symm n1
        · exact absurd this.symm n2
    · exact h.inj i k _ _ _ _ b g g' hbi hbk
  · intro i vi ci b hi hb
    by_cases ei : i = id
    · subst ei
      rw [e1] at hi; cases hi
      refine ⟨?_, (hnew b hb).2⟩
      rcases (hnew b hb).1 with g | ⟨k', _, cv, c0, g1, g2⟩
      · exact .inl (Nat.le_trans h.keeps.size g)
      · exact (h.base _ _ _ _ g1 g2).1
    · by_cases ej : i = j
      · subst ej
        rw [e3] at hi; cases hi
        exact absurd hb (nb b)
      · rw [e2 i ei ej] at hi
        exact ⟨(h.base i vi ci b hi hb).1, Nat.lt_of_lt_of_le (h.base i vi ci b hi hb).2 hsize⟩
  · refine ⟨hos.trans h.keeps.os, htape.trans h.keeps.tape, hout.trans h.keeps.output, Nat.le_trans h.keeps.size hsize, fun b hb hM => ?_⟩
    rw [hblocks b (Nat.lt_of_lt_of_le hb h.keeps.size) fun cv c0 hi hbl => ?_]
    · exact h.keeps.block b hb hM
    · rcases (h.base _ _ _ _ hi hbl).1 with g | g
      · omega
      · exact hM g

/-- Slots that hold the slice of slices hold it still. -/
theorem bump_mod {conc' : Conc} {w' : World} {H : List (Nat × (Nat × AObj))} {id cv : Nat} {hd : Value} {vs vs' : List Value} (h : Mod P w0 conc st a w) (h' : Mod P w0 conc' { st with heap := H } a w')
    (hc : conc id = some (cv, .tuple (hd :: vs).toArray, true)) (hc' : conc' id = some (cv + 1, .tuple (hd :: vs').toArray, true)) :
    Mod P w0 conc' { N := st.N, marks := st.marks, slots := st.slots.map fun p => (p.1, bumpS id cv p.2), heap := H, fixed := st.fixed } a w' := by
  have hL : ∀ sl : Slot, (bumpS id cv sl).L = sl.L ∧ (bumpS id cv sl).g = sl.g := by
    intro sl
    unfold bumpS
    split
    · cases (Nat.beq _ _ && Nat.beq _ _) <;> exact ⟨rfl, rfl⟩
    · exact ⟨rfl, rfl⟩
  refine { defers := h'.defers, size := h'.size, marks := ?_, slots := ?_, heap := h'.heap, dead := h'.dead, inj := h'.inj, base := h'.base, keeps := h'.keeps, cB := h'.cB, cY := h'.cY, okS := h'.okS, fixed := h'.fixed }
  · intro d sl hd p hp
    simp only at hd
    rw [Map.get_map (bumpS id cv)] at hd
    cases hg : Map.get st.slots d with
    | none => rw [hg] at hd; cases hd
    | some sl0 =>
      rw [hg] at hd
      simp only [Option.map_some, Option.some.injEq] at hd
      subst hd
      rw [(hL sl0).1] at hp
      exact h.marks d sl0 hg p hp
  · intro d sl hd
    simp only at hd
    rw [Map.get_map (bumpS id cv)] at hd
    cases hg : Map.get st.slots d with
    | none => rw [hg] at hd; cases hd
    | some sl0 =>
      rw [hg] at hd
      simp only [Option.map_some, Option.some.injEq] at hd
      subst hd
      obtain ⟨v, h1, h2⟩ := h.slots d sl0 hg
      obtain ⟨v', h3, h4⟩ := h'.slots d sl0 hg
      rw [h1] at h3; cases h3
      refine ⟨v, h1, ?_⟩
      unfold bumpS
      split
      · rename_i i ver hs
        cases hb : (Nat.beq i id && Nat.beq ver cv) with
        | false => simpa using h4
        | true =>
          simp only [cond_true]
          simp only [Bool.and_eq_true] at hb
          have e1 := nbeq_true hb.1
          have e2 := nbeq_true hb.2
          subst e1
          subst e2
          refine ⟨fun hl => ⟨(h2.yes hl).1, ?_⟩, h2.no⟩
          have := (h2.yes hl).2
          rw [hs] at this
          obtain ⟨cv', c', ow', k1, _, k2, k3⟩ := this
          rw [hc] at k1; cases k1
          obtain ⟨us, e⟩ := k3 rfl
          simp at e
          exact ⟨_, _, true, hc', Nat.le_refl _, k2, fun _ => ⟨vs', by rw [e.1]⟩⟩
      · exact h4

/-- What an append to a slice of the call's own comes to. -/
structure Grew (P : Program) (w : World) (v : Value) (v' : Value) (w' : World) : Prop where
  os : w'.os = w.os
  tape : w'.tape = w.tape
  output : w'.output = w.output
  size : w.heap.size ≤ w'.heap.size
  block : ∀ b, b < w.heap.size → blockOf v ≠ some b → w'.heap[b]? = w.heap[b]?
  new : ∀ b, blockOf v' = some b → (w.heap.size ≤ b ∨ blockOf v = some b) ∧ b < w'.heap.size
  one : Go.Abs.one v' = true

theorem own_append {T T' ty : Nat} {e : Ty} {i : TypeInfo} (hu : P.underlying T = some (.slice T')) (hi1 : P.info? T' = some i) (hi2 : i.size = e.sz) (hi3 : i.bytes ≤ 32768)
    (hi4 : i.zero = some (e.val (zeroVals e))) (hpos : 0 < e.sz) {l m : List e.den} {v x : Value} {news : List Value} {ok : Nat → Prop} (ho : OwnB P w ok e v l) (hb : ∀ b, blockOf v = some b → b < w.heap.size) (hx : Reads P w ok e m x news)
    (hlen : l.length + m.length ≤ most) : ∃ v' w', (Builtin.append_ #[T, T] ty #[v, x]).run P w = .ok v' w' ∧ Grew P w v v' w' ∧ ∀ ok', Ext ok w w' → Sub w ok ok' → OwnB P w' ok' e v' (l ++ m) := by
  have hnr := hx
  obtain ⟨_, _, _, hrow, _⟩ := hnr
  have grown : ∀ {ad : Option Addr} {cap : Nat} {olds : List Value}, v = .slice ad l.length cap → Reads P w ok e l v olds → cap < l.length + m.length →
      ∃ v' w', (Builtin.append_ #[T, T] ty #[v, x]).run P w = .ok v' w' ∧ Grew P w v v' w' ∧ ∀ ok', Ext ok w w' → Sub w ok ok' → OwnB P w' ok' e v' (l ++ m) := by
    intro ad cap olds hv hr hg
    have hrun := run_append_grown (ty := ty) hu hi1 hi2 hi3 hi4 hr hx hv hg hlen
    have hge := grownCap_ge w (l.length + m.length) cap T'
    have hle := grownCap_le_maxLen w (l.length + m.length) cap T' (by unfold maxLen; unfold most at hlen; omega)
    obtain ⟨_, _, _, hrow0, _⟩ := hr
    have hrows := hrow0.append hrow
    refine ⟨_, _, hrun, ⟨rfl, rfl, rfl, (keeps_grown _).size, fun bb hb1 _ => (keeps_grown _).block bb hb1, fun bb hb1 => ?_, rfl⟩, fun ok' q1 q2 => ?_⟩
    · cases hb1
      refine ⟨.inl (Nat.le_refl _), ?_⟩
      simp
    · refine .inr ⟨w.heap.size, 0, _, _, T', by rw [List.length_append], heap_alloc_new w.drew _, by rw [List.length_append]; exact hge, hle, ?_, ?_⟩
      · simp only [Array.size_append, List.size_toArray, zeroCells_size hpos, val_size e hpos, hrow0.1, hrow.1]
        rw [← Nat.add_mul, ← Nat.add_mul, Nat.zero_add]
        refine Nat.mul_le_mul_right _ ?_
        omega
      · intro j y hj
        rw [Nat.zero_add]
        have e1 : (olds.toArray ++ (news.toArray ++ Builtin.zeroCells (e.val (zeroVals e)).cells (grownCap w (l.length + m.length) cap T' - (l.length + m.length)))).toList =
            (olds ++ news) ++ (Builtin.zeroCells (e.val (zeroVals e)).cells (grownCap w (l.length + m.length) cap T' - (l.length + m.length))).toList := by simp [List.append_assoc]
        rw [e1]
        exact (hrows.chunks j y hj).mono e (Keeps.ext (keeps_grown _) _) q2
  rcases ho with ⟨f1, f2⟩ | ⟨bl, off, cap, cs, U, f1, f2, f3, f4, f5, f6⟩
  · subst f2
    by_cases hm0 : m = []
    · have hrun := run_append_empty (ty := ty) hu hi1 hi2 hx hm0
      rw [← f1] at hrun
      exact ⟨_, _, hrun, ⟨rfl, rfl, rfl, Nat.le_refl _, fun _ _ _ => rfl, fun bb hb1 => (by rw [f1] at hb1; cases hb1), by rw [f1]; rfl⟩, fun ok' _ _ => .inl ⟨f1, by rw [hm0]; rfl⟩⟩
    · refine grown (olds := []) f1 ⟨none, 0, f1, ⟨by simp, by simp, by simp⟩, .inl ⟨rfl, rfl⟩⟩ ?_
      have := List.length_pos_iff.2 hm0
      simpa using this
  · by_cases hroom : l.length + m.length ≤ cap
    · have hrun := run_append_room (ty := ty) (n := l.length) hu hi1 hi2 f2 hx hroom f5
      rw [← f1] at hrun
      have hbase := hb bl (by rw [f1]; rfl)
      have hle : off + l.length * e.sz + news.length ≤ cs.toList.length := by
        have hcl : off + cap * e.sz ≤ cs.toList.length := by simpa using f5
        refine Nat.le_trans ?_ hcl
        rw [hrow.1, Nat.add_assoc, ← Nat.add_mul]; exact Nat.add_le_add_left (Nat.mul_le_mul_right _ hroom) _
      refine ⟨_, _, hrun, ⟨rfl, rfl, rfl, by simp, fun bb hb1 hne => setRow_other w bl bb _ (fun q => hne (by rw [f1, q]; rfl)), fun bb hb1 => ?_, rfl⟩, fun ok' q1 q2 => ?_⟩
      · cases hb1
        exact ⟨.inr (by rw [f1]; rfl), by simpa using hbase⟩
      · refine .inr ⟨bl, off, cap, _, U, by rw [List.length_append], setRow_heap w bl cs _ U (0, 0) f2, by rw [List.length_append]; exact hroom, f4, ?_, ?_⟩
        · simp only [List.size_toArray, List.length_append, List.length_take, List.length_drop]
          have hcl : off + cap * e.sz ≤ cs.toList.length := by simpa using f5
          omega
        · intro j y hj
          have h0 : RowRep P w ok e l (chunk cs.toList off (l.length * e.sz)) := rows_of hpos (by omega) (fun i x hi => f6 i x hi)
          have e1 : cs.toList.take (off + l.length * e.sz) = cs.toList.take off ++ chunk cs.toList off (l.length * e.sz) := by unfold chunk; rw [List.take_add]
          have := (h0.append hrow).chunks (us := cs.toList.drop (off + l.length * e.sz + news.length)) j y hj
          have hto : (cs.toList.take off).length = off := by rw [List.length_take]; omega
          have e2 : chunk (cs.toList.take (off + l.length * e.sz) ++ news ++ cs.toList.drop (off + l.length * e.sz + news.length)) (off + j * e.sz) e.sz =
              chunk (chunk cs.toList off (l.length * e.sz) ++ news ++ cs.toList.drop (off + l.length * e.sz + news.length)) (j * e.sz) e.sz := by
            rw [e1, List.append_assoc, List.append_assoc, chunk_append_right (by rw [hto]; omega), hto, Nat.add_sub_cancel_left, ← List.append_assoc]
          rw [← e2] at this
          exact this.mono e q1 q2
    · have hs' : off + l.length * e.sz ≤ cs.toList.length := by
        have hcl : off + cap * e.sz ≤ cs.toList.length := by simpa using f5
        exact Nat.le_trans (Nat.add_le_add_left (Nat.mul_le_mul_right _ f3) _) hcl
      exact grown f1 ⟨_, cap, f1, rows_of hpos hs' (fun i x hi => f6 i x hi), .inr ⟨bl, off, cs, U, _, rfl, f2, by simpa using hs', rfl⟩⟩ (by omega)

theorem nchunk_one {l : List Value} {i : Nat} {v : Value} (h : l[i]? = some v) : chunk l i 1 = [v] := by
  unfold chunk
  obtain ⟨h1, h2⟩ := List.getElem?_eq_some_iff.1 h
  rw [List.drop_eq_getElem_cons h1, List.take_succ_cons, List.take_zero, h2]

theorem OwnB.rep {e : Ty} {ok : Nat → Prop} {v : Value} {l : List e.den} (h : OwnB P w ok e v l) : Rep P (.slice e) w (fun _ => True) [v] l := by
  rcases h with ⟨h1, h2⟩ | ⟨b, off, cap, cs, T, h1, h2, h3, h4, h5, h6⟩
  · subst h2; rw [h1]; exact Rep.nilS
  · exact ⟨_, cap, by rw [h1], h3, .inr ⟨b, off, cs, T, _, rfl, trivial, h2, Nat.le_trans (Nat.add_le_add_left (Nat.mul_le_mul_right _ h3) _) h5, fun i x hi => (h6 i x hi).mono e ⟨Nat.le_refl _, fun _ _ _ => rfl⟩ (fun _ _ _ => trivial)⟩⟩

theorem OwnB.one {e : Ty} {ok : Nat → Prop} {v : Value} {l : List e.den} (h : OwnB P w ok e v l) : Go.Abs.one v = true := by
  rcases h with ⟨h1, _⟩ | ⟨b, off, cap, cs, T, h1, _⟩ <;> rw [h1] <;> rfl

/-- The row of a slice of slices. -/
theorem nrow_rows {e : Ty} {ok : Nat → Prop} {vs : List Value} {l : List (List e.den)} (hl : vs.length = l.length) (ho : ∀ (i : Nat) (u : Value) (li : List e.den), vs[i]? = some u → l[i]? = some li → OwnB P w ok e u li) :
    RowRep P w (fun _ => True) (.slice e) (l : List (Ty.slice e).den) vs := by
  refine ⟨by simp [Ty.sz, hl], fun v hv => ?_, fun i x hi => ?_⟩
  · obtain ⟨i, hi⟩ := List.getElem?_of_mem hv
    have hlt : i < l.length := by rw [← hl]; exact (List.getElem?_eq_some_iff.1 hi).1
    exact (ho i v _ hi (List.getElem?_eq_getElem hlt)).one
  · have hlt : i < vs.length := by rw [hl]; exact (List.getElem?_eq_some_iff.1 hi).1
    have := ho i vs[i] x (List.getElem?_eq_getElem hlt) hi
    show Rep P (.slice e) w _ (chunk vs (i * 1) 1) x
    rw [Nat.mul_one, nchunk_one (List.getElem?_eq_getElem hlt)]
    exact this.rep

theorem chunk_eq {l vs : List Value} {off : Nat} (hs : off + vs.length ≤ l.length) (h : ∀ i u, vs[i]? = some u → l[off + i]? = some u) : chunk l off vs.length = vs := by
  apply List.ext_getElem?
  intro i
  unfold chunk
  rw [List.getElem?_take]
  split
  · rename_i hi
    rw [List.getElem?_drop, List.getElem?_eq_getElem hi]
    exact h i _ (List.getElem?_eq_getElem hi)
  · rename_i hi
    rw [List.getElem?_eq_none (by omega)]

/-- An element is appended to a slice of slices. -/
theorem nrow_append {T T' ty : Nat} {e : Ty} {i : TypeInfo} (hu : P.underlying T = some (.slice T')) (hi1 : P.info? T' = some i) (hi2 : i.size = 1) (hi3 : i.bytes ≤ 32768)
    (hi4 : i.zero = some ((Ty.slice e).val (zeroVals (.slice e)))) {l : List (List e.den)} {li : List e.den} {v x u : Value} {vs : List Value} {ok : Nat → Prop} (hr : NRow w v vs) (hl : vs.length = l.length)
    (ho : ∀ (i : Nat) (u : Value) (li : List e.den), vs[i]? = some u → l[i]? = some li → OwnB P w ok e u li) (hb : ∀ b, blockOf v = some b → b < w.heap.size) (hx : Reads P w (fun _ => True) (.slice e) ([li] : List (Ty.slice e).den) x [u]) (h1 : Go.Abs.one u = true)
    (hlen : l.length + 1 ≤ most) : ∃ v' w', (Builtin.append_ #[T, T] ty #[v, x]).run P w = .ok v' w' ∧ Grew P w v v' w' ∧ NRow w' v' (vs ++ [u]) := by
  have hrow := nrow_rows hl ho
  have hlen' : (l : List (Ty.slice e).den).length + ([li] : List (Ty.slice e).den).length ≤ most := by simpa using hlen
  have hnew : ∀ (ad : Option Addr) (cap : Nat), v = .slice ad l.length cap → Reads P w (fun _ => True) (.slice e) (l : List (Ty.slice e).den) v vs → cap < l.length + 1 →
      ∃ v' w', (Builtin.append_ #[T, T] ty #[v, x]).run P w = .ok v' w' ∧ Grew P w v v' w' ∧ NRow w' v' (vs ++ [u]) := by
    intro ad cap hv hrd hg
    have hrun := run_append_grown (ty := ty) (e := .slice e) hu hi1 hi2 hi3 hi4 hrd hx hv (by simpa using hg) hlen'
    have hge := grownCap_ge w ((l : List (Ty.slice e).den).length + ([li] : List (Ty.slice e).den).length) cap T'
    have hle := grownCap_le_maxLen w ((l : List (Ty.slice e).den).length + ([li] : List (Ty.slice e).den).length) cap T' (by unfold maxLen; unfold most at hlen'; omega)
    refine ⟨_, _, hrun, ⟨rfl, rfl, rfl, (keeps_grown _).size, fun bb hb1 _ => (keeps_grown _).block bb hb1, fun bb hb1 => ?_, rfl⟩, ?_⟩
    · cases hb1
      refine ⟨.inl (Nat.le_refl _), ?_⟩
      simp
    · refine .inr ⟨w.heap.size, 0, _, _, T', by rw [List.length_append, hl]; rfl, heap_alloc_new w.drew _, by rw [List.length_append, hl]; exact hge, hle, ?_, ?_⟩
      · simp only [Array.size_append, List.size_toArray, zeroCells_size (e := .slice e) (show 0 < Ty.sz (.slice e) from Nat.one_pos), val_size (.slice e) (show 0 < Ty.sz (.slice e) from Nat.one_pos), hl]
        simp only [List.length_cons, List.length_nil, Ty.sz, Nat.mul_one, Nat.zero_add] at hge ⊢
        omega
      · intro j y hj
        rw [Nat.zero_add, ← Array.getElem?_toList]
        simp only [Array.toList_append]
        rw [← List.append_assoc, List.getElem?_append_left (by simpa using (List.getElem?_eq_some_iff.1 hj).1)]
        simpa using hj
  rcases hr with ⟨f1, f2⟩ | ⟨bl, off, cap, cs, U, f1, f2, f3, f4, f5, f6⟩
  · subst f2
    have hl0 : l = [] := List.length_eq_zero_iff.1 (by rw [← hl]; rfl)
    subst hl0
    exact hnew none 0 f1 ⟨none, 0, f1, ⟨by simp, by simp, by simp⟩, .inl ⟨rfl, rfl⟩⟩ (by simp)
  · have hcs : chunk cs.toList off vs.length = vs := by
      refine chunk_eq ?_ fun i u hi => by rw [Array.getElem?_toList]; exact f6 i u hi
      simp only [Array.length_toList]
      omega
    by_cases hroom : l.length + 1 ≤ cap
    · have hrun := run_append_room (ty := ty) (e := .slice e) (n := l.length) (m := ([li] : List (Ty.slice e).den)) hu hi1 hi2 f2 hx (by simpa using hroom) (by simpa [Ty.sz] using f5)
      rw [← hl] at hrun
      rw [← f1] at hrun
      have hbase := hb bl (by rw [f1]; rfl)
      simp only [Ty.sz, Nat.mul_one, List.length_cons, List.length_nil, Nat.zero_add] at hrun
      have hlt : off + vs.length < cs.toList.length := by simp only [Array.length_toList]; omega
      have hto : (cs.toList.take (off + vs.length)).length = off + vs.length := by rw [List.length_take]; omega
      refine ⟨_, _, hrun, ⟨rfl, rfl, rfl, by simp, fun bb hb1 hne => setRow_other w bl bb _ (fun q => hne (by rw [f1, q]; rfl)), fun bb hb1 => ?_, rfl⟩, ?_⟩
      · cases hb1
        exact ⟨.inr (by rw [f1]; rfl), by simpa using hbase⟩
      · refine .inr ⟨bl, off, cap, _, U, by rw [List.length_append]; rfl, setRow_heap w bl cs _ U (0, 0) f2, by rw [List.length_append, hl]; exact hroom, f4, ?_, ?_⟩
        · simp only [List.size_toArray, List.length_append, hto, List.length_drop, List.length_cons, List.length_nil, Array.length_toList]
          have : off + vs.length < cs.size := by simpa using hlt
          omega
        · intro j y hj
          rw [List.getElem?_toArray]
          rw [List.getElem?_append] at hj
          split at hj
          · rename_i hjl
            rw [List.append_assoc, List.getElem?_append_left (by rw [hto]; omega), List.getElem?_take, if_pos (by omega), Array.getElem?_toList]
            exact f6 j y hj
          · rename_i hjl
            have : j = vs.length := by
              have := (List.getElem?_eq_some_iff.1 hj).1
              simp at this
              omega
            subst this
            rw [List.append_assoc, List.getElem?_append_right (by rw [hto]; omega), hto, Nat.sub_self]
            simpa using hj
    · refine hnew _ cap (by rw [f1, hl]) ⟨_, cap, by rw [f1, hl], hrow, .inr ⟨bl, off, cs, U, _, rfl, f2, ?_, ?_⟩⟩ (by omega)
      · simp only [Ty.sz, Nat.mul_one]
        rw [← hl]
        omega
      · simp only [Ty.sz, Nat.mul_one]
        rw [← hl]
        exact hcs

theorem v1_cells {v : Value} (h : one v = true) : v.cells.toList = [v] := by cases v <;> first | rfl | cases h

theorem run_lit {T T' : Nat} {e : Ty} {i : TypeInfo} (hu : P.underlying T = some (.slice T')) (hi1 : P.info? T' = some i) (hi2 : i.size = 1) (hi4 : i.zero = some (e.val (zeroVals e))) {vx : Value} (h1 : one vx = true) :
    (Instr.buildSlice T 1 #[(0, vx)]).run P w = .ok (.slice (some ⟨w.heap.size, 0, none⟩) 1 1) (w.alloc (.cells #[vx] T')) := by
  have hzv : (zeroValue T').run P w = .ok (e.val (zeroVals e)) w := by simp [zeroValue, typeInfo, hi1, hi4]
  have hsz : (sizeOf T').run P w = .ok 1 w := by simp [sizeOf, typeInfo, hi1, hi2]
  have key : ∀ z : Array Value, Instr.fill (fun i => some (i * 1, 1)) ((Array.range (1 * 1)).map (fun j => z[j % z.size]!)) (#[(0, vx)] : Array (Nat × Value)).toList = some #[vx] := by
    intro z
    rw [fill_step (o := 0) (n := 1) rfl (v1_cells h1) rfl (by simp)]
    simp [Instr.fill]
  unfold Instr.buildSlice
  rw [Sem.run_bind, run_underlying hu]
  dsimp only [Result.andThen]
  rw [Sem.run_bind, hsz]
  dsimp only [Result.andThen]
  rw [if_neg (by decide), if_neg (by decide)]
  simp only [pure_bind, bind_assoc]
  rw [Sem.run_bind, hzv]
  dsimp only [Result.andThen]
  have := key (e.val (zeroVals e)).cells
  simp only [this]
  rfl

theorem hasB_tuple {v : Value} {vs : List Value} {u : Value} {b : Nat} (hu : u ∈ v :: vs) (hb : blockOf u = some b) : hasB (.tuple (v :: vs).toArray) b := ⟨u, by simpa using hu, hb⟩

theorem chk_some {n : Nat} {u : Unit} (h : chk n = some u) : n ≤ most := by
  unfold chk at h
  split at h
  · assumption
  · cases h

theorem bind_some' {α β : Type} {m : Option α} {f : α → Option β} {y : β} (h : m.bind f = some y) : ∃ x, m = some x ∧ f x = some y := by
  cases m with
  | none => cases h
  | some x => exact ⟨x, rfl, h⟩

theorem ifO_some {α : Type} {c : Prop} [Decidable c] {m : Option α} {y : α} (h : (if c then m else none) = some y) : c ∧ m = some y := by
  split at h
  · exact ⟨by assumption, h⟩
  · cases h

theorem condO_some {α : Type} {b : Bool} {m : Option α} {y : α} (h : (bif b then m else none) = some y) : b = true ∧ m = some y := by
  cases b with
  | false => cases h
  | true => exact ⟨rfl, h⟩

/-- An outer slice with one element more. -/
theorem orel_more {conc' : Conc} {ok ok' : Nat → Prop} {w1 w2 : World} {e : Ty} {l : List (List e.den)} {li : List e.den} {v v2 vx : Value} {vs : List Value} (hl : vs.length = l.length) (hr : NRow w2 v2 (vs ++ [vx]))
    (ho : ∀ (i : Nat) (u : Value) (li : List e.den), vs[i]? = some u → l[i]? = some li → OwnB P w1 ok e u li) (hvx : OwnB P w1 ok e vx li) (hx : Ext ok w1 w2) (hs : Sub w1 ok ok')
    (hb : ∀ u ∈ vs ++ [vx], ∀ b, blockOf u = some b → b < w1.heap.size ∧ blockOf v ≠ some b) (hg : Grew P w1 v v2 w2)
    (hp : (v :: vs).Pairwise fun x y => ∀ b, blockOf x = some b → blockOf y ≠ some b) (hpx : ∀ u ∈ vs, ∀ b, blockOf u = some b → blockOf vx ≠ some b) :
    ORel P w2 conc' ok' (.tuple (v2 :: (vs ++ [vx])).toArray) true (.nbuf e (l ++ [li])) := by
  have keep : ∀ u ∈ vs ++ [vx], ∀ b, blockOf u = some b → w2.heap[b]? = w1.heap[b]? := fun u hu b hub => hg.block b (hb u hu b hub).1 (hb u hu b hub).2
  refine ⟨rfl, v2, vs ++ [vx], rfl, by simp [hl], hr, fun i u m hi hm => ?_, ?_⟩
  · rw [List.getElem?_append] at hi hm
    rw [← hl] at hm
    split at hi
    · rename_i hlt
      rw [if_pos hlt] at hm
      exact (ho i u m hi hm).mono hx hs (keep u (List.mem_append_left _ (List.mem_of_getElem? hi)))
    · rename_i hlt
      rw [if_neg hlt] at hm
      have hz : i - vs.length = 0 := by
        have := (List.getElem?_eq_some_iff.1 hi).1
        simp at this
        omega
      rw [hz] at hi hm
      simp at hi hm
      subst hi
      subst hm
      exact hvx.mono hx hs (keep vx (by simp))
  · rw [List.pairwise_cons] at hp ⊢
    refine ⟨fun u hu b hb2 hub => ?_, ?_⟩
    · rcases (hg.new b hb2).1 with g | g
      · have := (hb u hu b hub).1; omega
      · exact (hb u hu b hub).2 g
    · rw [List.pairwise_append]
      refine ⟨hp.2, List.pairwise_singleton _ _, fun u hu y hy => ?_⟩
      rw [List.mem_singleton] at hy
      subst hy
      exact hpx u hu

theorem mac2_sound {R : Type} (hE : EnvOK P E) {T : Nat} {x s : Operand} {a' d : Nat} {K : ASt → Option R} {ans : R} (hr : mac2 E T x s a' d st K = some ans) (h : Models P w0 st a w) {o1 o2 : Oper} {ps : Array (Nat × Operand)}
    {args : Array Operand} {tys : Array TypeId} (op1 : o1.op = .buildSlice T 1 ps) (hps : ps.toList = [(0, x)]) (op2 : o2.op = .call { callee := .builtin .append, args := args, argTypes := tys }) (hargs : args.toList = [s, .tmp a']) (htys : tys.toList = [T, T]) :
    ∃ v1 w1 v2 w2 st', (execOp a.eval o1).run P w = .ok (.value v1) w1 ∧ (execOp (a.put (some a') v1).eval o2).run P w1 = .ok (.value v2) w2 ∧ Models P w0 st' ((a.put (some a') v1).put (some d) v2) w2 ∧ K st' = some ans := by
  obtain ⟨conc, hm⟩ := h
  unfold mac2 at hr
  split at hr
  · rename_i e hT
    rw [RM.runK_eq] at hr
    have hq := bind_some' hr; clear hr; obtain ⟨b, hb, hr⟩ := hq
    split at hr
    · rename_i st1 hp
      rw [RM.runK_eq] at hr
      have hq := bind_some' hr; clear hr; obtain ⟨sv, hsv, hr⟩ := hq
      split at hr
      · rename_i id ver
        split at hr
        · rename_i cv u l ho
          have hq := condO_some hr; clear hr; obtain ⟨g1, hr⟩ := hq
          simp only [Bool.and_eq_true] at g1
          have := nbeq_true g1.1
          subst this
          have hq := ifO_some hr; clear hr; obtain ⟨rfl, hr⟩ := hq
          have hq := bind_some' hr; clear hr; obtain ⟨cu, hck, hr⟩ := hq
          have hlen := chk_some hck
          obtain ⟨T', hu, i, hi1, hi2, hi3, hi4, hpos⟩ := elem_of hE hT
          have hi2' : i.size = 1 := hi2
          have hvx := rdA_rel hm (labs_nil _) hb
          -- what both ways do
          have key : ∀ (li : List u.den), one (a.eval x) = true → OwnB P w (okOf conc) u (a.eval x) li →
              ∃ v1 w1 v2 w2 v vs, (execOp a.eval o1).run P w = .ok (.value v1) w1 ∧ (execOp (a.put (some a') v1).eval o2).run P w1 = .ok (.value v2) w2 ∧ Keeps w w1 ∧ Mod P w0 conc st1 (a.put (some a') v1) w1 ∧
                conc id = some (cv, .tuple (v :: vs).toArray, true) ∧ Grew P w1 v v2 w2 ∧ NRow w2 v2 (vs ++ [a.eval x]) ∧ vs.length = l.length ∧
                (∀ (i : Nat) (y : Value) (lj : List u.den), vs[i]? = some y → l[i]? = some lj → OwnB P w1 (okOf conc) u y lj) ∧ OwnB P w1 (okOf conc) u (a.eval x) li ∧
                (v :: vs).Pairwise fun x y => ∀ b, blockOf x = some b → blockOf y ≠ some b := by
            intro li h1 hown
            have hps' : ps = #[(0, x)] := by rw [← Array.toArray_toList (xs := ps), hps]
            have hrun1 : (execOp a.eval o1).run P w = .ok (.value (.slice (some ⟨w.heap.size, 0, none⟩) 1 1)) (w.alloc (.cells #[a.eval x] T')) := by
              simp only [execOp, op1, hps']
              rw [Sem.run_bind]
              have : (#[(0, x)] : Array (Nat × Operand)).map (fun y => match y with | (i, x) => (i, a.eval x)) = #[(0, a.eval x)] := by simp
              rw [this, run_lit (e := .slice u) hu hi1 hi2' hi4 h1]
              rfl
            have hk := Keeps.alloc w (.cells #[a.eval x] T')
            have hm1 := putJ_mod (hm.grow hk) hp (.slice (some ⟨w.heap.size, 0, none⟩) 1 1)
            obtain ⟨c, ow, k1, k2⟩ := obj_rel hm1 ho
            obtain ⟨cv', c', ow', q1, _, _, q3⟩ := rdA_rel hm1 (labs_nil _) hsv
            rw [k1] at q1; cases q1
            obtain ⟨vs', e1⟩ := q3 rfl
            obtain ⟨rfl, v, vs, e2, e3, e4, e5, e6⟩ := k2
            have e2' := e1.symm.trans e2
            simp at e2'
            obtain ⟨e7, rfl⟩ := e2'
            have hown1 : OwnB P (w.alloc (.cells #[a.eval x] T')) (okOf conc) u (a.eval x) li := by
              refine hown.mono (hk.ext _) (Sub.refl _ _) fun bb hbb => hk.block bb ?_
              rcases hown with ⟨q, _⟩ | ⟨b', off, cap, cs, U, q, q2, _⟩
              · rw [q] at hbb; cases hbb
              · rw [q] at hbb; cases hbb
                exact (Array.getElem?_eq_some_iff.1 q2).1
            have hrd : Reads P (w.alloc (.cells #[a.eval x] T')) (fun _ => True) (.slice u) ([li] : List (Ty.slice u).den) (.slice (some ⟨w.heap.size, 0, none⟩) 1 1) [a.eval x] := by
              refine ⟨_, 1, rfl, nrow_rows (l := [li]) rfl (ok := okOf conc) ?_, .inr ⟨w.heap.size, 0, #[a.eval x], T', _, rfl, heap_alloc_new _ _, by simp [Ty.sz], rfl⟩⟩
              intro i y lj hi hj
              have hz : i = 0 := by
                have := (List.getElem?_eq_some_iff.1 hi).1
                simp at this
                omega
              subst hz
              simp at hi hj
              subst hi
              subst hj
              exact hown1
            have hbl : ∀ bb, blockOf v = some bb → bb < (w.alloc (.cells #[a.eval x] T')).heap.size := fun bb hbb => (hm1.base id cv _ bb k1 (by rw [e2]; exact hasB_tuple (by simp) hbb)).2
            obtain ⟨v2, w2, r1, r2, r3⟩ := nrow_append (ty := o2.type) hu hi1 hi2' hi3 hi4 e4 e3 e5 hbl hrd h1 hlen
            refine ⟨_, _, v2, w2, v, vs', hrun1, ?_, hk, hm1, by rw [k1, e2], r2, r3, e3, e5, hown1, e6⟩
            have ha1 : args = #[s, .tmp a'] := by rw [← Array.toArray_toList (xs := args), hargs]
            have ht1 : tys = #[T, T] := by rw [← Array.toArray_toList (xs := tys), htys]
            have hmay : a' < a.tmps.size := by
              unfold putJ at hp
              have := (condO_some hp).1
              rw [hm.size]
              exact (may_iff.1 this).1
            have hev : (a.put (some a') (.slice (some ⟨w.heap.size, 0, none⟩) 1 1)).eval (.tmp a') = .slice (some ⟨w.heap.size, 0, none⟩) 1 1 := by
              simp [Act.eval, put_get a a' _ hmay]
            simp only [execOp, op2, ha1, ht1, resolve, invoke, builtin, pure_bind, List.map_toArray, List.map_cons, List.map_nil, hev, e7]
            rw [Sem.run_bind, r1]; rfl
          split at hr
          · -- nil
            have hnil : a.eval x = .slice none 0 0 := hvx
            obtain ⟨v1, w1, v2, w2, v, vs, r1, r2, hk, hm1, hc, hg, hrow, e3, e5, hown, e6⟩ := key [] (by rw [hnil]; rfl) (.inl ⟨hnil, rfl⟩)
            have hlt : ∀ y ∈ v :: vs, ∀ bb, blockOf y = some bb → bb < w1.heap.size := fun y hy bb hbb => (hm1.base id cv _ bb hc (hasB_tuple hy hbb)).2
            obtain ⟨conc', k1, k2, k3, _, _⟩ := hm1.obj (id := id) (ver := cv + 1) (c := .tuple (v2 :: (vs ++ [a.eval x])).toArray) (o := .nbuf u (l ++ [[]])) (w' := w2) (fun cv' c0 ow hc' => by rw [hc] at hc'; cases hc'; exact .inl (Nat.lt_succ_self _))
              hg.os hg.tape hg.output hg.size (fun bb hbb hne => hg.block bb hbb fun q => hne cv _ hc (hasB_tuple (by simp) q)) (by
                rintro bb ⟨y, hy, hyb⟩
                simp only [List.toList_toArray, List.mem_cons, List.mem_append, List.not_mem_nil, or_false] at hy
                rcases hy with rfl | hy | rfl
                · refine ⟨(hg.new bb hyb).1.imp_right fun q => ⟨cv, _, hc, hasB_tuple (by simp) q⟩, (hg.new bb hyb).2⟩
                · exact ⟨.inr ⟨cv, _, hc, hasB_tuple (List.mem_cons_of_mem _ hy) hyb⟩, Nat.lt_of_lt_of_le (hlt y (List.mem_cons_of_mem _ hy) bb hyb) hg.size⟩
                · rw [hnil] at hyb; cases hyb)
              (fun conc' z1 z2 z3 z4 z5 => orel_more e3 hrow e5 hown z3 z4 (by
                intro y hy bb hyb
                rcases List.mem_append.1 hy with hy | hy
                · exact ⟨hlt y (List.mem_cons_of_mem _ hy) bb hyb, fun q => (List.pairwise_cons.1 e6).1 y hy bb q hyb⟩
                · rw [List.mem_singleton] at hy
                  subst hy
                  rw [hnil] at hyb; cases hyb) hg e6 (fun y _ bb _ q => by rw [hnil] at q; cases q))
            refine ⟨v1, w1, v2, w2, _, r1, r2, ⟨conc', ?_⟩, hr⟩
            refine k1.put (d := d) (sl := ⟨[], true, .v (.nhand id (cv + 1))⟩) (v := v2) (ms := st1.marks) g1.2 (fun _ h => h) (fun p hp => by simp at hp) ⟨fun _ => ⟨rfl, cv + 1, _, true, k2, Nat.le_refl _, hg.one, fun _ => ⟨_, rfl⟩⟩, fun hn => absurd (labs_nil _) hn⟩
          · -- one of the call's own
            rename_i j ver'
            split at hr
            · rename_i cv' u' li hoj
              have hq := condO_some hr; clear hr; obtain ⟨g2, hr⟩ := hq
              simp only [Bool.and_eq_true, Bool.not_eq_true'] at g2
              have := nbeq_true g2.1
              subst this
              have hji : j ≠ id := by
                intro q
                have := g2.2
                rw [nbeq, q] at this
                simp at this
              split at hr
              · rename_i hh
                subst hh
                rw [putJ_heap hp] at hoj
                obtain ⟨cj, ow, p1, p2⟩ := obj_rel hm hoj
                obtain ⟨cv2, c2, ow2, q1, _, _, q3⟩ := hvx
                rw [p1] at q1; cases q1
                have hvc := q3 rfl
                obtain ⟨rfl, p2⟩ := p2
                have hownx : OwnB P w (okOf conc) u' (a.eval x) li := by rw [hvc]; exact p2
                obtain ⟨v1, w1, v2, w2, v, vs, r1, r2, hk, hm1, hc, hg, hrow, e3, e5, hown, e6⟩ := key li hownx.one hownx
                have hlt : ∀ y ∈ v :: vs, ∀ bb, blockOf y = some bb → bb < w1.heap.size := fun y hy bb hbb => (hm1.base id cv _ bb hc (hasB_tuple hy hbb)).2
                have hltx : ∀ bb, blockOf (a.eval x) = some bb → bb < w1.heap.size := fun bb hbb => (hm1.base j cv' _ bb p1 (hasB_of (by rw [← hvc]; exact hbb))).2
                have hdis : ∀ y ∈ v :: vs, ∀ bb, blockOf y = some bb → blockOf (a.eval x) ≠ some bb := fun y hy bb hyb q =>
                  hji (hm1.inj j id _ _ _ _ bb p1 hc (hasB_of (by rw [← hvc]; exact q)) (hasB_tuple hy hyb))
                obtain ⟨conc', k1, k2, k3⟩ := hm1.merge (id := id) (j := j) (ver := cv + 1) (ver' := cv' + 1) (c := .tuple (v2 :: (vs ++ [a.eval x])).toArray) (o := .nbuf u' (l ++ [li])) (u := u') (w' := w2) hji
                  (fun cv0 c0 ow hc' => by rw [hc] at hc'; cases hc'; exact Nat.lt_succ_self _) (fun cv0 c0 ow hc' => by rw [p1] at hc'; cases hc'; exact Nat.lt_succ_self _)
                  hg.os hg.tape hg.output hg.size (fun bb hbb hne => hg.block bb hbb fun q => hne cv _ hc (hasB_tuple (by simp) q)) (by
                    rintro bb ⟨y, hy, hyb⟩
                    simp only [List.toList_toArray, List.mem_cons, List.mem_append, List.not_mem_nil, or_false] at hy
                    rcases hy with rfl | hy | rfl
                    · refine ⟨(hg.new bb hyb).1.imp_right fun q => ⟨id, .inl rfl, cv, _, hc, hasB_tuple (by simp) q⟩, (hg.new bb hyb).2⟩
                    · exact ⟨.inr ⟨id, .inl rfl, cv, _, hc, hasB_tuple (List.mem_cons_of_mem _ hy) hyb⟩, Nat.lt_of_lt_of_le (hlt y (List.mem_cons_of_mem _ hy) bb hyb) hg.size⟩
                    · exact ⟨.inr ⟨j, .inr rfl, cv', _, p1, hasB_of (by rw [← hvc]; exact hyb)⟩, Nat.lt_of_lt_of_le (hltx bb hyb) hg.size⟩)
                  (fun conc' z1 z3 z4 => orel_more e3 hrow e5 hown z3 z4 (by
                    intro y hy bb hyb
                    rcases List.mem_append.1 hy with hy | hy
                    · exact ⟨hlt y (List.mem_cons_of_mem _ hy) bb hyb, fun q => (List.pairwise_cons.1 e6).1 y hy bb q hyb⟩
                    · rw [List.mem_singleton] at hy
                      subst hy
                      exact ⟨hltx bb hyb, fun q => hdis v (by simp) bb q hyb⟩) hg e6 (fun y hy bb hyb => hdis y (List.mem_cons_of_mem _ hy) bb hyb))
                refine ⟨v1, w1, v2, w2, _, r1, r2, ⟨conc', ?_⟩, hr⟩
                refine k1.put (d := d) (sl := ⟨[], true, .v (.nhand id (cv + 1))⟩) (v := v2) (ms := st1.marks) g1.2 (fun _ h => h) (fun p hp => by simp at hp) ⟨fun _ => ⟨rfl, cv + 1, _, true, k2, Nat.le_refl _, hg.one, fun _ => ⟨_, rfl⟩⟩, fun hn => absurd (labs_nil _) hn⟩
              · cases hr
            · cases hr
          · cases hr
        · cases hr
      · cases hr
    · cases hr
  · cases hr

theorem dis_set {vs : List Value} {R : Value → Value → Prop} {i : Nat} {v' : Value} (hp : vs.Pairwise R) (h : ∀ (j : Nat) (u : Value), j ≠ i → vs[j]? = some u → R u v' ∧ R v' u) : (vs.set i v').Pairwise R := by
  rw [List.pairwise_iff_getElem] at hp ⊢
  intro x y hx hy hxy
  rw [List.length_set] at hx hy
  rw [List.getElem_set, List.getElem_set]
  split
  · rename_i e
    rw [if_neg (by omega)]
    exact (h y _ (by omega) (List.getElem?_eq_getElem hy)).2
  · rename_i e
    split
    · exact (h x _ (by omega) (List.getElem?_eq_getElem hx)).1
    · exact hp x y hx hy hxy

theorem dis_get {vs : List Value} {R : Value → Value → Prop} (hs : ∀ x y, R x y → R y x) (hp : vs.Pairwise R) {i j : Nat} {x y : Value} (hij : i ≠ j) (hx : vs[i]? = some x) (hy : vs[j]? = some y) : R x y := by
  rw [List.pairwise_iff_getElem] at hp
  obtain ⟨h1, rfl⟩ := List.getElem?_eq_some_iff.1 hx
  obtain ⟨h2, rfl⟩ := List.getElem?_eq_some_iff.1 hy
  rcases Nat.lt_or_gt_of_ne hij with h | h
  · exact hp i j h1 h2 h
  · exact hs _ _ (hp j i h2 h1 h)

theorem elems_specB (hE : EnvOK P E) (h : Mod P w0 conc st a w) {e : Ty} (hpos : 0 < e.sz) {b : AVal} {v : Value} {m : List e.den × W} (hr : (peekB E (.slice e) b).run st = some m) (hv : VRel P w conc (okOf conc) b v) :
    ∃ news, Reads P w (okOf conc) e m.1 v news := elems_spec hE h hpos hr hv

theorem mac3_sound {R : Type} (hE : EnvOK P E) {S T S' : Nat} {pa y s ix : Operand} {d d' : Nat} {K : ASt → Option R} {ans : R} (hr : mac3 E S T S' pa y s ix d d' st K = some ans) (h : Models P w0 st a w) {o1 o2 o3 : Oper}
    {args : Array Operand} {tys : Array TypeId} (op1 : o1.op = .call { callee := .builtin .append, args := args, argTypes := tys }) (hargs : args.toList = [pa, y]) (htys : tys.toList = [S, S])
    (op2 : o2.op = .indexAddr T s ix) (op3 : o3.op = .store S' (.tmp d') (.tmp d)) :
    ∃ v1 w1 p w2 st', (execOp a.eval o1).run P w = .ok (.value v1) w1 ∧ (execOp (a.put (some d) v1).eval o2).run P w1 = .ok (.value p) w1 ∧ (execOp ((a.put (some d) v1).put (some d') p).eval o3).run P w1 = .ok .skip w2 ∧
      Models P w0 st' ((a.put (some d) v1).put (some d') p) w2 ∧ K st' = some ans := by
  obtain ⟨conc, hm⟩ := h
  unfold mac3 at hr
  split at hr
  · rename_i e hS
    have hq := ifO_some hr; clear hr; obtain ⟨⟨hT, hS'⟩, hr⟩ := hq
    rw [RM.runK_eq] at hr
    have hq := bind_some' hr; clear hr; obtain ⟨x, hx, hr⟩ := hq
    split at hr
    · rename_i id ver u i
      rw [RM.runK_eq] at hr
      have hq := bind_some' hr; clear hr; obtain ⟨b, hb, hr⟩ := hq
      rw [RM.runK_eq] at hr
      have hq := bind_some' hr; clear hr; obtain ⟨m, hmm, hr⟩ := hq
      split at hr
      · rename_i st1 hp
        rw [RM.runK_eq] at hr
        have hq := bind_some' hr; clear hr; obtain ⟨sv, hsv, hr⟩ := hq
        split at hr
        · rename_i id' ver'
          rw [RM.runK_eq] at hr
          have hq := bind_some' hr; clear hr; obtain ⟨n, hn, hr⟩ := hq
          split at hr
          · rename_i cv u' l ho
            have hq := condO_some hr; clear hr; obtain ⟨g1, hr⟩ := hq
            simp only [Bool.and_eq_true, Bool.not_eq_true'] at g1
            obtain ⟨⟨⟨z1, z2⟩, z3⟩, z4⟩ := g1
            have := nbeq_true z1
            subst this
            have := (nbeq_true z2).symm
            subst this
            have := (nbeq_true z3).symm
            subst this
            have hdd : d ≠ d' := fun q => by rw [q, nbeq] at z4; simp at z4
            split at hr
            · rename_i hh
              obtain ⟨hh1, hh2⟩ := hh
              subst hh1
              subst hh2
              have hq := ifO_some hr; clear hr; obtain ⟨rfl, hr⟩ := hq
              have hq := bind_some' hr; clear hr; obtain ⟨li, hli, hr⟩ := hq
              have hq := bind_some' hr; clear hr; obtain ⟨cu, hck, hr⟩ := hq
              have hq := bind_some' hr; clear hr; obtain ⟨l', hl', hr⟩ := hq
              have hlen := chk_some hck
              split at hr
              · rename_i st2 hp2
                obtain ⟨i1, i2, i3⟩ := geti_some hli
                obtain ⟨_, _, rfl⟩ := seti_some hl'
                obtain ⟨T', hu, inf, hi1, hi2, hi3, hi4, hpos⟩ := elem_of hE hS
                have ho' := ho
                rw [putJ_heap hp] at ho'
                obtain ⟨c, ow, k1, k2⟩ := obj_rel hm ho'
                obtain ⟨rfl, v, vs, e2, e3, e4, e5, e6⟩ := k2
                subst e2
                obtain ⟨cv', c', ow', q1, _, _, q3⟩ := rdA_rel hm (labs_nil _) hx
                rw [k1] at q1; cases q1
                obtain ⟨o', vs', f1, _, f2⟩ := q3 rfl
                simp at f1
                obtain ⟨rfl, rfl⟩ := f1
                obtain ⟨news, hrd⟩ := elems_specB hE hm hpos hmm (rdA_rel hm (labs_nil _) hb)
                have hown := e5 _ _ _ f2 i3
                have hsym : ∀ x y : Value, (∀ b, blockOf x = some b → blockOf y ≠ some b) → (∀ b, blockOf y = some b → blockOf x ≠ some b) := fun x y hxy b hy hx => hxy b hx hy
                have hlt : ∀ q ∈ v :: vs, ∀ bb, blockOf q = some bb → bb < w.heap.size := fun q hq bb hbb => (hm.base id _ _ bb k1 (hasB_tuple hq hbb)).2
                have hmem : a.eval pa ∈ vs := List.mem_of_getElem? f2
                obtain ⟨v1, w1, r1, hg, r3⟩ := own_append (T := S) (T' := T') (ty := o1.type) hu hi1 hi2 hi3 hi4 hpos hown (hlt _ (List.mem_cons_of_mem _ hmem)) hrd hlen
                have hm1 := putJ_mod hm hp v1
                obtain ⟨cv', c', ow', q1, _, _, q3'⟩ := rdA_rel hm1 (labs_nil _) hsv
                rw [k1] at q1; cases q1
                obtain ⟨vs', f1⟩ := q3' rfl
                simp at f1
                obtain ⟨f1, rfl⟩ := f1
                obtain ⟨k, hix⟩ := rdInt_sound hm1 (labs_nil _) hn
                -- the outer slice
                rcases e4 with ⟨e4, e7⟩ | ⟨bl, off, cap, cs, U, e4, h5, h6, h7, h8, h9⟩
                · rw [e7] at f2; simp at f2
                · have hin : i.toNat < vs.length := by rw [e3]; exact i2
                  have hblv : blockOf v = some bl := by rw [e4]; rfl
                  have hnb : blockOf (a.eval pa) ≠ some bl := fun q => (List.pairwise_cons.1 e6).1 _ hmem bl hblv q
                  have hcell : w1.heap[bl]? = some (.cells cs U (0, 0)) := by rw [hg.block bl (hlt v (by simp) bl hblv) hnb]; exact h5
                  have run2 : (execOp (a.put (some d) v1).eval o2).run P w1 = .ok (.value (.pointer (some ⟨bl, off + i.toNat, none⟩))) w1 := by
                    have := run_indexAt (P := P) (w := w1) (slice_desc hE hT) (b := bl) (off := off) (len := vs.length) (cap := cap) (k := k) i1 hin
                    simp only [Ty.sz, Nat.mul_one] at this
                    simp only [execOp, op2, hix, ← f1, e4]
                    rw [Sem.run_bind, this]; rfl
                  have hm2 := putJ_mod hm1 hp2 (.pointer (some ⟨bl, off + i.toNat, none⟩))
                  have hd1 : d < a.tmps.size := by
                    unfold putJ at hp
                    rw [hm.size]
                    exact (may_iff.1 (condO_some hp).1).1
                  have hd2 : d' < (a.put (some d) v1).tmps.size := by
                    unfold putJ at hp2
                    rw [hm1.size]
                    exact (may_iff.1 (condO_some hp2).1).1
                  have ev1 : ((a.put (some d) v1).put (some d') (.pointer (some ⟨bl, off + i.toNat, none⟩))).eval (.tmp d') = .pointer (some ⟨bl, off + i.toNat, none⟩) := by
                    simp [Act.eval, put_get _ d' _ hd2]
                  have ev2 : ((a.put (some d) v1).put (some d') (.pointer (some ⟨bl, off + i.toNat, none⟩))).eval (.tmp d) = v1 := by
                    simp [Act.eval, put_get_ne _ (some d') _ d (fun q => hdd (by cases q; rfl)), put_get _ d _ hd1]
                  obtain ⟨te, hte, hok⟩ := hE.tyOK hS'
                  have hsz1 : te.ty.sz = 1 := by rw [hte]; rfl
                  have hoff : off + i.toNat + 1 ≤ cs.size := by omega
                  have hst := run_store (w := w1) hok (off := off + i.toNat) hcell (v1_cells hg.one) (fun q hq => by rw [List.mem_singleton] at hq; rw [hq]; exact hg.one) (by rw [hsz1]; rfl) (by rw [hsz1]; exact hoff)
                  rw [hsz1] at hst
                  refine ⟨v1, w1, .pointer (some ⟨bl, off + i.toNat, none⟩), w1.setRow bl (cs.toList.take (off + i.toNat) ++ [v1] ++ cs.toList.drop (off + i.toNat + 1)).toArray, _, ?_, run2, ?_, ?_, hr⟩
                  · have ha1 : args = #[pa, y] := by rw [← Array.toArray_toList (xs := args), hargs]
                    have ht1 : tys = #[S, S] := by rw [← Array.toArray_toList (xs := tys), htys]
                    simp only [execOp, op1, ha1, ht1, resolve, invoke, builtin, pure_bind, List.map_toArray, List.map_cons, List.map_nil]
                    rw [Sem.run_bind, r1]; rfl
                  · simp only [execOp, op3, ev1, ev2]
                    rw [Sem.run_bind, hst]; rfl
                  · -- the state behind it
                    have hsz : w1.heap.size ≤ (w1.setRow bl (cs.toList.take (off + i.toNat) ++ [v1] ++ cs.toList.drop (off + i.toNat + 1)).toArray).heap.size := by simp
                    have hv1b : ∀ bb, blockOf v1 = some bb → bb ≠ bl := by
                      rintro bb hbb rfl
                      rcases (hg.new bb hbb).1 with q | q
                      · have := hlt v (by simp) bb hblv; omega
                      · exact hnb q
                    obtain ⟨conc', k3, k4, _⟩ := hm2.obj (id := id) (ver := cv + 1) (c := .tuple (v :: vs.set i.toNat v1).toArray) (o := .nbuf u (l.set i.toNat (li ++ m.1))) (w' := w1.setRow bl (cs.toList.take (off + i.toNat) ++ [v1] ++ cs.toList.drop (off + i.toNat + 1)).toArray)
                      (fun cv' c0 ow hc' => by rw [k1] at hc'; cases hc'; exact .inl (Nat.lt_succ_self _)) hg.os hg.tape hg.output (Nat.le_trans hg.size hsz)
                      (fun bb hbb hne => by
                        rw [setRow_other w1 bl bb _ fun q => hne cv _ k1 (hasB_tuple (List.mem_cons_self (a := v)) (by rw [hblv, q]))]
                        exact hg.block bb hbb fun q => hne cv _ k1 (hasB_tuple (List.mem_cons_of_mem _ hmem) q))
                      (by
                        rintro bb ⟨q, hq, hqb⟩
                        simp only [List.toList_toArray, List.mem_cons] at hq
                        rcases hq with rfl | hq
                        · exact ⟨.inr ⟨cv, _, k1, hasB_tuple (by simp) hqb⟩, Nat.lt_of_lt_of_le (hlt q (by simp) bb hqb) (Nat.le_trans hg.size hsz)⟩
                        · rcases List.mem_or_eq_of_mem_set hq with hq | rfl
                          · exact ⟨.inr ⟨cv, _, k1, hasB_tuple (List.mem_cons_of_mem _ hq) hqb⟩, Nat.lt_of_lt_of_le (hlt q (List.mem_cons_of_mem _ hq) bb hqb) (Nat.le_trans hg.size hsz)⟩
                          · exact ⟨(hg.new bb hqb).1.imp_right fun z => ⟨cv, _, k1, hasB_tuple (List.mem_cons_of_mem _ hmem) z⟩, Nat.lt_of_lt_of_le (hg.new bb hqb).2 hsz⟩)
                      (fun conc' y1 y2 y3 y4 y5 => by
                        refine ⟨rfl, v, vs.set i.toNat v1, rfl, by simp [e3], .inr ⟨bl, off, cap, _, U, by rw [e4, List.length_set], setRow_heap w1 bl cs _ U (0, 0) hcell, by rw [List.length_set]; exact h6, h7, ?_, ?_⟩, ?_, ?_⟩
                        · simp only [List.size_toArray, List.length_append, List.length_take, List.length_drop, List.length_cons, List.length_nil, Array.length_toList]
                          omega
                        · intro j q hj
                          rw [List.getElem?_toArray]
                          have hto : (cs.toList.take (off + i.toNat)).length = off + i.toNat := by rw [List.length_take]; simp only [Array.length_toList]; omega
                          by_cases hij : i.toNat = j
                          · subst hij
                            rw [List.getElem?_set_self hin] at hj
                            rw [List.append_assoc, List.getElem?_append_right (by rw [hto]; omega), hto, Nat.sub_self]
                            simpa using hj
                          · rw [List.getElem?_set_ne hij] at hj
                            have := h9 j q hj
                            rw [← Array.getElem?_toList] at this
                            rw [← this]
                            rcases Nat.lt_or_gt_of_ne hij with hlt' | hlt'
                            · rw [List.getElem?_append_right (by simp only [List.length_append, hto, List.length_cons, List.length_nil]; omega), List.getElem?_drop]
                              congr 1
                              simp only [List.length_append, hto, List.length_cons, List.length_nil]
                              omega
                            · rw [List.append_assoc, List.getElem?_append_left (by rw [hto]; omega), List.getElem?_take, if_pos (by omega)]
                        · intro j q lj hj hlj
                          by_cases hij : i.toNat = j
                          · subst hij
                            rw [List.getElem?_set_self hin] at hj
                            rw [List.getElem?_set_self i2] at hlj
                            cases hj
                            cases hlj
                            have hx1 : Ext (okOf conc) w w1 := ⟨hg.size, fun bb hbb hl2 => hg.block bb hl2 fun z => hbb.2 id _ _ k1 (hasB_tuple (List.mem_cons_of_mem _ hmem) z)⟩
                            exact (r3 (okOf conc') hx1 y4).mono ⟨hsz, fun bb hbb hl2 => setRow_other w1 bl bb _ fun z => hbb.2 id _ _ y2 (hasB_tuple (List.mem_cons_self (a := v)) (by rw [hblv, z]))⟩ (Sub.refl _ _) (fun bb hbb => setRow_other w1 bl bb _ (hv1b bb hbb))
                          · rw [List.getElem?_set_ne hij] at hj hlj
                            refine (e5 j q lj hj hlj).mono y3 y4 fun bb hbb => ?_
                            have hqm := List.mem_of_getElem? hj
                            rw [setRow_other w1 bl bb _ fun z => (List.pairwise_cons.1 e6).1 q hqm bl hblv (by rw [← z]; exact hbb)]
                            exact hg.block bb (hlt q (List.mem_cons_of_mem _ hqm) bb hbb) fun z => dis_get hsym (List.pairwise_cons.1 e6).2 hij f2 hj bb z hbb
                        · rw [List.pairwise_cons] at e6 ⊢
                          refine ⟨fun q hq bb hbb hqb => ?_, dis_set e6.2 fun j q hji hq => ?_⟩
                          · rcases List.mem_or_eq_of_mem_set hq with hq | rfl
                            · exact e6.1 q hq bb hbb hqb
                            · rw [hblv] at hbb; cases hbb
                              exact hv1b _ hqb rfl
                          · have : ∀ bb, blockOf q = some bb → blockOf v1 ≠ some bb := fun bb hqb hvb => by
                              rcases (hg.new bb hvb).1 with z | z
                              · have := hlt q (List.mem_cons_of_mem _ (List.mem_of_getElem? hq)) bb hqb; omega
                              · exact dis_get hsym e6.2 hji hq f2 bb hqb z
                            exact ⟨this, hsym _ _ this⟩)
                    exact ⟨conc', bump_mod hm2 k3 k1 k4⟩
              · cases hr
            · cases hr
          · cases hr
        · cases hr
      · cases hr
    · cases hr
  · cases hr

theorem bare_wanted {ops : Array Oper} {o : Oper} (h : Oper.bare o = true) : Region.wanted o (yielded ops a.tmps) = true := by
  unfold Oper.bare at h
  unfold Region.wanted
  cases hg : o.guard with
  | none => rfl
  | some p => rw [hg] at h; cases h

theorem value_in {r : Option Nat} {n : Nat} {o : Oper} {v : Value} {w' : World} {K : Act → World → Prop} {Q : Exit → Act → World → Prop} (hd : ∀ c, o.op ≠ .defer c) (hr : (execOp a.eval o).run P w = .ok (.value v) w')
    (h : K (a.put o.dst v) w') : o.wpIn (Fr r) n P a w K Q := by
  refine op_in hd ?_
  unfold Oper.wp
  rw [hr]
  exact h

theorem skip_in {r : Option Nat} {n : Nat} {o : Oper} {w' : World} {K : Act → World → Prop} {Q : Exit → Act → World → Prop} (hd : ∀ c, o.op ≠ .defer c) (hr : (execOp a.eval o).run P w = .ok .skip w')
    (h : K (a.put o.dst undef) w') : o.wpIn (Fr r) n P a w K Q := by
  refine op_in hd ?_
  unfold Oper.wp
  rw [hr]
  exact h

theorem opsM_sound {R : Type} (hE : EnvOK P E) {r : Option Nat} {n : Nat} {ops : Array Oper} {Q : Exit → Act → World → Prop} {K : ASt → Option R} {ans : R} (hq : ∀ st2 a' w', Models P w0 st2 a' w' → K st2 = some ans → Q .normal a' w') :
    ∀ (fuel : Nat) (is : List Nat) (l : List Oper), is.map (fun i => ops[i]?) = l.map some → ∀ {st : ASt} {a : Act} {w : World}, Models P w0 st a w → opsM E ops fuel l st K = some ans → wpOpsIn (Fr r) n P ops Q is a w := by
  intro fuel
  induction fuel with
  | zero =>
    intro is l hl st a w h hr
    cases l with
    | nil =>
      cases is with
      | nil => exact hq st a w h hr
      | cons _ _ => simp at hl
    | cons _ _ => cases hr
  | succ fuel ih =>
    intro is l hl st a w h hr
    cases l with
    | nil =>
      cases is with
      | nil => exact hq st a w h hr
      | cons _ _ => simp at hl
    | cons o l =>
      cases is with
      | nil => simp at hl
      | cons i is =>
        simp only [List.map_cons, List.cons.injEq] at hl
        obtain ⟨h1, h2⟩ := hl
        simp only [opsM] at hr
        split at hr
        · -- two
          rename_i T x s d1 d2 r2 hmac
          unfold mac? at hmac
          split at hmac
          · rename_i T' n' ps d1' o2 r2' op1 hd1
            split at hmac
            · rename_i i' x' args tys d2' e hps op2 hd2 hT
              split at hmac
              · rename_i s' t T1 T2 hargs htys
                obtain ⟨g, hm⟩ := condO_some hmac
                simp only [Bool.and_eq_true] at g
                obtain ⟨⟨⟨⟨⟨⟨g1, g2⟩, g3⟩, g4⟩, g5⟩, g6⟩, g7⟩ := g
                have e1 := nbeq_true g1
                have e2 := nbeq_true g2
                have e3 := nbeq_true g3
                have e4 := nbeq_true g4
                have e5 := nbeq_true g5
                subst e1 e2 e3 e4
                subst e5
                cases hm
                cases is with
                | nil => simp at h2
                | cons i2 is =>
                  simp only [List.map_cons, List.cons.injEq] at h2
                  obtain ⟨h2, h3⟩ := h2
                  obtain ⟨v1, w1, v2, w2, st', r1, r2, hmod, hk⟩ := mac2_sound hE hr h op1 hps op2 hargs htys
                  simp only [wpOpsIn, h1, bare_wanted g6, if_true]
                  refine value_in (fun c hc => by rw [op1] at hc; cases hc) r1 ?_
                  rw [hd1]
                  simp only [wpOpsIn, h2, bare_wanted g7, if_true]
                  refine value_in (fun c hc => by rw [op2] at hc; cases hc) r2 ?_
                  rw [hd2]
                  exact ih is _ h3 hmod hk
              · cases hmac
            · cases hmac
          · split at hmac
            · have := (condO_some hmac).2
              cases this
            · cases hmac
          · cases hmac
        · -- three
          rename_i S T S' pa y s ix d d' r3 hmac
          unfold mac? at hmac
          split at hmac
          · split at hmac
            · split at hmac
              · have := (condO_some hmac).2
                cases this
              · cases hmac
            · cases hmac
          · rename_i args tys dd o2 o3 r3' op1 hd1
            split at hmac
            · rename_i a1 y1 S1 S2 T1 s1 ix1 d1' S1' p q hargs htys op2 hd2 op3 hd3
              obtain ⟨g, hm⟩ := condO_some hmac
              simp only [Bool.and_eq_true] at g
              obtain ⟨⟨⟨⟨⟨g1, g2⟩, g3⟩, g4⟩, g5⟩, g6⟩ := g
              have e1 := nbeq_true g1
              have e2 := nbeq_true g2
              have e3 := nbeq_true g3
              subst e1 e2 e3
              cases hm
              cases is with
              | nil => simp at h2
              | cons i2 is =>
                simp only [List.map_cons, List.cons.injEq] at h2
                obtain ⟨h2, h3⟩ := h2
                cases is with
                | nil => simp at h3
                | cons i3 is =>
                  simp only [List.map_cons, List.cons.injEq] at h3
                  obtain ⟨h3, h4⟩ := h3
                  obtain ⟨v1, w1, p, w2, st', r1, r2, r3, hmod, hk⟩ := mac3_sound hE hr h op1 hargs htys op2 op3
                  simp only [wpOpsIn, h1, bare_wanted g4, if_true]
                  refine value_in (fun c hc => by rw [op1] at hc; cases hc) r1 ?_
                  rw [hd1]
                  simp only [wpOpsIn, h2, bare_wanted g5, if_true]
                  refine value_in (fun c hc => by rw [op2] at hc; cases hc) r2 ?_
                  rw [hd2]
                  simp only [wpOpsIn, h3, bare_wanted g6, if_true]
                  refine skip_in (fun c hc => by rw [op3] at hc; cases hc) r3 ?_
                  rw [hd3]
                  exact ih is _ h4 hmod hk
            · cases hmac
          · cases hmac
        · -- one operation
          rw [opR_eq] at hr
          have hq := bind_some' hr; clear hr; obtain ⟨st1, hs, hr⟩ := hq
          have hstep := stepD_sound hE h hs
          simp only [wpOpsIn, h1]
          cases hw : Region.wanted o (yielded ops a.tmps) with
          | true =>
            simp only [if_true]
            exact op_in (stepD_no_defer hs) (hstep.1 hw _ Q fun a' w' hm => ih is l h2 hm hr)
          | false =>
            simp only [Bool.false_eq_true, if_false]
            exact ⟨fun _ _ => trivial, ih is l h2 (hstep.2 hw) hr⟩

end Go.Abs
