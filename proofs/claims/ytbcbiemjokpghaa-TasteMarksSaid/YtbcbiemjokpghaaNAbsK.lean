/- Operations that make objects. -/
import Derived.Test.YtbcbiemjokpghaaNAbsJ
set_option linter.unusedSimpArgs false
set_option linter.unusedVariables false
namespace Go.Abs
open Go
variable {P : Program} {E : Env} {w0 : Start} {w : World} {conc : Conc} {st : ASt} {a : Act}

theorem FrzW.none (P : Program) (conc : Conc) (st : ASt) (w : World) : FrzW P conc st w (ids []) [] := FrzW.nil

theorem heap_new (o : Obj) : (w.alloc o).heap[w.heap.size]? = some o := heap_alloc_new w o

theorem run_newRow (U : Nat) (cs : Array Value) : (newRow U cs).run P w = .ok ⟨w.heap.size, 0, none⟩ (w.alloc (.cells cs U)) := rfl

/-- A box that is new. -/
theorem box_new {d : Nat} {t : Ty} {l : List AVal} {u : Upd} {st' : ASt} {cs : Array Value} {U : Nat} (h : Mod P w0 conc st a w)
    (hr : (newObj d (.box t l) (fun v => .bptr d v 0) []).run st = some u) (hap : applyU st none u = some st') (hl : l.length = t.sz) (h1 : ∀ v ∈ cs.toList, one v = true)
    (hv : All2 (VRel P w conc (okOf conc)) l cs.toList) : Models P w0 st' (a.put (some d) (.pointer (some ⟨w.heap.size, 0, none⟩))) (w.alloc (.cells cs U)) := by
  refine new_done h (FrzW.none P conc st w) hr hap (Keeps.alloc w _) (fun b hb => ?_) (fun conc' g1 g2 g3 => ?_) (fun conc' ver hc => ?_)
  · cases hb; simp
  · refine ⟨rfl, _, cs, U, rfl, heap_new _, hl, h1, hv.imp fun x v hx => hx.mono (Keeps.ext (Keeps.alloc w _) _) ?_ g1⟩
    have := g2
    rw [show ids [] = [] from rfl, frzL_nil] at this
    exact this
  · exact ⟨ver, _, true, hc, Nat.le_refl _, rfl, fun _ => ⟨_, rfl, rfl⟩⟩

/-- A buffer that is new. -/
theorem buf_newO {d : Nat} {e : Ty} {l : List e.den} {u : Upd} {st' : ASt} {W0 : W} {cs : Array Value} {U : Nat} (h : Mod P w0 conc st a w) (hW : FrzW P conc st w (ids W0) W0)
    (hr : (newObj d (.buf e l) (.hand d) W0).run st = some u) (hap : applyU st none u = some st') {cap : Nat} (hl : l.length ≤ cap) (hm : cap ≤ maxLen) {off : Nat} (hs : off + cap * e.sz ≤ cs.size) {w' : World} {b : Nat}
    (hk : Keeps w w') (hb : w.heap.size ≤ b) (hb' : w'.heap[b]? = some (.cells cs U (0, 0)))
    (hv : ∀ i x, l[i]? = some x → Rep P e w' (fun b' => (okOf (frzL conc (ids W0)) b' ∨ w.heap.size ≤ b') ∧ b' ≠ b) (chunk cs.toList (off + i * e.sz) e.sz) x) :
    Models P w0 st' (a.put (some d) (.slice (some ⟨b, off, none⟩) l.length cap)) w' := by
  refine new_done h hW hr hap hk (fun b'' hb'' => ?_) (fun conc' g1 g2 g3 => ?_) (fun conc' ver hc => ?_)
  · cases hb''; exact ⟨hb, (Array.getElem?_eq_some_iff.1 hb').1⟩
  · refine ⟨rfl, .inr ⟨b, off, cap, cs, U, rfl, hb', hl, hm, hs, fun i x hi => (hv i x hi).mono e ⟨Nat.le_refl _, fun _ _ _ => rfl⟩ ?_⟩⟩
    rintro b'' ⟨h1, h2⟩ _
    by_cases hlt : b'' < w.heap.size
    · rcases h1 with h1 | h1
      · exact g2 b'' h1 hlt
      · omega
    · exact g3 b'' (by omega) (fun e => h2 (by cases e; rfl))
  · exact ⟨ver, _, true, hc, Nat.le_refl _, rfl, fun _ => rfl⟩

theorem buf_new {d : Nat} {e : Ty} {l : List e.den} {u : Upd} {st' : ASt} {W0 : W} {cs : Array Value} {U : Nat} (h : Mod P w0 conc st a w) (hW : FrzW P conc st w (ids W0) W0)
    (hr : (newObj d (.buf e l) (.hand d) W0).run st = some u) (hap : applyU st none u = some st') {cap : Nat} (hl : l.length ≤ cap) (hm : cap ≤ maxLen) (hs : cs.size = cap * e.sz) {w' : World} {b : Nat}
    (hk : Keeps w w') (hb : w.heap.size ≤ b) (hb' : w'.heap[b]? = some (.cells cs U (0, 0)))
    (hv : ∀ i x, l[i]? = some x → Rep P e w' (fun b' => (okOf (frzL conc (ids W0)) b' ∨ w.heap.size ≤ b') ∧ b' ≠ b) (chunk cs.toList (i * e.sz) e.sz) x) :
    Models P w0 st' (a.put (some d) (.slice (some ⟨b, 0, none⟩) l.length cap)) w' :=
  buf_newO h hW hr hap hl hm (off := 0) (by rw [Nat.zero_add]; exact Nat.le_of_eq hs.symm) hk hb hb' fun i x hi => by rw [Nat.zero_add]; exact hv i x hi


theorem chunk_zero {z : Array Value} {n sz i : Nat} (hz : z.size = sz) (hi : i < n) :
    chunk ((Array.range (n * sz)).map (fun j => z[j % z.size]!)).toList (i * sz) sz = z.toList := by
  apply List.ext_getElem?
  intro j
  unfold chunk
  rw [List.getElem?_take]
  split
  · rename_i hj
    have hlt : i * sz + j < n * sz := by
      have : (i + 1) * sz ≤ n * sz := Nat.mul_le_mul_right _ hi
      rw [Nat.succ_mul] at this; omega
    have hm : (i * sz + j) % sz = j := by rw [Nat.add_comm, Nat.add_mul_mod_self_right, Nat.mod_eq_of_lt hj]
    rw [List.getElem?_drop]
    have hjz : j < z.size := by omega
    simp only [Array.toList_map, Array.toList_range, List.getElem?_map, List.getElem?_range, hlt, Option.map_some, hz, hm, Array.getElem?_toList]
    rw [getElem!_pos z j hjz, Array.getElem?_eq_getElem hjz]
  · rename_i hj
    rw [List.getElem?_eq_none]
    simp; omega

/-- All parts of a row read as the list. -/
def RowRep (P : Program) (w : World) (ok : Nat → Prop) (e : Ty) (l : List e.den) (vs : List Value) : Prop :=
  vs.length = l.length * e.sz ∧ (∀ v ∈ vs, one v = true) ∧ ∀ i x, l[i]? = some x → Rep P e w ok (chunk vs (i * e.sz) e.sz) x

theorem RowRep.mono {w' : World} {ok ok' : Nat → Prop} {e : Ty} {l : List e.den} {vs : List Value} (h : RowRep P w ok e l vs) (hx : Ext ok w w') (hs : Sub w ok ok') : RowRep P w' ok' e l vs :=
  ⟨h.1, h.2.1, fun i x hi => (h.2.2 i x hi).mono e hx hs⟩

theorem RowRep.zero {ok : Nat → Prop} {e : Ty} (he : e.noFn = true) (n : Nat) {z : Array Value} (hz : z.toList = zeroVals e) :
    RowRep P w ok e (List.replicate n e.dflt) ((Array.range (n * e.sz)).map (fun j => z[j % z.size]!)).toList := by
  have hsz : z.size = e.sz := by rw [← zero_len e, ← hz]; simp
  refine ⟨by simp, ?_, fun i x hi => ?_⟩
  · intro v hv
    simp only [Array.toList_map, List.mem_map] at hv
    obtain ⟨j, hj, rfl⟩ := hv
    by_cases h0 : e.sz = 0
    · simp [h0] at hj
    · have : j % z.size < z.size := Nat.mod_lt _ (by omega)
      rw [getElem!_pos z _ this]
      exact zero_one e _ (by rw [← hz]; simp)
  · have hlt := (List.getElem?_eq_some_iff.1 hi).1
    simp only [List.length_replicate] at hlt
    rw [List.getElem?_replicate, if_pos hlt] at hi
    cases hi
    rw [chunk_zero hsz hlt, hz]
    exact zero_rep e he

theorem chunk_splice_same {l m : List Value} {o n : Nat} (ho : o + n ≤ l.length) (hm : m.length = n) : chunk (l.take o ++ m ++ l.drop (o + n)) o n = m := by
  unfold chunk
  have h1 : (l.take o).length = o := by rw [List.length_take]; omega
  rw [List.append_assoc, List.drop_left' h1, List.take_left' hm]

theorem chunk_splice_other {l m : List Value} {o n p q : Nat} (ho : o + n ≤ l.length) (hm : m.length = n) (hd : p + q ≤ o ∨ o + n ≤ p) : chunk (l.take o ++ m ++ l.drop (o + n)) p q = chunk l p q := by
  unfold chunk
  have h1 : (l.take o).length = o := by rw [List.length_take]; omega
  rcases hd with hd | hd
  · rw [List.append_assoc, List.drop_append_of_le_length (by omega), List.take_append_of_le_length (by rw [List.length_drop]; omega), List.drop_take, List.take_take]
    congr 1
    omega
  · have h2 : (l.take o ++ m).length = o + n := by rw [List.length_append, h1, hm]
    rw [List.drop_append, h2, List.drop_of_length_le (by omega), List.nil_append, List.drop_drop]
    congr 2
    omega

theorem RowRep.set {ok : Nat → Prop} {e : Ty} {l : List e.den} {vs us : List Value} (h : RowRep P w ok e l vs) {i : Nat} (hi : i < l.length) {x : e.den} (hx : Rep P e w ok us x) :
    RowRep P w ok e (l.set i x) (vs.take (i * e.sz) ++ us ++ vs.drop (i * e.sz + e.sz)) := by
  obtain ⟨h1, h2, h3⟩ := h
  have hus := hx.len
  have hle : i * e.sz + e.sz ≤ vs.length := by
    rw [h1, ← Nat.succ_mul]; exact Nat.mul_le_mul_right _ hi
  refine ⟨?_, ?_, fun j y hj => ?_⟩
  · simp only [List.length_append, List.length_take, List.length_drop, List.length_set]
    rw [← h1]; omega
  · intro v hv
    simp only [List.mem_append] at hv
    rcases hv with (hv | hv) | hv
    · exact h2 v (List.mem_of_mem_take hv)
    · exact Rep.ones e hx v hv
    · exact h2 v (List.mem_of_mem_drop hv)
  · by_cases hij : i = j
    · subst hij
      rw [List.getElem?_set_self (by simpa using hi)] at hj
      cases hj
      rw [chunk_splice_same hle hus]; exact hx
    · rw [List.getElem?_set_ne hij] at hj
      have hjl := (List.getElem?_eq_some_iff.1 hj).1
      have : chunk (vs.take (i * e.sz) ++ us ++ vs.drop (i * e.sz + e.sz)) (j * e.sz) e.sz = chunk vs (j * e.sz) e.sz := by
        refine chunk_splice_other hle hus ?_
        rcases Nat.lt_or_gt_of_ne hij with hlt | hlt
        · right
          rw [← Nat.succ_mul]; exact Nat.mul_le_mul_right _ hlt
        · left
          rw [← Nat.succ_mul]; exact Nat.mul_le_mul_right _ hlt
      rw [this]
      exact h3 j y hj

theorem val_cells' {t : Ty} {ok : Nat → Prop} {vs : List Value} {d : t.den} (ht : 0 < t.sz) (h : Rep P t w ok vs d) : (t.val vs).cells.toList = vs :=
  val_cells (fun e => by rw [e] at ht; cases ht) h

/-- The parts of a literal slice. -/
theorem fillL_sound (hE : EnvOK P E) (h : Mod P w0 conc st a w) {e : Ty} (hpos : 0 < e.sz) {F : List Nat} : {ps : List (Nat × Operand)} → {l : List e.den} → {W0 : W} → {r : List e.den × W} → {cs : Array Value} →
    (fillL E e l W0 ps).run st = some r → (∀ id ∈ ids r.2, id ∈ F) → ((∀ id ∈ ids W0, id ∈ F) → FrzW P conc st w F W0) → RowRep P w (okOf (frzL conc F)) e l cs.toList →
    (∀ id ∈ ids W0, id ∈ ids r.2) ∧ r.1.length = l.length ∧ FrzW P conc st w F r.2 ∧
    ∃ cs', Instr.fill (fun i => some (i * e.sz, e.sz)) cs (ps.map fun p => (p.1, a.eval p.2)) = some cs' ∧ RowRep P w (okOf (frzL conc F)) e r.1 cs'.toList
  | [], l, W0, r, cs, hr, hF, hW, hv => by
    cases hr
    exact ⟨fun _ h => h, rfl, hW hF, cs, rfl, hv⟩
  | (i, x) :: ps, l, W0, r, cs, hr, hF, hW, hv => by
    simp only [fillL] at hr
    obtain ⟨s, g1, hr1⟩ := RM.bind_some hr
    obtain ⟨d, g2, hr2⟩ := RM.bind_some hr1
    obtain ⟨g3, hr3⟩ := cond_some hr2
    have hi : i < l.length := by
      have : i + 1 ≤ l.length := by simpa [Nat.blt] using g3
      omega
    obtain ⟨us, e1, e2⟩ := peek_spec hE h g2 (rd_rel h (labs_nil _) g1)
    -- what the rest freezes holds what this part does
    have sub : ∀ (ps : List (Nat × Operand)) (l : List e.den) (W0 : W) (r : List e.den × W), (fillL E e l W0 ps).run st = some r → ∀ id ∈ ids W0, id ∈ ids r.2 := by
      intro ps
      induction ps with
      | nil => intro l W0 r hr; cases hr; exact fun _ h => h
      | cons p ps ih =>
        obtain ⟨i, x⟩ := p
        intro l W0 r hr id hid
        simp only [fillL] at hr
        obtain ⟨s, k1, hr1⟩ := RM.bind_some hr
        obtain ⟨d, k2, hr2⟩ := RM.bind_some hr1
        obtain ⟨k3, hr3⟩ := cond_some hr2
        exact ih _ _ _ hr3 id (by rw [ids_append]; exact List.mem_append_left _ hid)
    have hF0 : ∀ id ∈ ids (W0 ++ d.2), id ∈ F := fun id hid => hF id (sub _ _ _ _ hr3 id hid)
    have hd := e2 F fun id hid => hF0 id (by rw [ids_append]; exact List.mem_append_right _ hid)
    have hset := hv.set hi hd.2
    have hcell := val_cells' hpos hd.2
    rw [← e1] at hcell
    have := fillL_sound hE h hpos (F := F) (cs := (cs.toList.take (i * e.sz) ++ us ++ cs.toList.drop (i * e.sz + e.sz)).toArray) hr3 hF
      (fun _ => (hW fun id hid => hF0 id (by rw [ids_append]; exact List.mem_append_left _ hid)).append hd.1) (by simpa using hset)
    obtain ⟨k1, k2, k3, cs', k4, k5⟩ := this
    refine ⟨fun id hid => k1 id (by rw [ids_append]; exact List.mem_append_left _ hid), by rw [k2, List.length_set], k3, cs', ?_, k5⟩
    rw [List.map_cons, fill_step (o := i * e.sz) (n := e.sz) rfl hcell hd.2.len]
    · exact k4
    · have := hv.1
      simp only [Array.length_toList] at this
      rw [this, ← Nat.succ_mul]; exact Nat.mul_le_mul_right _ hi

end Go.Abs
