/- Several new objects at once: the slices of new data. -/
import Derived.Test.YtbcbiemjokpghaaNAbsQ
set_option linter.unusedSimpArgs false
set_option linter.unusedVariables false
namespace Go.Abs
open Go
variable {P : Program} {E : Env} {w0 : Start} {w : World} {conc : Conc} {st : ASt} {a : Act}

theorem Rep.re' {t : Ty} {d : t.den} {vs : List Value} {w : World} {ok ok' : Nat → Prop} (h : Rep P t w ok vs d) (hs : Sub w ok ok') : Rep P t w ok' vs d :=
  h.mono t ⟨Nat.le_refl _, fun _ _ _ => rfl⟩ hs

structure NewO where
  k : Nat
  ver : Nat
  c : Value
  o : AObj

def objsOf (Z : List NewO) : W := Z.map fun z => (z.k, (z.ver, z.o))
def concsOf (Z : List NewO) : List (Nat × (Nat × Value)) := Z.map fun z => (z.k, (z.ver, z.c))

theorem map_get_mem' {α : Type} {m : List (Nat × α)} {k : Nat} {v : α} (h : Map.get m k = some v) : (k, v) ∈ m := by
  induction m with
  | nil => cases h
  | cons p r ih =>
    obtain ⟨q, u⟩ := p
    simp only [Map.get, nbeq] at h
    by_cases hq : q = k
    · subst hq
      simp at h
      subst h
      exact List.mem_cons_self
    · simp [hq] at h
      exact List.mem_cons_of_mem _ (ih h)

theorem map_get_nodup {α : Type} {m : List (Nat × α)} (hn : (m.map (·.1)).Nodup) {k : Nat} {v : α} (h : (k, v) ∈ m) : Map.get m k = some v := by
  induction m with
  | nil => cases h
  | cons p r ih =>
    obtain ⟨q, u⟩ := p
    simp only [List.map_cons, List.nodup_cons] at hn
    simp only [Map.get, nbeq]
    rcases List.mem_cons.1 h with e | h
    · cases e; simp
    · have : q ≠ k := fun e => hn.1 (by rw [e]; exact List.mem_map.2 ⟨_, h, rfl⟩)
      simp [this, ih hn.2 h]

theorem get_setObjs_nodup {l : W} (hn : (ids l).Nodup) {h0 : List (Nat × (Nat × AObj))} {id : Nat} {o : Nat × AObj} (h : (id, o) ∈ l) : Map.get (setObjs h0 l) id = some o := by
  rcases get_setObjs h0 l id with ⟨_, h2⟩ | ⟨o', h1, h2⟩
  · exact absurd (List.mem_map.2 ⟨_, h, rfl⟩) h2
  · have e1 := map_get_nodup hn h
    have e2 := map_get_nodup hn h2
    rw [e1] at e2
    cases e2
    exact h1

theorem Mod.news (h : Mod P w0 conc st a w) {w' : World} (hk : Keeps w w') {Z : List NewO} (hn : (Z.map (·.k)).Nodup)
    (hver : ∀ z ∈ Z, ∀ cv c0 ow, conc z.k = some (cv, c0, ow) → cv < z.ver)
    (hnew : ∀ z ∈ Z, ∀ b, blockOf z.c = some b → w.heap.size ≤ b ∧ b < w'.heap.size)
    (hinj : ∀ z ∈ Z, ∀ z' ∈ Z, ∀ b, blockOf z.c = some b → blockOf z'.c = some b → z = z')
    (hO : ∀ conc', CLe conc conc' → Sub w (okOf conc) (okOf conc') → (∀ z ∈ Z, conc' z.k = some (z.ver, z.c, true)) → (∀ b, w.heap.size ≤ b → (∀ z ∈ Z, blockOf z.c ≠ some b) → okOf conc' b) → ∀ z ∈ Z, ORel P w' conc' (okOf conc') z.c true z.o) :
    ∃ conc', Mod P w0 conc' { st with heap := setObjs st.heap (objsOf Z) } a w' ∧ CLe conc conc' ∧ Sub w (okOf conc) (okOf conc') ∧ (∀ z ∈ Z, conc' z.k = some (z.ver, z.c, true)) ∧
      (∀ b, w.heap.size ≤ b → (∀ z ∈ Z, blockOf z.c ≠ some b) → okOf conc' b) := by
  let conc' : Conc := ⟨fun j => match Map.get (concsOf Z) j with
    | some (ver, c) => some (ver, c, true)
    | none => conc j, conc.B, conc.yl⟩
  have hn1 : ((concsOf Z).map (·.1)).Nodup := by simpa [concsOf, List.map_map, Function.comp_def] using hn
  have hn2 : (ids (objsOf Z)).Nodup := by simpa [objsOf, ids, List.map_map, Function.comp_def] using hn
  have isZ : ∀ j ver c, Map.get (concsOf Z) j = some (ver, c) → ∃ z ∈ Z, z.k = j ∧ z.ver = ver ∧ z.c = c := by
    intro j ver c hj
    obtain ⟨z, hz, he⟩ := List.mem_map.1 (map_get_mem' hj)
    simp only [Prod.mk.injEq] at he
    exact ⟨z, hz, he.1, he.2.1, he.2.2⟩
  have atZ : ∀ z ∈ Z, conc' z.k = some (z.ver, z.c, true) := by
    intro z hz
    have := map_get_nodup hn1 (k := z.k) (v := (z.ver, z.c)) (List.mem_map.2 ⟨z, hz, rfl⟩)
    simp only [conc', this]
  have noZ : ∀ j, Map.get (concsOf Z) j = none → conc' j = conc j := fun j hj => by simp only [conc', hj]
  have hle : CLe conc conc' := by
    refine ⟨rfl, ?_⟩
    intro j cv c0 ow hj
    cases hg : Map.get (concsOf Z) j with
    | none => exact ⟨cv, c0, ow, by rw [noZ j hg]; exact hj, .inr ⟨rfl, rfl⟩⟩
    | some p =>
      obtain ⟨z, hz, rfl, _, _⟩ := isZ j p.1 p.2 hg
      exact ⟨z.ver, z.c, true, atZ z hz, .inl (hver z hz cv c0 ow hj)⟩
  have split : ∀ j v c ow, conc' j = some (v, c, ow) → (∃ z ∈ Z, z.k = j ∧ z.ver = v ∧ z.c = c) ∨ conc j = some (v, c, ow) := by
    intro j v c ow hj
    cases hg : Map.get (concsOf Z) j with
    | none => rw [noZ j hg] at hj; exact .inr hj
    | some p =>
      obtain ⟨z, hz, rfl, e1, e2⟩ := isZ j p.1 p.2 hg
      rw [atZ z hz] at hj
      cases hj
      exact .inl ⟨z, hz, rfl, rfl, rfl⟩
  have hs : Sub w (okOf conc) (okOf conc') := by
    intro b hb hl
    refine ⟨hb.1, fun j v c hj hbl => ?_⟩
    rcases split j v c true hj with ⟨z, hz, _, _, rfl⟩ | hj
    · have := (hnew z hz b hbl).1
      omega
    · exact hb.2 j v c hj hbl
  have hz : ∀ b, w.heap.size ≤ b → (∀ z ∈ Z, blockOf z.c ≠ some b) → okOf conc' b := by
    intro b hb hnz
    refine ⟨by show conc.B b; rw [h.cB]; exact h.up b (Nat.le_trans h.keeps.size hb), fun j v c hj hbl => ?_⟩
    rcases split j v c true hj with ⟨z, hz, _, _, rfl⟩ | hj
    · exact hnz z hz hbl
    · have := (h.base j v c b hj hbl).2
      omega
  have hx : Ext (okOf conc) w w' := hk.ext _
  refine ⟨conc', { defers := h.defers, size := h.size, marks := h.marks, slots := ?_, heap := ?_, dead := ?_, inj := ?_, base := ?_, keeps := h.keeps.trans hk, cB := h.cB, cY := h.cY, okS := h.okS, fixed := h.fixed }, hle, hs, atZ, hz⟩
  · intro d sl hd
    obtain ⟨v, h1, h2⟩ := h.slots d sl hd
    exact ⟨v, h1, ⟨fun hl => ⟨(h2.yes hl).1, (h2.yes hl).2.mono hx hs hle⟩, h2.no⟩⟩
  · intro j vj oj hj
    dsimp only at hj
    rcases get_setObjs st.heap (objsOf Z) j with ⟨h1, h2⟩ | ⟨o', h1, h2⟩
    · rw [h1] at hj
      obtain ⟨c0, ow, g1, g2⟩ := h.heap j vj oj hj
      have hg : Map.get (concsOf Z) j = none := by
        cases hg : Map.get (concsOf Z) j with
        | none => rfl
        | some p =>
          obtain ⟨z, hz', rfl, _, _⟩ := isZ j p.1 p.2 hg
          exact absurd (List.mem_map.2 ⟨(z.k, (z.ver, z.o)), List.mem_map.2 ⟨z, hz', rfl⟩, rfl⟩) h2
      refine ⟨c0, ow, by rw [noZ j hg]; exact g1, g2.mono hx hs hle fun eo b hb => ?_⟩
      subst eo
      exact hk.block b (h.base j vj c0 b g1 hb).2
    · rw [h1] at hj
      cases hj
      obtain ⟨z, hz', he⟩ := List.mem_map.1 h2
      simp only [Prod.mk.injEq] at he
      obtain ⟨rfl, rfl, rfl⟩ := he
      exact ⟨z.c, true, atZ z hz', hO conc' hle hs atZ hz z hz'⟩
  · intro j hj
    dsimp only at hj
    rcases get_setObjs st.heap (objsOf Z) j with ⟨h1, h2⟩ | ⟨o', h1, h2⟩
    · rw [h1] at hj
      cases hg : Map.get (concsOf Z) j with
      | none => rw [noZ j hg]; exact h.dead j hj
      | some p =>
        obtain ⟨z, hz', rfl, _, _⟩ := isZ j p.1 p.2 hg
        exact absurd (List.mem_map.2 ⟨(z.k, (z.ver, z.o)), List.mem_map.2 ⟨z, hz', rfl⟩, rfl⟩) h2
    · rw [h1] at hj; cases hj
  · intro i j vi vj ci cj b hi hj hbi hbj
    rcases split i vi ci true hi with ⟨z, hz', rfl, _, rfl⟩ | hi'
    · rcases split j vj cj true hj with ⟨z2, hz2, rfl, _, rfl⟩ | hj'
      · rw [hinj z hz' z2 hz2 b hbi hbj]
      · have := (h.base j vj cj b hj' hbj).2
        have := (hnew z hz' b hbi).1
        omega
    · rcases split j vj cj true hj with ⟨z2, hz2, rfl, _, rfl⟩ | hj'
      · have := (h.base i vi ci b hi' hbi).2
        have := (hnew z2 hz2 b hbj).1
        omega
      · exact h.inj i j vi vj ci cj b hi' hj' hbi hbj
  · intro i vi ci b hi hb
    rcases split i vi ci true hi with ⟨z, hz', rfl, _, rfl⟩ | hi'
    · exact ⟨.inl (Nat.le_trans h.keeps.size (hnew z hz' b hb).1), (hnew z hz' b hb).2⟩
    · exact ⟨(h.base i vi ci b hi' hb).1, Nat.lt_of_lt_of_le (h.base i vi ci b hi' hb).2 hk.size⟩

/-- What the cells of new data are, and their objects. -/
structure NewL (P : Program) (st : ASt) (n : Nat) (w' : World) (okN : Nat → Prop) (id sz : Nat) (cells : List AVal) (vs : List Value) (bs : List Nat) (Z : List NewO) : Prop where
  range : ∀ z ∈ Z, id ≤ z.k ∧ z.k < id + sz
  nodup : (Z.map (·.k)).Nodup
  ver : ∀ z ∈ Z, (Map.get st.heap z.k = none ∧ z.ver = 0) ∨ ∃ cv o, Map.get st.heap z.k = some (cv, o) ∧ z.ver = cv + 1
  block : ∀ z ∈ Z, ∀ b, blockOf z.c = some b → b ∈ bs ∧ n ≤ b ∧ b < w'.heap.size
  inj : bs.Nodup → ∀ z ∈ Z, ∀ z' ∈ Z, ∀ b, blockOf z.c = some b → blockOf z'.c = some b → z = z'
  cells : ∀ conc', (∀ z ∈ Z, conc' z.k = some (z.ver, z.c, true)) → Sub w' okN (okOf conc') → All2 (VRel P w' conc' (okOf conc')) cells vs
  objs : ∀ conc', Sub w' okN (okOf conc') → ∀ z ∈ Z, ORel P w' conc' (okOf conc') z.c true z.o

theorem newL_one {t : Ty} {n : Nat} {w' : World} {okN : Nat → Prop} {id : Nat} {vs : List Value} {d : t.den} {bs : List Nat} (ht : t.isPair = false) (hs : t.sz = 1) (h : bs = [] ∧ Rep P t w' okN vs d) :
    NewL P st n w' okN id t.sz [.pure t d] vs bs [] where
  range := fun z hz => nomatch hz
  nodup := List.nodup_nil
  ver := fun z hz => nomatch hz
  block := fun z hz => nomatch hz
  inj := fun _ z hz => nomatch hz
  cells := fun conc' _ hsub => explode_one ht hs (h.2.re' hsub)
  objs := fun _ _ z hz => nomatch hz

theorem freshL_spec {n : Nat} {w' : World} {okN : Nat → Prop} : (t : Ty) → {id : Nat} → {d : t.den} → {p : List AVal × W} → {vs : List Value} → {bs : List Nat} → (freshL id t d).run st = some p → FreshT P n w' okN t vs d bs → vs.length = t.sz →
    ∃ Z, p.2 = objsOf Z ∧ NewL P st n w' okN id t.sz p.1 vs bs Z
  | .slice e, id, l, p, vs, bs, hr, hf, hlen => by
    have key : ∀ ver, ((Map.get st.heap id = none ∧ ver = 0) ∨ ∃ cv o, Map.get st.heap id = some (cv, o) ∧ ver = cv + 1) → p = ([.hand id ver], [(id, (ver, .buf e l))]) → ∃ Z, p.2 = objsOf Z ∧ NewL P st n w' okN id 1 p.1 vs bs Z := by
      intro ver hver hp
      subst hp
      obtain ⟨c, hc, hone, hO, hbl⟩ : ∃ c, vs = [c] ∧ one c = true ∧ (∀ conc', Sub w' okN (okOf conc') → ORel P w' conc' (okOf conc') c true (.buf e l)) ∧ ∀ b, blockOf c = some b → b ∈ bs ∧ n ≤ b ∧ b < w'.heap.size := by
        rcases hf with ⟨h1, h2, h3⟩ | ⟨b, off, cap, cs, T, h1, h2, h3, h4, h5, h6, h7, h8⟩
        · exact ⟨_, h1, rfl, fun conc' _ => ⟨rfl, .inl ⟨rfl, h2⟩⟩, fun b hb => nomatch hb⟩
        · refine ⟨_, h1, rfl, fun conc' hsub => ⟨rfl, .inr ⟨b, off, cap, cs, T, rfl, h4, h5, h6, h7, fun i x hi => (h8 i x hi).re' hsub⟩⟩, fun b' hb' => ?_⟩
          cases hb'
          exact ⟨by rw [h2]; simp, h3, (Array.getElem?_eq_some_iff.1 h4).1⟩
      subst hc
      refine ⟨[⟨id, ver, c, .buf e l⟩], rfl, ?_⟩
      refine { range := ?_, nodup := by simp, ver := ?_, block := ?_, inj := ?_, cells := ?_, objs := ?_ }
      · intro z hz; rw [List.mem_singleton] at hz; subst hz; exact ⟨Nat.le_refl _, Nat.lt_succ_self _⟩
      · intro z hz; rw [List.mem_singleton] at hz; subst hz; exact hver
      · intro z hz; rw [List.mem_singleton] at hz; subst hz; exact hbl
      · intro _ z hz z' hz' b _ _; rw [List.mem_singleton] at hz hz'; rw [hz, hz']
      · intro conc' hc hsub
        exact ⟨⟨ver, c, true, hc _ (List.mem_singleton.2 rfl), Nat.le_refl _, hone, fun _ => rfl⟩, trivial⟩
      · intro conc' hsub z hz; rw [List.mem_singleton] at hz; subst hz; exact hO conc' hsub
    simp only [freshL, RM.run] at hr
    cases hg : Map.get st.heap id with
    | none => rw [hg] at hr; cases hr; exact key 0 (.inl ⟨hg, rfl⟩) rfl
    | some q =>
      obtain ⟨cv, o⟩ := q
      rw [hg] at hr; cases hr
      exact key (cv + 1) (.inr ⟨cv, o, hg, rfl⟩) rfl
  | .pair a b, id, (x, y), p, vs, bs, hr, hf, hlen => by
    simp only [freshL] at hr
    obtain ⟨p1, g1, hr⟩ := RM.bind_some hr
    obtain ⟨p2, g2, hr⟩ := RM.bind_some hr
    cases hr
    obtain ⟨b1, b2, rfl, f1, f2⟩ := hf
    simp only [Ty.sz] at hlen
    obtain ⟨Z1, e1, N1⟩ := freshL_spec a g1 f1 (by simp; omega)
    obtain ⟨Z2, e2, N2⟩ := freshL_spec b g2 f2 (by simp; omega)
    refine ⟨Z1 ++ Z2, by simp [objsOf, e1, e2], { range := ?_, nodup := ?_, ver := ?_, block := ?_, inj := ?_, cells := ?_, objs := ?_ }⟩
    · intro z hz
      simp only [Ty.sz]
      rcases List.mem_append.1 hz with hz | hz
      · have := N1.range z hz; omega
      · have := N2.range z hz; omega
    · rw [List.map_append, List.nodup_append]
      refine ⟨N1.nodup, N2.nodup, fun i hi j hj e => ?_⟩
      obtain ⟨z, hz, rfl⟩ := List.mem_map.1 hi
      obtain ⟨z', hz', rfl⟩ := List.mem_map.1 hj
      have := N1.range z hz
      have := N2.range z' hz'
      omega
    · intro z hz
      rcases List.mem_append.1 hz with hz | hz
      · exact N1.ver z hz
      · exact N2.ver z hz
    · intro z hz bb hbb
      rcases List.mem_append.1 hz with hz | hz
      · have := N1.block z hz bb hbb; exact ⟨List.mem_append_left _ this.1, this.2⟩
      · have := N2.block z hz bb hbb; exact ⟨List.mem_append_right _ this.1, this.2⟩
    · intro hnd z hz z' hz' bb hb hb'
      rw [List.nodup_append] at hnd
      rcases List.mem_append.1 hz with hz | hz <;> rcases List.mem_append.1 hz' with hz' | hz'
      · exact N1.inj hnd.1 z hz z' hz' bb hb hb'
      · exact absurd rfl (hnd.2.2 bb (N1.block z hz bb hb).1 bb (N2.block z' hz' bb hb').1)
      · exact absurd rfl (hnd.2.2 bb (N1.block z' hz' bb hb').1 bb (N2.block z hz bb hb).1)
      · exact N2.inj hnd.2.1 z hz z' hz' bb hb hb'
    · intro conc' hc hsub
      rw [← List.take_append_drop a.sz vs]
      exact (N1.cells conc' (fun z hz => hc z (List.mem_append_left _ hz)) hsub).append (N2.cells conc' (fun z hz => hc z (List.mem_append_right _ hz)) hsub)
    · intro conc' hsub z hz
      rcases List.mem_append.1 hz with hz | hz
      · exact N1.objs conc' hsub z hz
      · exact N2.objs conc' hsub z hz
  | .unit, id, d, p, vs, bs, hr, hf, hlen => by
    cases hr
    have : vs = [] := hf.2
    subst this
    exact ⟨[], rfl, { range := (fun z hz => nomatch hz), nodup := List.nodup_nil, ver := (fun z hz => nomatch hz), block := (fun z hz => nomatch hz), inj := (fun _ z hz => nomatch hz), cells := fun _ _ _ => trivial, objs := (fun _ _ z hz => nomatch hz) }⟩
  | .int k, id, d, p, vs, bs, hr, hf, hlen => by cases hr; exact ⟨[], rfl, newL_one rfl rfl hf⟩
  | .bool, id, d, p, vs, bs, hr, hf, hlen => by cases hr; exact ⟨[], rfl, newL_one rfl rfl hf⟩
  | .str, id, d, p, vs, bs, hr, hf, hlen => by cases hr; exact ⟨[], rfl, newL_one rfl rfl hf⟩
  | .fn1 _ _, id, d, p, vs, bs, hr, hf, hlen => by cases hr; exact ⟨[], rfl, newL_one rfl rfl hf⟩
  | .fn2 _ _ _, id, d, p, vs, bs, hr, hf, hlen => by cases hr; exact ⟨[], rfl, newL_one rfl rfl hf⟩
  | .seq _, id, d, p, vs, bs, hr, hf, hlen => by cases hr; exact ⟨[], rfl, newL_one rfl rfl hf⟩
  | .seq2 _ _, id, d, p, vs, bs, hr, hf, hlen => by cases hr; exact ⟨[], rfl, newL_one rfl rfl hf⟩
  | .map _ _, id, d, p, vs, bs, hr, hf, hlen => by cases hr; exact ⟨[], rfl, newL_one rfl rfl hf⟩

/-- New data in slot d, behind objects that are written no more. -/
theorem news_done (h : Mod P w0 conc st a w) {W0 : W} (hW : FrzW P conc st w (ids W0) W0) {d id : Nat} {x y : Ty} {r : (Ty.pair x y).den} {p : List AVal × W} {st' : ASt} {v : Value} {w' : World}
    (hr : (freshL id (.pair x y) r).run st = some p) (hap : applyU st none ⟨some (d, ⟨[], true, .comp p.1⟩), W0 ++ p.2⟩ = some st') (hk : Keeps w w')
    (hf : FreshP P w.heap.size w' (newOk (okOf (frzL conc (ids W0))) w) (.pair x y) v r) : Models P w0 st' (a.put (some d) v) w' := by
  obtain ⟨conc1, rfl, h1, h2, h3⟩ := frz_done h hW
  obtain ⟨vs, bs, e1, e2, e3, e4, e5⟩ := hf
  obtain ⟨Z, hZ, N⟩ := freshL_spec (st := st) _ hr e5 e4
  have hkeep := fun k => ver_kept hW k
  have hsubN : ∀ conc', Sub w (okOf (frzL conc (ids W0))) (okOf conc') → (∀ b, w.heap.size ≤ b → (∀ z ∈ Z, blockOf z.c ≠ some b) → okOf conc' b) → Sub w' (fun b => newOk (okOf (frzL conc (ids W0))) w b ∧ b ∉ bs) (okOf conc') := by
    intro conc' g1 g2 b hb _
    by_cases hlt : b < w.heap.size
    · rcases hb.1 with hb1 | hb1
      · exact g1 b hb1 hlt
      · omega
    · exact g2 b (by omega) fun z hz hbl => hb.2 (N.block z hz b hbl).1
  have hver : ∀ z ∈ Z, ∀ cv c0 ow, frzL conc (ids W0) z.k = some (cv, c0, ow) → cv < z.ver := by
    intro z hz cv c0 ow hc
    have hv := hkeep z.k
    rcases N.ver z hz with ⟨q1, q2⟩ | ⟨cv1, o1, q1, q2⟩
    · rw [q1] at hv
      have : frzL conc (ids W0) z.k = none := h1.dead z.k (by
        cases hq : Map.get (setObjs st.heap W0) z.k with
        | none => rfl
        | some q => rw [hq] at hv; cases hv)
      rw [this] at hc; cases hc
    · rw [q1] at hv
      cases hq : Map.get (setObjs st.heap W0) z.k with
      | none => rw [hq] at hv; cases hv
      | some q =>
        obtain ⟨cv2, o2⟩ := q
        rw [hq] at hv
        simp at hv
        obtain ⟨c', ow', g1, _⟩ := h1.heap z.k cv2 o2 hq
        rw [g1] at hc
        cases hc
        omega
  obtain ⟨conc2, k1, k2, k3, k4, k5⟩ := h1.news hk (Z := Z) N.nodup hver (fun z hz b hb => (N.block z hz b hb).2) (N.inj e3) (fun conc' g1 g2 g3 g4 => N.objs conc' (hsubN conc' g2 g4))
  have hs := slot_done (st := st) (W0 := W0 ++ p.2) (d := some d) (s := .comp p.1) (st' := st') (v := v) (conc1 := conc2) (w1 := w') (a := a) (w0 := w0) (P := P)
  refine hs ?_ hap ⟨vs, by rw [e1]; simp [Ty.val, Ty.isPair], e2, N.cells conc2 k4 (hsubN conc2 k3 k5)⟩
  rw [setObjs_append, hZ]
  exact k1

end Go.Abs
