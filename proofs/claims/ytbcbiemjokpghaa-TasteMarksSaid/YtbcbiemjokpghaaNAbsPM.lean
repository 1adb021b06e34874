/- Operations that change maps, and slices of a slice of the call's own. -/
import Derived.Test.YtbcbiemjokpghaaNAbsP
set_option linter.unusedSimpArgs false
set_option linter.unusedVariables false
namespace Go.Abs
open Go
variable {P : Program} {E : Env} {w0 : Start} {w : World} {conc : Conc} {st : ASt} {a : Act}

/-- An object whose block alone is written, whatever it is. -/
theorem put_done (h : Mod P w0 conc st a w) {W0 : W} (hW : FrzW P conc st w (ids W0) W0) {id cv : Nat} {c : Value} {o' : AObj} {b : Nat} {ob : Obj} {w' : World} {st' : ASt}
    (hc : frzL conc (ids W0) id = some (cv, c, true)) (hb : blockOf c = some b) (hap : applyU st none ⟨none, W0 ++ [(id, (cv, o'))]⟩ = some st') (hw' : w' = { w with heap := w.heap.setIfInBounds b ob })
    (hO : ∀ conc', CLe (frzL conc (ids W0)) conc' → Ext (okOf (frzL conc (ids W0))) w w' → Sub w (okOf (frzL conc (ids W0))) (okOf conc') → ORel P w' conc' (okOf conc') c true o') :
    Models P w0 st' a w' := by
  obtain ⟨conc1, rfl, h1, h2, h3⟩ := frz_done h hW
  obtain ⟨conc2, k1, _⟩ := h1.obj (id := id) (ver := cv) (c := c) (o := o') (w' := w') (fun cv' c0 ow hc' => by rw [hc] at hc'; cases hc'; exact .inr ⟨rfl, rfl⟩) (by rw [hw']) (by rw [hw']) (by rw [hw']) (by rw [hw']; simp)
    (fun b' hb' hne => by
      rw [hw']
      show (w.heap.setIfInBounds b ob)[b']? = _
      rw [Array.getElem?_setIfInBounds_ne fun e => hne cv c hc (by rw [hb, e])]) (fun b' hb' => ⟨.inr ⟨cv, c, hc, hb'⟩, by
      have := (h1.base id cv c b' hc hb').2
      rw [hw']
      simpa using this⟩)
    (fun conc' g1 _ g2 g3 _ => hO conc' g1 g2 g3)
  refine ⟨conc2, ?_⟩
  unfold applyU at hap
  cases hap
  show Mod P w0 conc2 { N := st.N, marks := st.marks, slots := st.slots, heap := setObjs st.heap (W0 ++ [(id, (cv, o'))]), fixed := st.fixed } a w'
  rw [setObjs_append]
  exact k1

theorem makeMap_ok (h : Mod P w0 conc st a w) {o : Oper} {T d : Nat} {k u : Ty} (hop : o.op = .makeMap T none) (hd : o.dst = some d) {up : Upd} {st' : ASt}
    (hr : (newObj d (.map k u []) (.hand d) []).run st = some up) (hap : applyU st none up = some st') : OpOK P w0 o a w st' := by
  refine OpOK.value (v := .map (some w.heap.size)) (w' := w.alloc (.map #[] 0)) (by simp only [execOp, hop]; rfl) ?_
  rw [hd]
  refine new_done h (FrzW.none P conc st w) hr hap (Keeps.alloc w _) (fun b hb => ?_) (fun conc' g1 g2 g3 => ?_) (fun conc' ver hc => ?_)
  · cases hb; simp
  · refine ⟨rfl, w.heap.size, #[], 0, rfl, heap_new _, rfl, fun i x e hx _ => ?_⟩
    simp at hx
  · exact ⟨ver, _, true, hc, Nat.le_refl _, rfl, fun _ => rfl⟩

theorem keyThatStays_same (k : IntKind) (n : Int) : (Instr.keyThatStays (.int k n) (.int k n)).run P w = .ok (.int k n) w := by
  simp [Instr.keyThatStays, Instr.sameBits]

theorem ents_set {q : IntKind} {u : Ty} {ok : Nat → Prop} {l : List (Int × u.den)} {es : List MapEntry} (h : EntsRep P w ok (.int q) u l es) {i : Nat} {n : Int} {y : u.den} {us : List Value} (hy : Rep P u w ok us y) {e : MapEntry} (he1 : e.key = .int q n) (he2 : e.val = u.val us) :
    EntsRep P w ok (.int q) u (l.set i (n, y)) (es.set i e) := by
  refine ⟨by simpa using h.1, fun j x f hx hf => ?_⟩
  by_cases hij : i = j
  · subst hij
    rw [List.getElem?_set] at hx hf
    split at hx
    · split at hx
      · cases hx
        split at hf
        · split at hf
          · cases hf
            exact ⟨⟨[.int q n], he1, rfl⟩, us, he2, hy⟩
          · cases hf
        · rename_i hne; exact absurd rfl hne
      · cases hx
    · rename_i hne; exact absurd rfl hne
  · rw [List.getElem?_set_ne hij] at hx hf
    exact h.2 j x f hx hf

theorem ents_push {q : IntKind} {u : Ty} {ok : Nat → Prop} {l : List (Int × u.den)} {es : List MapEntry} (h : EntsRep P w ok (.int q) u l es) {n : Int} {y : u.den} {us : List Value} (hy : Rep P u w ok us y) {e : MapEntry} (he1 : e.key = .int q n) (he2 : e.val = u.val us) :
    EntsRep P w ok (.int q) u (l ++ [(n, y)]) (es ++ [e]) := by
  refine ⟨by simp [h.1], fun j x f hx hf => ?_⟩
  by_cases hlt : j < l.length
  · rw [List.getElem?_append_left hlt] at hx
    rw [List.getElem?_append_left (by rw [h.1]; exact hlt)] at hf
    exact h.2 j x f hx hf
  · rw [List.getElem?_append_right (by omega)] at hx
    rw [List.getElem?_append_right (by rw [h.1]; omega), h.1] at hf
    cases hj : j - l.length with
    | zero =>
      rw [hj] at hx hf
      cases hx
      cases hf
      exact ⟨⟨[.int q n], he1, rfl⟩, us, he2, hy⟩
    | succ m =>
      rw [hj] at hx
      cases hx

theorem EntsRep.mono {w' : World} {ok ok' : Nat → Prop} {k u : Ty} {l : List (k.den × u.den)} {es : List MapEntry} (h : EntsRep P w ok k u l es) (hx : Ext ok w w') (hs : Sub w ok ok') : EntsRep P w' ok' k u l es :=
  ⟨h.1, fun i x e hi he => by
    obtain ⟨⟨ks, g1, g2⟩, us, g3, g4⟩ := h.2 i x e hi he
    exact ⟨⟨ks, g1, g2.mono k hx hs⟩, us, g3, g4.mono u hx hs⟩⟩

theorem mapPut_ok (hE : EnvOK P E) (h : Mod P w0 conc st a w) {o : Oper} {T : Nat} {m k x : Operand} (hop : execOp a.eval o = (do Instr.mapUpdate T (a.eval m) (a.eval k) (a.eval x); pure .skip)) (hd : o.dst = none) {up : Upd} {st' : ASt}
    (hr : (mapPut E T m k x).run st = some up) (hap : applyU st none up = some st') : OpOK P w0 o a w st' := by
  unfold mapPut at hr
  split at hr
  · rename_i q u hT
    obtain ⟨b, g1, hr⟩ := RM.bind_some hr
    cases b <;> simp only at hr <;> try (cases hr; done)
    rename_i id ver
    obtain ⟨n, g2, hr⟩ := RM.bind_some hr
    obtain ⟨s, g3, hr⟩ := RM.bind_some hr
    obtain ⟨d, g4, hr⟩ := RM.bind_some hr
    simp only [RM.run] at hr
    split at hr
    · rename_i cv q' u' l ho
      obtain ⟨g5, hr1⟩ := cond_some hr
      clear hr
      simp only [Bool.and_eq_true] at g5
      have := nbeq_true g5.1
      subst this
      split at hr1
      · rename_i hh
        obtain ⟨hh1, hh2⟩ := hh
        subst hh1
        subst hh2
        cases hr1
        have hn : id ∉ ids d.2 := by
          intro hm
          obtain ⟨p, hp, he⟩ := List.mem_map.1 hm
          have := List.all_eq_true.1 g5.2 p hp
          simp [nbeq, he] at this
        obtain ⟨K, V, h1, h2, _⟩ := map_desc hE hT
        obtain ⟨c, ow, k1, k2⟩ := obj_rel h ho
        obtain ⟨cv', c', ow', m1, _, _, m3⟩ := rdA_rel h (labs_nil _) g1
        rw [k1] at m1; cases m1
        have hmv := m3 rfl
        obtain ⟨rfl, bl, es, clock, e1, e2, e3, e4⟩ := k2
        have hents : EntsRep P w (okOf conc) (.int q') u' l es.toList := ⟨by simpa using e3, fun i x e hx he => e4 i x e hx (by simpa using he)⟩
        obtain ⟨us, q1, q2⟩ := peek_spec hE h g4 (rd_rel h (labs_nil _) g3)
        have hp := q2 (ids d.2) fun _ h => h
        have hfz : frzL conc (ids d.2) id = some (cv, c, true) := by simp [frzL, k1, hn]
        have hk : a.eval k = .int q' n := rdK_sound h (labs_nil _) g2
        have hents' := hents.mono (w' := w) (ok' := okOf (frzL conc (ids d.2))) ⟨Nat.le_refl _, fun _ _ _ => rfl⟩ (frzL_sub w conc (ids d.2))
        have run : ∀ ob, (Instr.mapUpdate T (.map (some bl)) (.int q' n) (a.eval x)).run P w = .ok () { w with heap := w.heap.setIfInBounds bl ob } →
            (∀ conc' w', CLe (frzL conc (ids d.2)) conc' → Ext (okOf (frzL conc (ids d.2))) w w' → Sub w (okOf (frzL conc (ids d.2))) (okOf conc') → w' = { w with heap := w.heap.setIfInBounds bl ob } → ORel P w' conc' (okOf conc') c true (.map (.int q') u' (mput l n d.1))) → OpOK P w0 o a w st' := by
          intro ob hrun hO
          refine OpOK.skip (w' := { w with heap := w.heap.setIfInBounds bl ob }) ?_ ?_
          · rw [hop, hmv, e1, hk, Sem.run_bind, hrun]; rfl
          · rw [hd]
            exact put_done (W0 := d.2) h hp.1 hfz (by rw [e1]; rfl) hap rfl (fun conc' r1 r2 r3 => hO conc' _ r1 r2 r3 rfl)
        have hlt : bl < w.heap.size := (Array.getElem?_eq_some_iff.1 e2).1
        have hset : ∀ ob, ({ w with heap := w.heap.setIfInBounds bl ob } : World).heap[bl]? = some ob := fun ob => by simp [hlt]
        have setO : ∀ (es' : Array MapEntry) (c' : Nat), (setObj bl (.map es' c')).run P w = .ok () { w with heap := w.heap.setIfInBounds bl (.map es' c') } := fun es' c' => by simp [setObj, Sem.run, e2]
        rcases find_spec n l es.toList 0 hents with ⟨f1, f2, f3⟩ | ⟨i, e, y, f1, f2, f3, f4, f5, f6⟩
        · refine run (.map (es.push { key := .int q' n, val := a.eval x, born := clock }) (clock + 1)) ?_ ?_
          · simp only [Instr.mapUpdate, Sem.run_bind, run_underlying h1, Result.andThen_ok, getObj_run e2, checkKey_int h2, findKey_now h2 f1, setO]
          · intro conc' w' r1 r2 r3 hw'
            subst hw'
            have := (ents_push hents' (n := n) hp.2 (e := { key := .int q' n, val := a.eval x, born := clock }) rfl q1).mono r2 r3
            rw [f3]
            refine ⟨rfl, bl, _, _, e1, hset _, by simpa using this.1, fun i y f hy hf => this.2 i y f hy (by rw [← Array.toList_push, Array.getElem?_toList]; exact hf)⟩
        · rw [Nat.zero_add] at f1
          have he : es[i]? = some e := by simpa using f2
          have hil : i < es.size := (Array.getElem?_eq_some_iff.1 he).1
          refine run (.map (es.modify i fun f => { f with key := .int q' n, val := a.eval x }) clock) ?_ ?_
          · simp only [Instr.mapUpdate, Sem.run_bind, run_underlying h1, Result.andThen_ok, getObj_run e2, checkKey_int h2, findKey_now h2 f1, he, Option.map_some, Option.getD_some, f4, keyThatStays_same, setO]
          · intro conc' w' r1 r2 r3 hw'
            subst hw'
            have := (ents_set hents' (i := i) (n := n) hp.2 (e := { e with key := .int q' n, val := a.eval x }) rfl q1).mono r2 r3
            rw [f6]
            have hm : (es.modify i fun f => { f with key := .int q' n, val := a.eval x }).toList = es.toList.set i { e with key := .int q' n, val := a.eval x } := by
              apply List.ext_getElem?
              intro j
              rw [List.getElem?_set, Array.getElem?_toList, Array.getElem?_modify]
              by_cases hij : i = j
              · subst hij
                rw [if_pos rfl, if_pos rfl, he, if_pos (by simpa using hil)]
                rfl
              · simp [hij]
            refine ⟨rfl, bl, _, _, e1, hset _, by simpa using e3, fun j y f hy hf => this.2 j y f hy (by rw [← hm, Array.getElem?_toList]; exact hf)⟩
      · cases hr1
    · cases hr
  · cases hr

theorem sliceHand_ok (hE : EnvOK P E) (h : Mod P w0 conc st a w) {o : Oper} {T d id cv : Nat} {e : Ty} {x : Operand} {lo hi : Option Operand} {l z : List e.den} {p q : Int}
    (hop : o.op = .slice T x lo hi none) (hd : o.dst = some d) (hT : E.ty T = some (.slice e)) (hs : (rdA [] x).run st = some (.hand id cv)) (ho : Map.get st.heap id = some (cv, .buf e l))
    (hp : (rdBound [] 0 lo).run st = some p) (hq : (rdBound [] (List.length l : Nat) hi).run st = some q) (hz : cut l p q = some z) {st' : ASt}
    (hap : applyU st none ⟨some (d, ⟨[], true, .v (.hand id (cv + 1))⟩), [(id, (cv + 1, .buf e z))]⟩ = some st') : OpOK P w0 o a w st' := by
  obtain ⟨k1, k2, k3, rfl⟩ := cut_some hz
  obtain ⟨T', hu, i, hi1, hi2⟩ := slice_desc hE hT
  obtain ⟨c, ow, g1, g2⟩ := obj_rel h ho
  obtain ⟨cv', c', ow', m1, _, _, m3⟩ := rdA_rel h (labs_nil _) hs
  rw [g1] at m1; cases m1
  have hsv := m3 rfl
  subst hsv
  obtain ⟨rfl, g2⟩ := g2
  have hlen : ((l.take q.toNat).drop p.toNat).length = q.toNat - p.toNat := by
    rw [List.length_drop, List.length_take]; omega
  have fin : ∀ (ad : Option Addr) (cap : Nat), a.eval x = .slice ad l.length cap → l.length ≤ cap →
      (∀ conc', Ext (okOf conc) w w → Sub w (okOf conc) (okOf conc') → ORel P w conc' (okOf conc') (.slice (if cap = p.toNat then ad else ad.map (·.add (p.toNat * e.sz))) (q.toNat - p.toNat) (cap - p.toNat)) true (.buf e ((l.take q.toNat).drop p.toNat))) →
      (∀ b, blockOf (.slice (if cap = p.toNat then ad else ad.map (·.add (p.toNat * e.sz))) (q.toNat - p.toNat) (cap - p.toNat)) = some b → blockOf (a.eval x) = some b) → OpOK P w0 o a w st' := by
    intro ad cap hv hc hO hbl
    have hb := sliceBounds_run (P := P) (w := w) h (labs_nil _) (b := true) hc hp hq k1 k2 k3
    refine OpOK.value (v := .slice (if cap = p.toNat then ad else ad.map (·.add (p.toNat * e.sz))) (q.toNat - p.toNat) (cap - p.toNat)) (w' := w) ?_ ?_
    · simp only [execOp, hop, Option.map_none]
      rw [Sem.run_bind, sliceAt_eq hE hT (.inl ⟨e, rfl⟩), hv]
      simp only [Instr.slice, Sem.run_bind, run_underlying hu, Result.andThen_ok, hb, sizeOf, typeInfo, Sem.run_pure]
      simp [hi1, hi2]
    · rw [hd]
      refine append_done h (c := a.eval x) g1 hap rfl rfl rfl (Nat.le_refl _) (fun _ _ _ => rfl) (fun b hb => ⟨.inr (hbl b hb), (h.base id cv _ b g1 (hbl b hb)).2⟩) rfl hO
  rcases g2 with ⟨f1, f2⟩ | ⟨bl, off, cap, cs, U, f1, f2, f3, f4, f5, f6⟩
  · subst f2
    have hp0 : p.toNat = 0 := by simp at k3; omega
    have hq0 : q.toNat = 0 := by simp at k3; omega
    refine fin none 0 f1 (Nat.le_refl _) (fun conc' _ _ => ⟨rfl, .inl ⟨?_, by simp⟩⟩) (fun b hb => ?_)
    · simp [hp0, hq0]
    · simp [blockOf] at hb
  · refine fin _ cap f1 f3 (fun conc' q1 q2 => ⟨rfl, .inr ⟨bl, if cap = p.toNat then off else off + p.toNat * e.sz, cap - p.toNat, cs, U, ?_, f2, by rw [hlen]; omega, by omega, ?_, fun j y hy => ?_⟩⟩) (fun b hb => ?_)
    · rw [hlen]
      split <;> simp [addr_add]
    · split
      · rename_i hc
        rw [hc, Nat.sub_self, Nat.zero_mul]
        omega
      · have : p.toNat * e.sz + (cap - p.toNat) * e.sz = cap * e.sz := by
          rw [← Nat.add_mul]; congr 1; omega
        omega
    · have hjl : j < ((l.take q.toNat).drop p.toNat).length := (List.getElem?_eq_some_iff.1 hy).1
      rw [hlen] at hjl
      rw [if_neg (by omega)]
      rw [List.getElem?_drop, List.getElem?_take] at hy
      split at hy
      · have := f6 _ y hy
        rw [Nat.add_mul, ← Nat.add_assoc] at this
        exact this.mono e q1 q2
      · cases hy
    · rw [f1]
      split at hb <;> simpa [blockOf, addr_add] using hb

end Go.Abs
