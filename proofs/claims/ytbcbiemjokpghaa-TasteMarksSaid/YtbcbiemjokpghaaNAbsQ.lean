/- Calls and closures. -/
import Derived.Test.YtbcbiemjokpghaaNAbsPM
set_option linter.unusedSimpArgs false
set_option linter.unusedVariables false
namespace Go.Abs
open Go
variable {P : Program} {E : Env} {w0 : Start} {w : World} {conc : Conc} {st : ASt} {a : Act}

theorem callFunc_run {f : Nat} (hb : Bodied P f) (args : Array Value) : (callFunc f args).run P w = .ok (.enter f args) w := by
  obtain ⟨fn, h1, h2, h3⟩ := hb
  have hp : ∀ k : Program → Sem Next, (program >>= k).run P w = (k P).run P w := fun k => rfl
  unfold callFunc
  rw [hp]
  simp only [h1, h2, h3, Bool.false_eq_true, if_false]
  rfl

theorem exec_call {o : Oper} {f : Operand} {args : Array Operand} {tys : Array TypeId} (hop : o.op = .call { callee := .value f, args := args, argTypes := tys }) {fid : Nat} {first cap : Array Value}
    (hf : a.eval f = .func (.func fid) first cap) (hb : Bodied P fid) : (execOp a.eval o).run P w = .ok (.enter fid (first ++ args.map a.eval ++ cap)) w := by
  simp only [execOp, hop, resolve, hf, Deferred.ofValue, pure_bind, invoke]
  exact callFunc_run hb _

theorem ResRep.mono {w' : World} {ok ok' : Nat → Prop} (hx : Ext ok w w') (hs : Sub w ok ok') : (ts : List Ty) → {v : Value} → {r : denL ts} → ResRep P w ok ts v r → ResRep P w' ok' ts v r
  | [], v, r, h => h
  | [t], v, r, ⟨cs, h1, h2⟩ => ⟨cs, h1, h2.mono t hx hs⟩
  | t :: u :: ts, v, r, ⟨vs, h1, h2⟩ => ⟨vs, h1, argsMono hx hs (t :: u :: ts) h2⟩
where
  argsMono {w' : World} {ok ok' : Nat → Prop} (hx : Ext ok w w') (hs : Sub w ok ok') : (ts : List Ty) → {vs : List Value} → {x : denL ts} → ArgsRep P w ok ts vs x → ArgsRep P w' ok' ts vs x
    | [], vs, x, h => h
    | [t], vs, x, ⟨cs, h1, h2⟩ => ⟨cs, h1, h2.mono t hx hs⟩
    | t :: u :: ts, vs, x, ⟨cs, r, h1, h2, h3⟩ => ⟨cs, r, h1, h2.mono t hx hs, argsMono hx hs (u :: ts) h3⟩

theorem ResRep.flat {w' : World} {ok ok' : Nat → Prop} : (ts : List Ty) → ts.all Ty.flat = true → {v : Value} → {r : denL ts} → ResRep P w ok ts v r → ResRep P w' ok' ts v r
  | [], _, v, r, h => h
  | [t], hf, v, r, ⟨cs, h1, h2⟩ => ⟨cs, h1, h2.flat t (by simpa using hf)⟩
  | t :: u :: ts, hf, v, r, ⟨vs, h1, h2⟩ => ⟨vs, h1, argsFlat (t :: u :: ts) hf h2⟩
where
  argsFlat {w' : World} {ok ok' : Nat → Prop} : (ts : List Ty) → ts.all Ty.flat = true → {vs : List Value} → {x : denL ts} → ArgsRep P w ok ts vs x → ArgsRep P w' ok' ts vs x
    | [], _, vs, x, h => h
    | [t], hf, vs, x, ⟨cs, h1, h2⟩ => ⟨cs, h1, h2.flat t (by simpa using hf)⟩
    | t :: u :: ts, hf, vs, x, ⟨cs, r, h1, h2, h3⟩ => by
      simp only [List.all_cons, Bool.and_eq_true] at hf
      exact ⟨cs, r, h1, h2.flat t hf.1, argsFlat (u :: ts) (by simpa using hf.2) h3⟩

theorem tup_rel {ok : Nat → Prop} : (ts : List Ty) → {vs : List Value} → {x : denL ts} → ArgsRep P w ok ts vs x → All2 (VRel P w conc ok) (tupOf ts x) vs
  | [], vs, x, h => by cases h; trivial
  | [t], vs, x, ⟨cs, h1, h2⟩ => by subst h1; exact ⟨⟨cs, rfl, h2⟩, trivial⟩
  | t :: u :: ts, vs, x, ⟨cs, r, h1, h2, h3⟩ => by subst h1; exact ⟨⟨cs, rfl, h2⟩, tup_rel (u :: ts) h3⟩

theorem resS_rel {ok : Nat → Prop} : (ts : List Ty) → {v : Value} → {r : denL ts} → ResRep P w ok ts v r → SRel P w conc ok (resS ts r) v
  | [], v, r, h => ⟨[], h, trivial⟩
  | [t], v, r, ⟨cs, h1, h2⟩ => ⟨cs, h1, h2⟩
  | t :: u :: ts, v, r, ⟨vs, h1, h2⟩ => ⟨vs, h1, tup_rel (t :: u :: ts) h2⟩

/-- What a call comes to: the objects that are written no more, and the result. -/
structure CallOK (P : Program) (conc : Conc) (st : ASt) (a : Act) (w : World) (o : Oper) (q : (Bool × SVal) × W) : Prop where
  frz : FrzW P conc st w (ids q.2) q.2
  call : ∃ fid args, (execOp a.eval o).run P w = .ok (.enter fid args) w ∧ Calls P fid args w fun e w' => ∃ v, e = .returned v ∧ Keeps w w' ∧
    SRel P w' (frzL conc (ids q.2)) (okOf (frzL conc (ids q.2))) q.1.2 v ∧
    (q.1.1 = true → (∀ e l, q.1.2 = .v (.pure (.slice e) l) → FreshRep P w.heap.size w' (newOk (okOf (frzL conc (ids q.2))) w) e v l) ∧
      ∀ a b x, q.1.2 = .v (.pure (.pair a b) x) → FreshP P w.heap.size w' (newOk (okOf (frzL conc (ids q.2))) w) (.pair a b) v x)

/-- New blocks are no objects of the state. -/
theorem new_ok {w' : World} {F : List Nat} (h : Mod P w0 conc st a w) : Sub w' (newOk (okOf (frzL conc F)) w) (okOf (frzL conc F)) := by
  intro b hb _
  rcases hb with hb | hb
  · exact hb
  · refine ⟨by show conc.B b; rw [h.cB]; exact h.up b (Nat.le_trans h.keeps.size hb), fun id ver c hc hbl => ?_⟩
    have := (h.base id ver c b (frzL_own hc).1 hbl).2
    omega

theorem FreshRep.flat {n : Nat} {ok ok' : Nat → Prop} {e : Ty} (hf : e.flat = true) {v : Value} {l : List e.den} (h : FreshRep P n w ok e v l) : FreshRep P n w ok' e v l := by
  rcases h with h | ⟨b, off, cap, cs, T, h1, h2, h3, h4, h5, h6, h7⟩
  · exact .inl h
  · exact .inr ⟨b, off, cap, cs, T, h1, h2, h3, h4, h5, h6, fun i x hi => (h7 i x hi).flat e hf⟩

theorem resS_slice : (ts : List Ty) → (r : denL ts) → {e : Ty} → {l : List e.den} → resS ts r = .v (.pure (.slice e) l) → ts = [.slice e] ∧ HEq r l
  | [], r, e, l, h => by cases h
  | [t], r, e, l, h => by
    simp only [resS, SVal.v.injEq, AVal.pure.injEq] at h
    obtain ⟨rfl, h⟩ := h
    exact ⟨rfl, h⟩
  | t :: u :: ts, r, e, l, h => by cases h

theorem freshC_slice {n : Nat} {ok : Nat → Prop} {ts : List Ty} {v : Value} {r : denL ts} {e : Ty} {l : List e.den} (hr : resS ts r = .v (.pure (.slice e) l)) (h : FreshC P n w ok ts v r) : FreshRep P n w ok e v l := by
  obtain ⟨rfl, h2⟩ := resS_slice ts r hr
  cases h2
  exact h

theorem resS_pair : (ts : List Ty) → (r : denL ts) → {a b : Ty} → {x : (Ty.pair a b).den} → resS ts r = .v (.pure (.pair a b) x) → ts = [.pair a b] ∧ HEq r x
  | [], r, a, b, x, h => by cases h
  | [t], r, a, b, x, h => by
    simp only [resS, SVal.v.injEq, AVal.pure.injEq] at h
    obtain ⟨rfl, h⟩ := h
    exact ⟨rfl, h⟩
  | t :: u :: ts, r, a, b, x, h => by cases h

theorem freshC_pair {n : Nat} {ok : Nat → Prop} {ts : List Ty} {v : Value} {r : denL ts} {a b : Ty} {x : (Ty.pair a b).den} (hr : resS ts r = .v (.pure (.pair a b) x)) (h : FreshC P n w ok ts v r) : FreshP P n w ok (.pair a b) v x := by
  obtain ⟨rfl, h2⟩ := resS_pair ts r hr
  cases h2
  exact h

theorem FreshT.flat {n : Nat} {ok ok' : Nat → Prop} : (t : Ty) → t.flat = true → {vs : List Value} → {d : t.den} → {bs : List Nat} → FreshT P n w ok t vs d bs → FreshT P n w ok' t vs d bs
  | .slice e, hf, vs, d, bs, h => by cases hf
  | .pair a b, hf, vs, (x, y), bs, ⟨b1, b2, h1, h2, h3⟩ => by
    simp only [Ty.flat, Bool.and_eq_true] at hf
    exact ⟨b1, b2, h1, FreshT.flat a hf.1 h2, FreshT.flat b hf.2 h3⟩
  | .int k, hf, vs, d, bs, ⟨h1, h2⟩ => ⟨h1, h2.flat _ hf⟩
  | .bool, hf, vs, d, bs, ⟨h1, h2⟩ => ⟨h1, h2.flat _ hf⟩
  | .str, hf, vs, d, bs, ⟨h1, h2⟩ => ⟨h1, h2.flat _ hf⟩
  | .unit, hf, vs, d, bs, ⟨h1, h2⟩ => ⟨h1, h2.flat _ hf⟩
  | .fn1 _ _, hf, _, _, _, _ => by cases hf
  | .fn2 _ _ _, hf, _, _, _, _ => by cases hf
  | .seq _, hf, _, _, _, _ => by cases hf
  | .seq2 _ _, hf, _, _, _, _ => by cases hf
  | .map _ _, hf, _, _, _, _ => by cases hf

theorem light_pair {w' : World} {n : Nat} {ok ok' : Nat → Prop} : (outs : List Ty) → {r : denL outs} → {v : Value} → (outs.all Ty.flat = true ∨ freshFlat outs = true) → FreshC P n w' ok outs v r →
    ∀ a b x, resS outs r = .v (.pure (.pair a b) x) → FreshP P n w' ok' (.pair a b) v x := by
  intro outs r v hlt hf a b x hs
  obtain ⟨rfl, h2⟩ := resS_pair outs r hs
  cases h2
  rcases hlt with hlt | hlt
  · obtain ⟨vs, bs, h1, h2, h3, h4, h5⟩ := hf
    exact ⟨vs, bs, h1, h2, h3, h4, h5.flat _ (by simpa using hlt)⟩
  · cases hlt

theorem light_res {w' : World} (h : Mod P w0 conc st a w) {ok : Nat → Prop} : (outs : List Ty) → {r : denL outs} → {v : Value} → freshFlat outs = true → FreshC P w.heap.size w' ok outs v r →
    SRel P w' conc (okOf conc) (resS outs r) v
  | [.slice e], r, v, hlt, e4 => by
    rcases e4 with ⟨f1, f2⟩ | ⟨b, off, cap, cs, T, f1, f2, f3, f4, f5, f6, f7⟩
    · refine ⟨[v], rfl, none, 0, ?_, ?_, .inl f2⟩
      · rw [f1]; rw [show r = ([] : List e.den) from f2]; rfl
      · rw [show r = ([] : List e.den) from f2]; exact Nat.le_refl _
    · refine ⟨[v], rfl, some ⟨b, off, none⟩, cap, by rw [f1], f4, .inr ⟨b, off, cs, T, _, rfl, ?_, f3, ?_, fun i y hi => ?_⟩⟩
      · refine ⟨by rw [h.cB]; exact h.up b (Nat.le_trans h.keeps.size f2), fun id ver c hc' hbl => ?_⟩
        have := (h.base id ver c b hc' hbl).2
        omega
      · exact Nat.le_trans (Nat.add_le_add_left (Nat.mul_le_mul_right _ f4) _) f6
      · exact (f7 i y hi).flat e hlt
  | [], _, _, hlt, _ => by cases hlt
  | [.int _], _, _, hlt, _ => by cases hlt
  | [.bool], _, _, hlt, _ => by cases hlt
  | [.str], _, _, hlt, _ => by cases hlt
  | [.unit], _, _, hlt, _ => by cases hlt
  | [.pair _ _], _, _, hlt, _ => by cases hlt
  | [.fn1 _ _], _, _, hlt, _ => by cases hlt
  | [.fn2 _ _ _], _, _, hlt, _ => by cases hlt
  | [.seq _], _, _, hlt, _ => by cases hlt
  | [.seq2 _ _], _, _, hlt, _ => by cases hlt
  | [.map _ _], _, _, hlt, _ => by cases hlt
  | _ :: _ :: _, _, _, hlt, _ => by simp [freshFlat] at hlt

theorem light_fresh {w' : World} {n : Nat} {ok ok' : Nat → Prop} : (outs : List Ty) → {r : denL outs} → {v : Value} → (outs.all Ty.flat = true ∨ freshFlat outs = true) → FreshC P n w' ok outs v r →
    ∀ e l, resS outs r = .v (.pure (.slice e) l) → FreshRep P n w' ok' e v l := by
  intro outs r v hlt hf e l hs
  obtain ⟨rfl, h2⟩ := resS_slice outs r hs
  cases h2
  rcases hlt with hlt | hlt
  · simp [Ty.flat] at hlt
  · exact FreshRep.flat hlt hf

theorem callOp_sound (hE : EnvOK P E) (h : Mod P w0 conc st a w) {L : List (Nat × Bool)} (hl : labs a.tmps L) {o : Oper} {f : Operand} {args : Array Operand} {tys : Array TypeId}
    (hop : o.op = .call { callee := .value f, args := args, argTypes := tys }) {q : (Bool × SVal) × W} (hr : (callOp E L true f args.toList).run st = some q) : CallOK P conc st a w o q := by
  cases f with
  | func f =>
    simp only [callOp] at hr
    cases hc : Map.get E.C f with
    | none => rw [hc] at hr; cases hr
    | some c =>
      rw [hc] at hr
      obtain ⟨l, g1, hr1⟩ := RM.bind_some hr
      obtain ⟨x, g2, hr2⟩ := RM.bind_some hr1
      obtain ⟨r, g3, hr3⟩ := RM.opt_some hr2
      cases hr3
      rw [part_true] at g3
      obtain ⟨hb, hcon⟩ := hE.con f c hc
      have hpk := packArgs_spec hE h c.ins g2 (rdS_rel h hl g1)
      obtain ⟨ins, caps, outs, fn, fresh⟩ := c
      cases caps with
      | cons _ _ => simp [Con.app] at g3
      | nil =>
        simp only [Con.app] at g3
        have hargs : (#[] ++ args.map a.eval ++ #[] : Array Value) = (args.toList.map a.eval ++ []).toArray := by apply Array.ext'; simp
        have hex := exec_call (P := P) (w := w) (a := a) hop (fid := f) (first := #[]) (cap := #[]) rfl hb
        rw [hargs] at hex
        cases hlt : (Con.light ⟨ins, [], outs, fn, fresh⟩) with
        | false =>
          obtain ⟨k1, k2⟩ := hpk (ids x.2) fun _ h => h
          refine ⟨k1, f, _, hex, ?_⟩
          refine Calls.mono (hcon w _ _ [] x.1 () r k2 rfl g3) ?_
          rintro e w' ⟨v, e1, e2, e3, e4⟩
          refine ⟨v, e1, e2, ?_, ?_⟩
          · exact resS_rel outs (ResRep.mono ⟨Nat.le_refl _, fun _ _ _ => rfl⟩ (new_ok h) outs e3)
          · intro hfr
            exact ⟨fun e l hs => freshC_slice hs (e4 hfr), fun a b x hs => freshC_pair hs (e4 hfr)⟩
        | true =>
          have k2 : ArgsRep P w (fun _ => True) ins (args.toList.map a.eval) x.1 := by
            obtain ⟨_, k2⟩ := hpk (ids x.2) fun _ h => h
            exact ResRep.mono.argsMono ⟨Nat.le_refl _, fun _ _ _ => rfl⟩ (fun _ _ _ => trivial) ins k2
          refine ⟨?_, f, _, hex, ?_⟩
          · exact FrzW.nil
          refine Calls.mono (hcon w _ _ [] x.1 () r k2 rfl g3) ?_
          rintro e w' ⟨v, e1, e2, e3, e4⟩
          simp only [Con.light, Bool.or_eq_true, Bool.and_eq_true] at hlt
          refine ⟨v, e1, e2, ?_, ?_⟩
          · simp only [cond_true, show ids [] = [] from rfl, frzL_nil]
            rcases hlt with hlt | ⟨hfr, hlt⟩
            · exact resS_rel outs (ResRep.flat outs hlt e3)
            · exact light_res h outs hlt (e4 hfr)
          · intro hfr
            exact ⟨light_fresh outs (hlt.imp_right (·.2)) (e4 hfr), light_pair outs (hlt.imp_right (·.2)) (e4 hfr)⟩
  | tmp t =>
    simp only [callOp] at hr
    obtain ⟨b, g1, hr1⟩ := RM.bind_some hr
    have hv := rdA_rel h hl g1
    split at hr1
    · rename_i x r g
      obtain ⟨l, g2, hr2⟩ := RM.bind_some hr1
      split at hr2
      · rename_i s
        obtain ⟨d, g3, hr3⟩ := RM.bind_some hr2
        obtain ⟨y, g4, hr4⟩ := RM.opt_some hr3
        cases hr4
        rw [part_true] at g4
        have hargs := rdS_rel h hl g2
        obtain ⟨vs, e1, fid, first, cap, e2, hb, hcall⟩ := hv
        match hx : args.toList.map a.eval, hargs with
        | [v1], hargs =>
          obtain ⟨us, k1, k2⟩ := peek_spec hE h g3 hargs.1
          have hf : a.eval (.tmp t) = .func (.func fid) first cap := by rw [e1, e2]; rfl
          have hex := exec_call (P := P) (w := w) (a := a) hop hf hb
          have ha : args.map a.eval = #[x.val us] := by
            apply Array.ext'
            rw [Array.toList_map, hx, k1]
          rw [ha] at hex
          cases hfl : r.flat with
          | true =>
            refine ⟨FrzW.nil, fid, _, hex, ?_⟩
            refine Calls.mono (hcall w (fun _ => True) ⟨Nat.le_refl _, fun _ _ _ => rfl⟩ (fun _ _ _ => trivial) us d.1 k2.any y g4) ?_
            rintro e w' ⟨ys, f1, f2, f3⟩
            refine ⟨r.val ys, f1, f2, ?_, fun h => by cases h⟩
            exact ⟨ys, rfl, f3.flat r hfl⟩
          | false =>
            obtain ⟨m1, m2⟩ := k2 (ids d.2) fun _ h => h
            refine ⟨m1, fid, _, hex, ?_⟩
            refine Calls.mono (hcall w _ ⟨Nat.le_refl _, fun _ _ _ => rfl⟩ (frzL_sub w conc (ids d.2)) us d.1 m2 y g4) ?_
            rintro e w' ⟨ys, f1, f2, f3⟩
            exact ⟨r.val ys, f1, f2, ⟨ys, rfl, f3.mono r ⟨Nat.le_refl _, fun _ _ _ => rfl⟩ (new_ok h)⟩, fun h => by cases h⟩
        | [], hargs => exact hargs.elim
        | _ :: _ :: _, hargs => exact hargs.2.elim
      · cases hr2
    · rename_i x x2 r g
      obtain ⟨l, g2, hr2⟩ := RM.bind_some hr1
      split at hr2
      · rename_i s s2
        obtain ⟨d, g3, hr3⟩ := RM.bind_some hr2
        obtain ⟨d2, g3b, hr3b⟩ := RM.bind_some hr3
        obtain ⟨y, g4, hr4⟩ := RM.opt_some hr3b
        cases hr4
        rw [part_true] at g4
        have hargs := rdS_rel h hl g2
        obtain ⟨vs, e1, fid, first, cap, e2, hb, hcall⟩ := hv
        match hx : args.toList.map a.eval, hargs with
        | [v1, v2], hargs =>
          obtain ⟨us, k1, k2⟩ := peek_spec hE h g3 hargs.1
          obtain ⟨us2, k1b, k2b⟩ := peek_spec hE h g3b hargs.2.1
          have hf : a.eval (.tmp t) = .func (.func fid) first cap := by rw [e1, e2]; rfl
          have hex := exec_call (P := P) (w := w) (a := a) hop hf hb
          have ha : args.map a.eval = #[x.val us, x2.val us2] := by
            apply Array.ext'
            rw [Array.toList_map, hx, k1, k1b]
          rw [ha] at hex
          cases hfl : r.flat with
          | true =>
            refine ⟨FrzW.nil, fid, _, hex, ?_⟩
            refine Calls.mono (hcall w (fun _ => True) ⟨Nat.le_refl _, fun _ _ _ => rfl⟩ (fun _ _ _ => trivial) us d.1 us2 d2.1 k2.any k2b.any y g4) ?_
            rintro e w' ⟨ys, f1, f2, f3⟩
            refine ⟨r.val ys, f1, f2, ?_, fun h => by cases h⟩
            exact ⟨ys, rfl, f3.flat r hfl⟩
          | false =>
            obtain ⟨m1, m2⟩ := k2 (ids (d.2 ++ d2.2)) fun id hid => by rw [ids_append]; exact List.mem_append_left _ hid
            obtain ⟨m1b, m2b⟩ := k2b (ids (d.2 ++ d2.2)) fun id hid => by rw [ids_append]; exact List.mem_append_right _ hid
            refine ⟨m1.append m1b, fid, _, hex, ?_⟩
            refine Calls.mono (hcall w _ ⟨Nat.le_refl _, fun _ _ _ => rfl⟩ (frzL_sub w conc (ids (d.2 ++ d2.2))) us d.1 us2 d2.1 m2 m2b y g4) ?_
            rintro e w' ⟨ys, f1, f2, f3⟩
            exact ⟨r.val ys, f1, f2, ⟨ys, rfl, f3.mono r ⟨Nat.le_refl _, fun _ _ _ => rfl⟩ (new_ok h)⟩, fun h => by cases h⟩
        | [], hargs => exact hargs.elim
        | [_], hargs => exact hargs.2.elim
        | _ :: _ :: _ :: _, hargs => exact hargs.2.2.elim
      · cases hr2
    · cases hr1
  | _ => cases hr

end Go.Abs
