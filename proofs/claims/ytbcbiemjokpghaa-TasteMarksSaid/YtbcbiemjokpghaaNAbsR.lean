/- Closures made; an operation, whatever it is. -/
import Derived.Test.YtbcbiemjokpghaaNAbsR1
import Derived.Laws.IdiomStrings
set_option linter.unusedSimpArgs false
set_option linter.unusedVariables false
namespace Go.Abs
open Go
variable {P : Program} {E : Env} {w0 : Start} {w : World} {conc : Conc} {st : ASt} {a : Act}

theorem CapsRep.mono {w' : World} {ok ok' : Nat → Prop} (hx : Ext ok w w') (hs : Sub w ok ok') : (ts : List Ty) → {vs : List Value} → {x : denL ts} → CapsRep P w ok ts vs x → CapsRep P w' ok' ts vs x
  | [], vs, x, h => h
  | [t], vs, x, ⟨v, h1, h2⟩ => ⟨v, h1, ptr h2⟩
  | t :: u :: ts, vs, x, ⟨v, r, h1, h2, h3⟩ => ⟨v, r, h1, ptr h2, CapsRep.mono hx hs (u :: ts) h3⟩
where
  ptr {t : Ty} {v : Value} {d : t.den} (h : PtrRep P w ok t v d) : PtrRep P w' ok' t v d := by
    obtain ⟨b, off, cs, T, fr, h1, h2, h3, h4, h5⟩ := h
    exact ⟨b, off, cs, T, fr, h1, hs b h2 (Array.getElem?_eq_some_iff.1 h3).1, (hx.block b h2 (Array.getElem?_eq_some_iff.1 h3).1).trans h3, h4, h5.mono t hx hs⟩

theorem funOf_spec (hE : EnvOK P E) (h : Mod P w0 conc st a w) {f : Nat} {c : Con} (hc : Map.get E.C f = some c) {y : denL c.caps} {cvs : List Value} {W1 : W} (hcaps : PackedC P conc st w c.caps y cvs W1)
    {l : List SVal} {fvs : List Value} (hl : All2 (SRel P w conc (okOf conc)) l fvs) {p : AVal × W} (hr : (funOf E c y l).run st = some p) :
    ∀ F, (∀ id ∈ ids (W1 ++ p.2), id ∈ F) → FrzW P conc st w F (W1 ++ p.2) ∧ VRel P w (frzL conc F) (okOf (frzL conc F)) p.1 (.func (.func f) fvs.toArray cvs.toArray) := by
  obtain ⟨hb, hcon⟩ := hE.con f c hc
  obtain ⟨ins, caps, outs, fn, fresh⟩ := c
  intro F hF
  obtain ⟨k1, k2⟩ := hcaps F fun id hi => hF id (by rw [ids_append]; exact List.mem_append_left _ hi)
  dsimp only [funOf] at hr
  unfold funOfL at hr
  split at hr
  · rename_i a' r' fn' y
    cases hr
    cases fvs with
    | cons _ _ => exact hl.elim
    | nil =>
      refine ⟨by simpa using k1, [_], rfl, f, _, _, rfl, hb, fun w' ok' hx hs xs x hxs z hz => ?_⟩
      have := hcon w' ok' [a'.val xs] cvs x y z ⟨xs, rfl, hxs⟩ (k2.mono hx hs caps) hz
      refine Calls.mono (by simpa using this) ?_
      rintro e w'' ⟨v, h1, h2, ⟨cs, h3, h4⟩, _⟩
      exact ⟨cs, by rw [h1, h3], h2, h4⟩
  · rename_i a' b' r' fn' y
    cases hr
    cases fvs with
    | cons _ _ => exact hl.elim
    | nil =>
      refine ⟨by simpa using k1, [_], rfl, f, _, _, rfl, hb, fun w' ok' hx hs xs x xs' x' hxs hxs' z hz => ?_⟩
      have := hcon w' ok' [a'.val xs, b'.val xs'] cvs (x, x') y z ⟨xs, _, rfl, hxs, xs', rfl, hxs'⟩ (k2.mono hx hs caps) hz
      refine Calls.mono (by simpa using this) ?_
      rintro e w'' ⟨v, h1, h2, ⟨cs, h3, h4⟩, _⟩
      exact ⟨cs, by rw [h1, h3], h2, h4⟩
  · rename_i t' a' r' s' fn' y
    obtain ⟨d, g1, g2⟩ := RM.bind_some hr
    cases g2
    match fvs, hl with
    | [fv], hl =>
      obtain ⟨us, e1, e2⟩ := peek_spec hE h g1 hl.1
      obtain ⟨m1, m2⟩ := e2 F fun id hi => hF id (by rw [ids_append]; exact List.mem_append_right _ hi)
      refine ⟨k1.append m1, [_], rfl, f, _, _, rfl, hb, fun w' ok' hx hs xs x hxs z hz => ?_⟩
      have := hcon w' ok' [fv, a'.val xs] cvs (d.1, x) y z ⟨us, _, by rw [e1], m2.mono t' hx hs, xs, rfl, hxs⟩ (k2.mono hx hs caps) hz
      refine Calls.mono (by simpa using this) ?_
      rintro e w'' ⟨v, h1, h2, ⟨cs, h3, h4⟩, _⟩
      exact ⟨cs, by rw [h1, h3], h2, h4⟩
    | [], hl => exact hl.elim
    | _ :: _ :: _, hl => exact hl.2.elim
  · rename_i t' a' b' r' s' fn' y
    obtain ⟨d, g1, g2⟩ := RM.bind_some hr
    cases g2
    match fvs, hl with
    | [fv], hl =>
      obtain ⟨us, e1, e2⟩ := peek_spec hE h g1 hl.1
      obtain ⟨m1, m2⟩ := e2 F fun id hi => hF id (by rw [ids_append]; exact List.mem_append_right _ hi)
      refine ⟨k1.append m1, [_], rfl, f, _, _, rfl, hb, fun w' ok' hx hs xs x xs' x' hxs hxs' z hz => ?_⟩
      have := hcon w' ok' [fv, a'.val xs, b'.val xs'] cvs (d.1, x, x') y z ⟨us, _, by rw [e1], m2.mono t' hx hs, xs, _, rfl, hxs, xs', rfl, hxs'⟩ (k2.mono hx hs caps) hz
      refine Calls.mono (by simpa using this) ?_
      rintro e w'' ⟨v, h1, h2, ⟨cs, h3, h4⟩, _⟩
      exact ⟨cs, by rw [h1, h3], h2, h4⟩
    | [], hl => exact hl.elim
    | _ :: _ :: _, hl => exact hl.2.elim
  · cases hr

theorem makeFunc_ok (hE : EnvOK P E) (h : Mod P w0 conc st a w) {o : Oper} {f : Nat} {first cap : Array Operand} (hop : o.op = .makeFunc (.func f) first cap) {c : Con} (hc : Map.get E.C f = some c)
    {y : denL c.caps × W} (hy : (capsOf E c.caps cap.toList).run st = some y) {l : List SVal} (hl : (rdS [] first.toList).run st = some l) {p : AVal × W} (hp : (funOf E c y.1 l).run st = some p) {st' : ASt}
    (hap : applyU st none (.slot o.dst [] true (.v p.1) (y.2 ++ p.2)) = some st') : OpOK P w0 o a w st' := by
  have hk := funOf_spec hE h hc (capsOf_spec hE h c.caps hy) (rdS_rel h (labs_nil _) hl) hp (ids (y.2 ++ p.2)) fun _ h => h
  obtain ⟨k1, k2⟩ := hk
  refine OpOK.value (v := .func (.func f) (first.map a.eval) (cap.map a.eval)) (w' := w) ?_ ?_
  · simp only [execOp, hop, Instr.makeFunc]; rfl
  · refine slot_done (h.freeze k1) hap ?_
    have e1 : first.map a.eval = (first.toList.map a.eval).toArray := by apply Array.ext'; simp
    have e2 : cap.map a.eval = (cap.toList.map a.eval).toArray := by apply Array.ext'; simp
    rw [e1, e2]
    exact k2

theorem makeIt_ok (hE : EnvOK P E) (h : Mod P w0 conc st a w) {o : Oper} {f : Nat} {first cap : Array Operand} (hop : o.op = .makeFunc (.func f) first cap) (hfi : first.toList.isEmpty = true) {c : ICon} (hc : Map.get E.I f = some c)
    {y : denL c.caps × W} (hy : (capsOf E c.caps cap.toList).run st = some y) {xs : c.out.den} (hx : c.fn y.1 = some xs) {st' : ASt}
    (hap : applyU st none (.slot o.dst [] true (.v (.pure c.out xs)) y.2) = some st') : OpOK P w0 o a w st' := by
  obtain ⟨k1, k2⟩ := capsOf_spec hE h c.caps hy (ids y.2) fun _ h => h
  obtain ⟨i1, i2⟩ := hE.it f c hc
  have hfi : first = #[] := by
    have : first.toList = [] := by simpa using hfi
    rw [← Array.toArray_toList (xs := first), this]
  subst hfi
  refine OpOK.value (v := .func (.func f) #[] (cap.map a.eval)) (w' := w) ?_ ?_
  · simp [execOp, hop, Instr.makeFunc]
  · refine slot_done (h.freeze k1) hap ⟨[_], ?_, i2 _ _ _ _ _ k2 hx⟩
    have e2 : cap.map a.eval = (cap.toList.map a.eval).toArray := by apply Array.ext'; simp
    rw [e2]
    simp [Ty.val, i1]

theorem call_ok (h : Mod P w0 conc st a w) {o : Oper} {q : (Bool × SVal) × W} (hq : CallOK P conc st a w o q) {u : Upd} {st' : ASt} (hr : (callUpd o.dst q).run st = some u) (hap : applyU st none u = some st') : OpOK P w0 o a w st' := by
  obtain ⟨hfrz, fid, args, hex, hcall⟩ := hq
  refine OpOK.enter hex hcall ?_
  rintro v w' ⟨e2, e3, e4⟩
  unfold callUpd at hr
  split at hr
  · rename_i e l d hfr hs hd
    have hfresh := (e4 hfr).1 e l hs
    rw [hd]
    rcases hfresh with ⟨f1, f2⟩ | ⟨b, off, cap, cs, T, f1, f2, f3, f4, f5, f6, f7⟩
    · subst f2
      refine new_done h hfrz hr hap e2 (fun b hb => by rw [f1] at hb; cases hb) (fun conc' g1 g2 g3 => ⟨rfl, .inl ⟨f1, rfl⟩⟩)
        (fun conc' ver hc => ⟨ver, _, true, hc, Nat.le_refl _, by rw [f1]; rfl, fun _ => rfl⟩)
    · rw [f1]
      exact buf_newO h hfrz hr hap f4 f5 f6 e2 f2 f3 fun i x hi => (f7 i x hi).mono e ⟨Nat.le_refl _, fun _ _ _ => rfl⟩ (fun b' hb' _ => ⟨hb'.1, hb'.2⟩)
  · rename_i x y r d hfr hs hd
    obtain ⟨p, g1, g2⟩ := RM.bind_some hr
    cases g2
    rw [hd]
    exact news_done h hfrz g1 hap e2 ((e4 hfr).2 x y r hs)
  · cases hr
    exact slot_done ((h.freeze hfrz).grow e2) hap e3

theorem val_ok (hE : EnvOK P E) (h : Mod P w0 conc st a w) {o : Oper} {s : SVal} (hr : (valOp E [] true o.op).run st = some s) {st' : ASt} (hap : applyU st none (.slot o.dst [] true s []) = some st') : OpOK P w0 o a w st' := by
  obtain ⟨v, h1, h2⟩ := valOp_sound hE h (labs_nil _) hr
  exact OpOK.value h1 (slot_done (W0 := []) h hap h2)

theorem bytes_ok (hE : EnvOK P E) (h : Mod P w0 conc st a w) {o : Oper} {S T : Nat} {x : Operand} (hop : o.op = .convert S T x) (hS : E.ty S = some .str) (hT : E.ty T = some (.slice (.int .u8))) {l : List UInt8}
    (hx : (rdA [] x).run st = some (.pure .str l)) {st' : ASt} (hap : applyU st none (.slot o.dst [] true (.v (.pure (.slice (.int .u8)) (bytesOf l))) []) = some st') : OpOK P w0 o a w st' := by
  obtain ⟨te, hte, hokS⟩ := hE.tyOK hS
  have hs := hokS.desc
  rw [hte] at hs
  obtain ⟨te', hte', hokT⟩ := hE.tyOK hT
  obtain ⟨T', hu, hb⟩ := hokT.bytes hte'
  have hv := rdA_rel h (labs_nil _) hx
  obtain ⟨vs, e1, e2⟩ := hv
  have e3 : vs = [.string ⟨⟨l⟩⟩] := e2
  subst e3
  have e4 : a.eval x = .string ⟨⟨l⟩⟩ := e1
  have hrun := run_bytes_of_string w S T T' ⟨⟨l⟩⟩ hs hu hb
  have hsz : (⟨⟨l⟩⟩ : ByteArray).size = l.length := rfl
  rw [hsz] at hrun
  refine OpOK.value (w' := _) (v := _) (by simp only [execOp, hop, e4]; rw [Sem.run_bind, hrun]; rfl) ?_
  have hk : Keeps w (w.drew.alloc (.cells (bytesRow ⟨⟨l⟩⟩ (grownCap w l.length 0 T')) T' ((bytesRow ⟨⟨l⟩⟩ (grownCap w l.length 0 T')).size, (bytesRow ⟨⟨l⟩⟩ (grownCap w l.length 0 T')).size + 1))) :=
    (Keeps.drew w).trans (Keeps.alloc _ _)
  have hge := grownCap_ge w l.length 0 T'
  have hb1 : (bytesRow ⟨⟨l⟩⟩ (grownCap w l.length 0 T')).toList = l.map (fun c => Value.int .u8 (c.toNat : Int)) ++ List.replicate (grownCap w l.length 0 T' - l.length) (.int .u8 0) := by
    simp [bytesRow, ByteArray.size]
  refine slot_done (W0 := []) (h.grow hk) hap ⟨[_], rfl, some ⟨w.heap.size, 0, none⟩, grownCap w l.length 0 T', ?_, ?_, .inr ⟨w.heap.size, 0, _, _, _, rfl, ?_, heap_alloc_new _ _, ?_, fun i y hi => ?_⟩⟩
  · simp [bytesOf]
  · simpa [bytesOf] using hge
  · refine ⟨by rw [h.cB]; exact h.up _ h.keeps.size, fun id ver c hc hbl => ?_⟩
    have := (h.base id ver c _ hc hbl).2
    omega
  · rw [← Array.length_toList, hb1]
    simp [bytesOf, Ty.sz]
  · show chunk _ _ _ = [_]
    rw [hb1]
    simp only [bytesOf, List.getElem?_map, Option.map_eq_some_iff] at hi
    obtain ⟨c, hc, rfl⟩ := hi
    obtain ⟨hlt, hc⟩ := List.getElem?_eq_some_iff.1 hc
    simp only [chunk, Ty.sz, Nat.zero_add, Nat.mul_one]
    rw [List.drop_append_of_le_length (by simp; omega), List.take_append_of_le_length (by simp; omega)]
    rw [List.drop_eq_getElem_cons (by simpa using hlt)]
    simp [hc]

theorem effOp_sound (hE : EnvOK P E) (h : Mod P w0 conc st a w) {o : Oper} {u : Upd} (hr : (effOp E o).run st = some u) {st' : ASt} (hap : applyU st none u = some st') : OpOK P w0 o a w st' := by
  unfold effOp at hr
  split at hr
  · rename_i hop
    split at hr
    · rename_i d e hd hT
      exact nil_ok h hop hd hr hap
    · cases hr
  · rename_i T hop
    split at hr
    · rename_i d t hd hT
      exact alloc_ok hE h hop hd hT hr hap
    · cases hr
  · rename_i T x hop
    split at hr
    · rename_i d t hd hT
      obtain ⟨s, g1, hr⟩ := RM.bind_some hr
      obtain ⟨l, g2, hr⟩ := RM.bind_some hr
      obtain ⟨g3, hr⟩ := cond_some hr
      exact box_ok hE h hop hd g1 g2 (nbeq_true g3) hr hap
    · cases hr
  · rename_i T n ps hop
    split at hr
    · rename_i d e hd hT
      obtain ⟨l, g1, hr⟩ := RM.bind_some hr
      obtain ⟨g3, hr⟩ := cond_some hr
      simp only [Bool.and_eq_true] at g3
      exact buildSlice_ok hE h hop hd hT g3.1 (by simpa using g3.2) g1 hr hap
    · cases hr
  · rename_i T x y hop
    split at hr
    · rename_i d e hd hT
      obtain ⟨b, g1, hr⟩ := RM.bind_some hr
      split at hr
      · rename_i n
        obtain ⟨g3, hr1⟩ := cond_some hr
        clear hr
        simp only [Bool.and_eq_true] at g3
        obtain ⟨q, g4, hr⟩ := RM.opt_some hr1
        clear hr1
        have hxy := nbeq_true g3.1
        rw [← hxy] at hop
        have hn : 0 ≤ n ∧ n ≤ (most : Int) := by
          unfold chki at g4
          split at g4
          · assumption
          · cases g4
        exact makeSlice_ok hE h hop hd hT g3.2 g1 hn.1 hn.2 hr hap
      · cases hr
    · cases hr
  · rename_i T ad x hop
    split at hr
    · rename_i t hd hT
      obtain ⟨b, g1, hr⟩ := RM.bind_some hr
      cases b with
      | bptr id ver off =>
        simp only [storeOp] at hr
        obtain ⟨s, g2, hr⟩ := RM.bind_some hr
        obtain ⟨l, g3, hr⟩ := RM.bind_some hr
        simp only [RM.run] at hr
        split at hr
        · rename_i cv t' cells ho
          obtain ⟨g4, hr1⟩ := cond_some hr
          clear hr
          simp only [Bool.and_eq_true] at g4
          have := nbeq_true g4.1.1
          subst this
          cases hr1
          exact store_box_ok hE h hop hd hT g1 g2 g3 ho (nbeq_true g4.1.2) (by simpa using g4.2) hap
        · cases hr
      | eptr id ver e i =>
        simp only [storeOp] at hr
        obtain ⟨s, g2, hr⟩ := RM.bind_some hr
        obtain ⟨d, g3, hr⟩ := RM.bind_some hr
        simp only [RM.run] at hr
        split at hr
        · rename_i cv e' l ho
          obtain ⟨g4, hr1⟩ := cond_some hr
          clear hr
          simp only [Bool.and_eq_true] at g4
          have := nbeq_true g4.1
          subst this
          split at hr1
          · rename_i hh
            obtain ⟨hh1, hh2⟩ := hh
            subst hh1
            subst hh2
            obtain ⟨l', g5, hr⟩ := RM.opt_some hr1
            cases hr
            have hn : id ∉ ids d.2 := by
              intro hm
              obtain ⟨p, hp, he⟩ := List.mem_map.1 hm
              have := List.all_eq_true.1 g4.2 p hp
              simp [nbeq, he] at this
            exact store_elem_ok hE h hop hd hT g1 g2 g3 ho hn g5 hap
          · cases hr1
        · cases hr
      | _ => cases hr
    · cases hr
  · rename_i args tys hop
    split at hr
    · rename_i d s x T T' hd ha ht
      obtain ⟨g0, hr1⟩ := cond_some hr
      clear hr
      have := nbeq_true g0
      subst this
      have ha' : args = #[s, x] := by rw [← Array.toArray_toList (xs := args), ha]
      have ht' : tys = #[T, T] := by rw [← Array.toArray_toList (xs := tys), ht]
      subst ha' ht'
      obtain ⟨b, g1, hr⟩ := RM.bind_some hr1
      clear hr1
      cases b with
      | hand id ver =>
        simp only [appendOp] at hr
        obtain ⟨b2, g2, hr⟩ := RM.bind_some hr
        simp only [RM.run] at hr
        split at hr
        · rename_i cv e l ho
          obtain ⟨g4, hr1⟩ := cond_some hr
          clear hr
          have := nbeq_true g4
          subst this
          obtain ⟨hT, hr2⟩ := ite_some hr1
          obtain ⟨m, g5, hr3⟩ := RM.bind_some hr2
          obtain ⟨q, g6, hr4⟩ := RM.opt_some hr3
          cases hr4
          have hle : l.length + List.length (α := e.den) m.1 ≤ most := by
            unfold chk at g6
            split at g6
            · assumption
            · cases g6
          exact append_hand_ok hE h hop hd hT g1 ho g2 g5 hle hap
        · cases hr
      | nils =>
        simp only [appendOp] at hr
        split at hr
        · rename_i e hT
          obtain ⟨b2, g2, hr⟩ := RM.bind_some hr
          obtain ⟨m, g5, hr⟩ := RM.bind_some hr
          obtain ⟨q, g6, hr⟩ := RM.opt_some hr
          have hle : List.length (α := e.den) m.1 ≤ most := by
            unfold chk at g6
            split at g6
            · assumption
            · cases g6
          exact append_nils_ok hE h hop hd hT g1 g2 g5 hle hr hap
        · cases hr
      | _ => cases hr
    · cases hr
  · rename_i f first cap hop
    cases hc : Map.get E.C f with
    | none =>
      simp only [hc] at hr
      cases hi : Map.get E.I f with
      | none => simp only [hi] at hr; cases hr
      | some c =>
        simp only [hi] at hr
        obtain ⟨g0, hr1⟩ := cond_some hr
        obtain ⟨y, g1, hr2⟩ := RM.bind_some hr1
        obtain ⟨xs, g2, hr3⟩ := RM.opt_some hr2
        cases hr3
        exact makeIt_ok hE h hop g0 hi g1 g2 hap
    | some c =>
      simp only [hc] at hr
      obtain ⟨y, g1, hr⟩ := RM.bind_some hr
      obtain ⟨l, g2, hr⟩ := RM.bind_some hr
      obtain ⟨p, g3, hr⟩ := RM.bind_some hr
      cases hr
      exact makeFunc_ok hE h hop hc g1 g2 g3 hap
  · rename_i T hop
    split at hr
    · rename_i d k u hd hT
      exact makeMap_ok h hop hd hr hap
    · cases hr
  · rename_i T m k x hop
    split at hr
    · rename_i hd
      exact mapPut_ok hE h (by simp only [execOp, hop]) hd hr hap
    · cases hr
  · rename_i T m k x hop
    split at hr
    · rename_i hd
      exact mapPut_ok hE h (by simp only [execOp, hop]) hd hr hap
    · cases hr
  · rename_i T x lo hi hop
    obtain ⟨b, g1, hr⟩ := RM.bind_some hr
    split at hr
    · rename_i id ver d hd
      simp only [RM.run] at hr
      split at hr
      · rename_i cv e l ho
        obtain ⟨g2, hr1⟩ := cond_some hr
        have := nbeq_true g2
        subst this
        obtain ⟨hT, hr2⟩ := ite_some hr1
        obtain ⟨p, g3, hr3⟩ := RM.bind_some hr2
        obtain ⟨q, g4, hr4⟩ := RM.bind_some hr3
        obtain ⟨z, g5, hr5⟩ := RM.opt_some hr4
        cases hr5
        exact sliceHand_ok hE h hop hd hT g1 ho g3 g4 g5 hap
      · cases hr
    · obtain ⟨s, g2, hr2⟩ := RM.bind_some hr
      cases hr2
      exact val_ok hE h (by rw [hop]; exact g2) hap
  · rename_i f args tys hop
    obtain ⟨q, g1, hr⟩ := RM.bind_some hr
    exact call_ok h (callOp_sound hE h (labs_nil _) hop g1) hr hap
  · rename_i S T x hop
    have other : ∀ {u}, ((valOp E [] true o.op).bind fun s => RM.ret (Upd.slot o.dst [] true s [])).run st = some u → applyU st none u = some st' → OpOK P w0 o a w st' := by
      intro u hr hap
      obtain ⟨s, g1, hr⟩ := RM.bind_some hr
      cases hr
      exact val_ok hE h g1 hap
    rw [hop] at other
    split at hr
    · rename_i hS hT
      obtain ⟨b, g1, hr⟩ := RM.bind_some hr
      split at hr
      · rename_i l
        cases hr
        exact bytes_ok hE h hop hS hT g1 hap
      · cases hr
    · exact other hr hap
  · obtain ⟨s, g1, hr⟩ := RM.bind_some hr
    cases hr
    exact val_ok hE h g1 hap

end Go.Abs
