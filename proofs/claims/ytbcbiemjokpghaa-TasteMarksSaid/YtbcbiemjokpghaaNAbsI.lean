/- Operations that give a value: the theorem. -/
import Derived.Test.YtbcbiemjokpghaaNAbsHM
set_option linter.unusedSimpArgs false
set_option linter.unusedVariables false
namespace Go.Abs
open Go
variable {P : Program} {E : Env} {w0 : Start} {w : World} {conc : Conc} {st : ASt} {a : Act}

theorem eval_tmp {s : Nat} {b : Bool} (h : a.eval (.tmp s) = .bool b) : a.tmps[s]? = some (.bool b) := by
  simp only [Act.eval, Array.getD_eq_getD_getElem?] at h
  cases hs : a.tmps[s]? with
  | none => rw [hs] at h; cases h
  | some v => rw [hs] at h; simp at h; rw [h]

theorem labs_cons {s : Nat} {b : Bool} {L : List (Nat × Bool)} (h : a.tmps[s]? = some (.bool b)) (hl : labs a.tmps L) : labs a.tmps ((s, b) :: L) := by
  intro p hp
  rcases List.mem_cons.1 hp with rfl | hp
  · exact h
  · exact hl p hp

theorem pick_sound (h : Mod P w0 conc st a w) {L : List (Nat × Bool)} (hl : labs a.tmps L) {c x y : Operand} {s : SVal} (hr : (pickOp L c x y).run st = some s) :
    ∃ v, (do pure (Next.value (if ← asBool (a.eval c) then a.eval x else a.eval y)) : Sem Next).run P w = .ok (.value v) w ∧ SRel P w conc (okOf conc) s v := by
  cases c with
  | tmp t =>
    simp only [pickOp] at hr
    obtain ⟨b, g1, hr1⟩ := RM.bind_some hr
    clear hr
    obtain ⟨tv, g2, hr⟩ := RM.bind_some hr1
    clear hr1
    obtain ⟨e1, rfl⟩ := boolOf_sound g2 (rdA_rel h hl g1)
    have et := eval_tmp e1
    rw [e1]
    refine ⟨if tv then a.eval x else a.eval y, rfl, ?_⟩
    split at hr
    · obtain ⟨c', k1, hr⟩ := RM.bind_some hr
      obtain ⟨q, k2, hr⟩ := RM.bind_some hr
      cases hr
      cases tv with
      | true => exact vrel_bool (conc := conc) true
      | false =>
        obtain ⟨e3, _⟩ := boolOf_sound k2 (rdA_rel h (labs_cons et hl) k1)
        rw [if_neg (by simp), e3]
        exact vrel_bool (conc := conc) q
    · obtain ⟨c', k1, hr⟩ := RM.bind_some hr
      obtain ⟨q, k2, hr⟩ := RM.bind_some hr
      cases hr
      cases tv with
      | false => exact vrel_bool (conc := conc) false
      | true =>
        obtain ⟨e3, _⟩ := boolOf_sound k2 (rdA_rel h (labs_cons et hl) k1)
        rw [if_pos rfl, e3]
        exact vrel_bool (conc := conc) q
    · cases hr
  | _ => cases hr

theorem valOp_sound (hE : EnvOK P E) (h : Mod P w0 conc st a w) {L : List (Nat × Bool)} (hl : labs a.tmps L) {o : Oper} {s : SVal} (hr : (valOp E L true o.op).run st = some s) : Gives P conc st a w o s := by
  cases hop : o.op with
  | move x =>
    rw [hop] at hr
    exact ⟨a.eval x, by simp [execOp, hop], rd_rel h hl hr⟩
  | assign x =>
    rw [hop] at hr
    exact ⟨a.eval x, by simp [execOp, hop], rd_rel h hl hr⟩
  | binOp b T x y U =>
    rw [hop] at hr
    obtain ⟨s1, g1, hr⟩ := RM.bind_some hr
    obtain ⟨s2, g2, hr⟩ := RM.bind_some hr
    obtain ⟨r, g3, hr⟩ := RM.bind_some hr
    cases hr
    obtain ⟨u, k1, k2⟩ := binOp_sound hE h x y g3 (rd_rel h hl g1) (rd_rel h hl g2)
    exact gives_of (by simp only [execOp, hop]) ⟨u, k1, k2⟩
  | unOp u T x =>
    rw [hop] at hr
    obtain ⟨b, g1, hr⟩ := RM.bind_some hr
    have hv := rdA_rel h hl g1
    refine gives_of (x := Op.unary u (a.eval x)) (by simp only [execOp, hop]) ?_
    split at hr
    · obtain ⟨vs, e1, e2⟩ := hv
      rw [rep_bool e1 e2]
      cases u <;> first | (cases hr; done) | skip
      cases hr
      exact ⟨_, rfl, vrel_bool (conc := conc) _⟩
    · obtain ⟨vs, e1, e2⟩ := hv
      rw [rep_int e1 e2]
      cases u <;> first | (cases hr; done) | skip
      cases hr
      exact ⟨_, rfl, vrel_int (conc := conc) _⟩
    · cases hr
  | pick c x y =>
    rw [hop] at hr
    obtain ⟨v, h1, h2⟩ := pick_sound h hl hr
    refine ⟨v, ?_, h2⟩
    simp only [execOp, hop]
    exact h1
  | load T x =>
    rw [hop] at hr
    simp only [valOp] at hr
    cases hT : E.ty T with
    | none => rw [hT] at hr; cases hr
    | some t =>
      rw [hT] at hr
      obtain ⟨b, g1, hr⟩ := RM.bind_some hr
      exact gives_of (by simp only [execOp, hop]) (loadAt_sound hE h hT hr (rdA_rel h hl g1))
  | fieldAddr T x i =>
    rw [hop] at hr
    simp only [valOp] at hr
    cases hT : Map.get E.G T with
    | none => rw [hT] at hr; cases hr
    | some te =>
      rw [hT] at hr
      obtain ⟨hp, hr⟩ := cond_some hr
      obtain ⟨b, g1, hr⟩ := RM.bind_some hr
      exact gives_of (by simp only [execOp, hop]) (fieldAddrOp_sound (hE.ty T te hT) hp hr (rdA_rel h hl g1) h)
  | indexAddr T x i =>
    rw [hop] at hr
    simp only [valOp] at hr
    split at hr
    · rename_i e hT
      obtain ⟨b, g1, hr⟩ := RM.bind_some hr
      obtain ⟨n, g2, hr⟩ := RM.bind_some hr
      obtain ⟨k, hk⟩ := rdInt_sound h hl g2
      refine gives_of (x := Instr.indexAt T (a.eval x) (a.eval i)) (by simp only [execOp, hop]) ?_
      rw [hk]
      exact indexAddrOp_sound hE h hT hr (rdA_rel h hl g1)
    · cases hr
  | index T x i =>
    rw [hop] at hr
    simp only [valOp] at hr
    split at hr
    · rename_i hT
      obtain ⟨b, g1, hr⟩ := RM.bind_some hr
      split at hr
      · rename_i l
        obtain ⟨n, g2, hr⟩ := RM.bind_some hr
        obtain ⟨c, g3, hr⟩ := RM.opt_some hr
        cases hr
        rw [part_true] at g3
        obtain ⟨i1, i2, i3⟩ := geti_some g3
        obtain ⟨k, hk⟩ := rdInt_sound h hl g2
        obtain ⟨vs, e1, e2⟩ := rdA_rel h hl g1
        obtain ⟨te, hte, hok⟩ := hE.tyOK hT
        have hd := hok.desc
        rw [hte] at hd
        refine gives_of (x := Instr.index T (a.eval x) (a.eval i)) (by simp only [execOp, hop]) ⟨.int .u8 (c.toNat : Int), ?_, vrel_int (conc := conc) _⟩
        rw [hk, rep_str e1 e2]
        have hb : (⟨⟨l⟩⟩ : ByteArray)[n.toNat]? = some c := by
          have hlt : n.toNat < (⟨⟨l⟩⟩ : ByteArray).size := i2
          rw [getElem?_pos (⟨⟨l⟩⟩ : ByteArray) n.toNat hlt]
          exact congrArg some (List.getElem?_eq_some_iff.1 i3).2
        simp only [Instr.index, asIntOf, pure_bind, Sem.run_bind, run_underlying hd, Result.andThen_ok, if_pos i1, hb]
        rfl
      · cases hr
    · cases hr
  | extract t i =>
    rw [hop] at hr
    simp only [valOp] at hr
    obtain ⟨s1, g1, hr⟩ := RM.bind_some hr
    have hv := rd_rel h hl g1
    split at hr
    · rename_i l
      split at hr
      · rename_i b hb
        cases hr
        obtain ⟨vs, e1, e2⟩ := hv
        obtain ⟨v, e3, e4⟩ := e2.get i b hb
        refine gives_of (x := Instr.extract (a.eval t) i) (by simp only [execOp, hop]) ⟨v, ?_, e4⟩
        rw [e1]
        have : vs.toArray[i]? = some v := by simpa using e3
        simp only [Instr.extract, this]
        rfl
      · cases hr
    · cases hr
  | lookup T m k ok =>
    rw [hop] at hr
    simp only [valOp] at hr
    split at hr
    · rename_i q u hT
      obtain ⟨hu, hr1⟩ := cond_some hr
      obtain ⟨b, g1, hr2⟩ := RM.bind_some hr1
      obtain ⟨l, g2, hr3⟩ := RM.bind_some hr2
      obtain ⟨n, g3, hr4⟩ := RM.bind_some hr3
      cases hr4
      obtain ⟨r, k1, k2⟩ := lookup_sound hE h hT hu (rdA_rel h hl g1) g2 n ok
      refine gives_of (x := Instr.lookup T (a.eval m) (a.eval k) ok) (by simp only [execOp, hop]) ⟨r, ?_, k2⟩
      rw [rdK_sound h hl g3]
      exact k1
    · cases hr
  | slice T x lo hi mx =>
    rw [hop] at hr
    cases mx with
    | some m => cases hr
    | none =>
      simp only [valOp] at hr
      cases hT : E.ty T with
      | none => rw [hT] at hr; cases hr
      | some t =>
        rw [hT] at hr
        obtain ⟨b, g1, hr⟩ := RM.bind_some hr
        exact gives_of (by simp only [execOp, hop, Option.map_none]) (sliceOp_sound hE h hl hT hr (rdA_rel h hl g1))
  | convert S T x =>
    rw [hop] at hr
    simp only [valOp] at hr
    split at hr
    · rename_i k k' hS hT
      obtain ⟨n, g1, hr⟩ := RM.bind_some hr
      cases hr
      obtain ⟨q, hq⟩ := rdInt_sound h hl g1
      obtain ⟨te, hte, hok⟩ := hE.tyOK hS
      obtain ⟨te', hte', hok'⟩ := hE.tyOK hT
      have hd := hok.desc
      have hd' := hok'.desc
      rw [hte] at hd
      rw [hte'] at hd'
      refine gives_of (x := Go.convert S T (a.eval x)) (by simp only [execOp, hop]) ⟨_, ?_, vrel_int (conc := conc) _⟩
      rw [hq]
      simp only [Go.convert, Sem.run_bind, run_underlying hd, run_underlying hd', Result.andThen_ok]
      rfl
    · cases hr
  | build T ps =>
    rw [hop] at hr
    simp only [valOp] at hr
    cases hT : Map.get E.G T with
    | none => rw [hT] at hr; cases hr
    | some te =>
      rw [hT] at hr
      obtain ⟨hp, hr⟩ := cond_some hr
      simp only [Bool.and_eq_true] at hp
      obtain ⟨l, g1, hr⟩ := RM.bind_some hr
      cases hr
      exact gives_of (by simp only [execOp, hop]) (build_sound hE h hl hT hp.1 hp.2 g1)
  | call c =>
    rw [hop] at hr
    obtain ⟨cal, args, tys⟩ := c
    cases cal with
    | value f => cases hr
    | invoke r m => cases hr
    | builtin b =>
      cases b <;> first | (cases hr; done) | skip
      case len =>
        simp only [valOp] at hr
        split at hr
        · rename_i x T hx hTs
          have ha : args = #[x] := by rw [← Array.toArray_toList (xs := args), hx]
          have ht : tys = #[T] := by rw [← Array.toArray_toList (xs := tys), hTs]
          subst ha ht
          split at hr
          · rename_i e hT
            obtain ⟨b, g1, hr⟩ := RM.bind_some hr
            obtain ⟨n, g2, hr⟩ := RM.bind_some hr
            cases hr
            obtain ⟨ad, cap, hv⟩ := lenOf_sound (T := T) h g2 (rdA_rel h hl g1)
            obtain ⟨T', hu, _⟩ := slice_desc hE hT
            refine ⟨.int .i64 (n : Int), ?_, vrel_int (conc := conc) _⟩
            simp [execOp, hop, resolve, invoke, builtin, Builtin.len_, hv, run_underlying hu, goInt]
          · rename_i hT
            obtain ⟨b, g1, hr⟩ := RM.bind_some hr
            split at hr
            · rename_i l
              cases hr
              obtain ⟨vs, e1, e2⟩ := rdA_rel h hl g1
              obtain ⟨te, hte, hok⟩ := hE.tyOK hT
              have hd := hok.desc
              rw [hte] at hd
              have hv := rep_str e1 e2
              refine ⟨.int .i64 (l.length : Int), ?_, vrel_int (conc := conc) _⟩
              have hm : (Builtin.len_ #[T] o.type #[.string ⟨⟨l⟩⟩]).run P w = .ok (.int .i64 (l.length : Int)) w := by
                simp only [Builtin.len_, List.getElem?_toArray, List.getElem?_cons_zero]
                rw [Sem.run_bind, run_underlying hd]; rfl
              have he : #[x].map a.eval = #[.string ⟨⟨l⟩⟩] := by simp only [List.map_toArray, List.map_cons, List.map_nil, hv]
              simp only [execOp, hop, resolve, invoke, builtin, pure_bind, he]
              rw [Sem.run_bind, hm]; rfl
            · cases hr
          · cases hr
        · cases hr
      case max =>
        simp only [valOp] at hr
        split at hr
        · rename_i x y hx
          have ha : args = #[x, y] := by rw [← Array.toArray_toList (xs := args), hx]
          subst ha
          obtain ⟨b, g1, hr⟩ := RM.bind_some hr
          split at hr
          · rename_i k n
            obtain ⟨b', g2, hr⟩ := RM.bind_some hr
            split at hr
            · rename_i k' n'
              obtain ⟨rfl, hr'⟩ := ite_some hr
              cases hr'
              obtain ⟨vs, e1, e2⟩ := rdA_rel h hl g1
              obtain ⟨vs', e3, e4⟩ := rdA_rel h hl g2
              have hv := rep_int e1 e2
              have hv' := rep_int e3 e4
              refine ⟨.int k (imax n n'), ?_, vrel_int (conc := conc) _⟩
              have hm : ∀ tys, (Builtin.max_ tys o.type #[.int k n, .int k n']).run P w = .ok (.int k (imax n n')) w := fun _ => rfl
              have he : #[x, y].map a.eval = #[.int k n, .int k n'] := by simp [hv, hv']
              simp only [execOp, hop, resolve, invoke, builtin, pure_bind, he]
              rw [Sem.run_bind, hm]; rfl
            · cases hr
          · cases hr
        · cases hr
  | _ => rw [hop] at hr; cases hr

end Go.Abs
