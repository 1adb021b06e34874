/- Operations that give a value: all of them. -/
import Derived.Laws.Tables
import Derived.Test.YtbcbiemjokpghaaNAbsG
set_option linter.unusedSimpArgs false
set_option linter.unusedVariables false
namespace Go.Abs
open Go
variable {P : Program} {E : Env} {w0 : Start} {w : World} {conc : Conc} {st : ASt} {a : Act}

theorem rdInt_sound (h : Mod P w0 conc st a w) {L : List (Nat × Bool)} (hl : labs a.tmps L) {x : Operand} {n : Int} (hr : (rdInt L x).run st = some n) : ∃ k, a.eval x = .int k n := by
  unfold rdInt at hr
  obtain ⟨b, h1, h2⟩ := RM.bind_some hr
  have hv := rdA_rel h hl h1
  split at h2
  · cases h2
    obtain ⟨vs, e1, e2⟩ := hv
    exact ⟨_, rep_int e1 e2⟩
  · cases h2

theorem boolOf_sound {b : AVal} {v : Value} {t : Bool} {ok : Nat → Prop} (hr : (boolOf b).run st = some t) (hv : VRel P w conc ok b v) : v = .bool t ∧ b = .pure .bool t := by
  unfold boolOf at hr
  split at hr
  · cases hr
    obtain ⟨vs, e1, e2⟩ := hv
    exact ⟨rep_bool e1 e2, rfl⟩
  · cases hr

/-- What an operation that gives a value comes to. -/
def Gives (P : Program) (conc : Conc) (st : ASt) (a : Act) (w : World) (o : Oper) (s : SVal) : Prop :=
  ∃ v, (execOp a.eval o).run P w = .ok (.value v) w ∧ SRel P w conc (okOf conc) s v

theorem gives_of {o : Oper} {s : SVal} {x : Sem Value} (hx : execOp a.eval o = (do pure (.value (← x)))) (h : ∃ v, x.run P w = .ok v w ∧ SRel P w conc (okOf conc) s v) : Gives P conc st a w o s := by
  obtain ⟨v, h1, h2⟩ := h
  refine ⟨v, ?_, h2⟩
  rw [hx]
  simp [h1]

theorem sliceBound_run {v : Value} {k : IntKind} {n : Int} (hv : v = .int k n) {y : Nat} {c : BoundsCode} (h0 : 0 ≤ n) (h1 : n ≤ (y : Int)) : (Instr.sliceBound v y c).run P w = .ok n.toNat w := by
  subst hv
  simp [Instr.sliceBound, asIntOf, h0, h1]

theorem rdBound_sound (h : Mod P w0 conc st a w) {L : List (Nat × Bool)} (hl : labs a.tmps L) {d : Int} {x : Option Operand} {n : Int} (hr : (rdBound L d x).run st = some n) :
    (x = none ∧ n = d) ∨ ∃ y k, x = some y ∧ a.eval y = .int k n := by
  cases x with
  | none => cases hr; exact .inl ⟨rfl, rfl⟩
  | some y =>
    obtain ⟨k, hk⟩ := rdInt_sound h hl hr
    exact .inr ⟨y, k, rfl, hk⟩

theorem sliceBounds_run (h : Mod P w0 conc st a w) {L : List (Nat × Bool)} (hl : labs a.tmps L) {lo hi : Option Operand} {x y : Int} {n cap : Nat} {b : Bool} (hc : n ≤ cap)
    (h1 : (rdBound L 0 lo).run st = some x) (h2 : (rdBound L (n : Int) hi).run st = some y) (h3 : 0 ≤ x) (h4 : x ≤ y) (h5 : y ≤ (n : Int)) :
    (Instr.sliceBounds b n cap (lo.map a.eval) (hi.map a.eval) none).run P w = .ok (x.toNat, y.toNat, cap) w := by
  have hy : (y.toNat : Int) = y := by omega
  rcases rdBound_sound h hl h1 with ⟨rfl, rfl⟩ | ⟨lo', k, rfl, e1⟩
  · rcases rdBound_sound h hl h2 with ⟨rfl, rfl⟩ | ⟨hi', k', rfl, e2⟩
    · simp [Instr.sliceBounds]
    · simp only [Instr.sliceBounds, Option.map_none, Option.map_some]
      simp [sliceBound_run e2 (by omega : (0:Int) ≤ y) (by omega : y ≤ (cap : Int))]
  · rcases rdBound_sound h hl h2 with ⟨rfl, rfl⟩ | ⟨hi', k', rfl, e2⟩
    · simp only [Instr.sliceBounds, Option.map_none, Option.map_some]
      simp [sliceBound_run e1 h3 (by omega : x ≤ (n : Int))]
    · simp only [Instr.sliceBounds, Option.map_none, Option.map_some]
      simp [sliceBound_run e2 (by omega : (0:Int) ≤ y) (by omega : y ≤ (cap : Int)), sliceBound_run e1 h3 (by omega : x ≤ (y.toNat : Int))]

theorem cut_some {α : Type} {l : List α} {lo hi : Int} {z : List α} (h : cut l lo hi = some z) : 0 ≤ lo ∧ lo ≤ hi ∧ hi ≤ (l.length : Int) ∧ z = (l.take hi.toNat).drop lo.toNat := by
  unfold cut at h
  split at h
  · rename_i hc
    cases h
    exact ⟨hc.1, hc.2.1, hc.2.2, rfl⟩
  · cases h

theorem sliceAt_eq (hE : EnvOK P E) {T : Nat} {t : Ty} (hT : E.ty T = some t) (ht : (∃ e, t = .slice e) ∨ t = .str) {x : Value} {lo hi mx : Option Value} :
    (Instr.sliceAt T x lo hi mx).run P w = (Instr.slice T x lo hi mx).run P w := by
  obtain ⟨te, hte, hok⟩ := hE.tyOK hT
  have hd := hok.desc
  unfold Instr.sliceAt
  rcases ht with ⟨e, rfl⟩ | rfl
  · rw [hte] at hd
    obtain ⟨T', hu, _⟩ := hd
    rw [Sem.run_bind, run_underlying hu]; rfl
  · rw [hte] at hd
    rw [Sem.run_bind, run_underlying hd]; rfl

theorem sliceOp_sound (hE : EnvOK P E) (h : Mod P w0 conc st a w) {L : List (Nat × Bool)} (hl : labs a.tmps L) {T : Nat} {t : Ty} (hT : E.ty T = some t) {lo hi : Option Operand} {b : AVal} {v : Value} {s : SVal}
    (hr : (sliceOp L true t lo hi b).run st = some s) (hv : VRel P w conc (okOf conc) b v) :
    ∃ u, (Instr.sliceAt T v (lo.map a.eval) (hi.map a.eval) none).run P w = .ok u w ∧ SRel P w conc (okOf conc) s u := by
  cases b with
  | pure u l =>
    cases u <;> simp only [sliceOp] at hr <;> first | (cases hr; done) | skip
    · obtain ⟨rfl, hr⟩ := ite_some hr
      obtain ⟨x, g1, hr⟩ := RM.bind_some hr
      obtain ⟨y, g2, hr⟩ := RM.bind_some hr
      obtain ⟨z, g3, hr⟩ := RM.opt_some hr
      cases hr
      rw [part_true] at g3
      obtain ⟨k1, k2, k3, rfl⟩ := cut_some g3
      obtain ⟨vs, e1, e2⟩ := hv
      rw [rep_str e1 e2, sliceAt_eq hE hT (.inr rfl)]
      obtain ⟨te, hte, hok⟩ := hE.tyOK hT
      have hd := hok.desc
      rw [hte] at hd
      have hb := sliceBounds_run (P := P) (w := w) h hl (b := false) (Nat.le_refl _) g1 g2 k1 k2 k3
      refine ⟨.string ((⟨⟨l⟩⟩ : ByteArray).extract x.toNat y.toNat), ?_, ?_⟩
      · have hsz : (⟨⟨l⟩⟩ : ByteArray).size = l.length := rfl
        simp only [Instr.slice, Sem.run_bind, run_underlying hd, Result.andThen_ok, Option.isSome_none, Bool.false_eq_true, if_false, Sem.run_pure, hsz, hb]
      · refine ⟨[.string ⟨⟨(l.take y.toNat).drop x.toNat⟩⟩], ?_, rfl⟩
        have : (⟨⟨l⟩⟩ : ByteArray).extract x.toNat y.toNat = ⟨⟨(l.take y.toNat).drop x.toNat⟩⟩ := by
          apply ByteArray.ext
          simp [ByteArray.data_extract, List.extract_toArray, List.drop_take]
        rw [this]; rfl
    · rename_i e
      obtain ⟨rfl, hr'⟩ := ite_some hr
      obtain ⟨x, g1, hr⟩ := RM.bind_some hr'
      obtain ⟨y, g2, hr⟩ := RM.bind_some hr
      obtain ⟨z, g3, hr⟩ := RM.opt_some hr
      cases hr
      rw [part_true] at g3
      obtain ⟨k1, k2, k3, rfl⟩ := cut_some g3
      obtain ⟨vs, e1, ad, cap, e2, e3, e4⟩ := hv
      obtain ⟨T', hu, i, hi1, hi2⟩ := slice_desc hE hT
      rw [e1, e2, sliceAt_eq hE hT (.inl ⟨e, rfl⟩)]
      have hb := sliceBounds_run (P := P) (w := w) h hl (b := true) e3 g1 g2 k1 k2 k3
      have hlen : ((l.take y.toNat).drop x.toNat).length = y.toNat - x.toNat := by
        rw [List.length_drop, List.length_take]; omega
      refine ⟨.slice (if cap = x.toNat then ad else ad.map (·.add (x.toNat * e.sz))) (y.toNat - x.toNat) (cap - x.toNat), ?_, ?_⟩
      · simp only [Instr.slice, Ty.val, Ty.isPair, Bool.false_eq_true, if_false, List.headD, Sem.run_bind, run_underlying hu, Result.andThen_ok, hb, sizeOf, typeInfo, Sem.run_pure]
        simp [hi1, hi2]
      · refine ⟨[.slice (if cap = x.toNat then ad else ad.map (·.add (x.toNat * e.sz))) (y.toNat - x.toNat) (cap - x.toNat)], rfl, ?_⟩
        rw [← hlen]
        refine ⟨_, _, rfl, by rw [hlen]; omega, ?_⟩
        by_cases hz : (l.take y.toNat).drop x.toNat = []
        · exact .inl hz
        · right
          have hpos : 0 < ((l.take y.toNat).drop x.toNat).length := List.length_pos_iff.2 hz
          rw [hlen] at hpos
          rcases e4 with e4 | ⟨bl, off, cs, U, fr, rfl, f2, f3, f4, f5⟩
          · rw [e4] at hz; simp at hz
          · refine ⟨bl, off + x.toNat * e.sz, cs, U, fr, ?_, f2, f3, ?_, fun i q hq => ?_⟩
            · have : cap ≠ x.toNat := by omega
              rw [if_neg this]
              simp [addr_add]
            · refine Nat.le_trans ?_ f4
              rw [Nat.add_assoc, ← Nat.add_mul, hlen]
              exact Nat.add_le_add_left (Nat.mul_le_mul_right _ (by omega)) _
            · rw [List.getElem?_drop, List.getElem?_take] at hq
              split at hq
              · have := f5 _ q hq
                rwa [Nat.add_mul, ← Nat.add_assoc] at this
              · cases hq
  | _ => cases hr


theorem zero_len : (t : Ty) → (zeroVals t).length = t.sz
  | .unit => rfl
  | .pair a b => by simp [zeroVals, Ty.sz, zero_len a, zero_len b]
  | .slice _ => rfl
  | .int _ => rfl
  | .bool => rfl
  | .str => rfl
  | .fn1 _ _ => rfl
  | .fn2 _ _ _ => rfl
  | .seq _ => rfl
  | .seq2 _ _ => rfl
  | .map _ _ => rfl

theorem zero_rep {ok : Nat → Prop} : (t : Ty) → t.noFn = true → Rep P t w ok (zeroVals t) t.dflt
  | .unit, _ => rfl
  | .pair x y, hf => by
    simp only [Ty.noFn, Bool.and_eq_true] at hf
    simp only [zeroVals, Ty.dflt, Rep]
    rw [List.take_left' (zero_len x), List.drop_left' (zero_len x)]
    exact ⟨zero_rep x hf.1, zero_rep y hf.2⟩
  | .int k, _ => rfl
  | .bool, _ => rfl
  | .str, _ => rfl
  | .fn1 p r, hf => by cases hf
  | .fn2 p q r, hf => by cases hf
  | .seq p, hf => by cases hf
  | .seq2 p q, hf => by cases hf
  | .map p q, hf => by cases hf
  | .slice e, _ => Rep.nilS

theorem zero_rel {ok : Nat → Prop} : (t : Ty) → All2 (VRel P w conc ok) (zeroCells t) (zeroVals t)
  | .unit => trivial
  | .pair x y => (zero_rel x).append (zero_rel y)
  | .int k => ⟨vrel_int _, trivial⟩
  | .bool => ⟨vrel_bool _, trivial⟩
  | .str => ⟨vrel_str _, trivial⟩
  | .fn1 p r => ⟨trivial, trivial⟩
  | .fn2 p q r => ⟨trivial, trivial⟩
  | .seq p => ⟨trivial, trivial⟩
  | .seq2 p q => ⟨trivial, trivial⟩
  | .map p q => ⟨trivial, trivial⟩
  | .slice e => ⟨rfl, trivial⟩

theorem zero_one : (t : Ty) → ∀ v ∈ zeroVals t, one v = true
  | .unit => by simp [zeroVals]
  | .pair a b => by
    intro v hv
    rcases List.mem_append.1 hv with hv | hv
    · exact zero_one a v hv
    · exact zero_one b v hv
  | .slice _ => by simp [zeroVals, one]
  | .int _ => by simp [zeroVals, one]
  | .bool => by simp [zeroVals, one]
  | .str => by simp [zeroVals, one]
  | .fn1 _ _ => by simp [zeroVals, one]
  | .fn2 _ _ _ => by simp [zeroVals, one]
  | .seq _ => by simp [zeroVals, one]
  | .seq2 _ _ => by simp [zeroVals, one]
  | .map _ _ => by simp [zeroVals, one]


theorem sets_eq (off : Nat) : (vs : List Value) → (k : Nat) → (cs : Array Value) → off + k + vs.length ≤ cs.size →
    ((vs.zipIdx k).foldl (fun cs (p : Value × Nat) => cs.setIfInBounds (off + p.2) p.1) cs).toList = cs.toList.take (off + k) ++ vs ++ cs.toList.drop (off + k + vs.length)
  | [], k, cs, h => by simp
  | v :: vs, k, cs, h => by
    simp only [List.length_cons] at h
    rw [List.zipIdx_cons, List.foldl_cons, sets_eq off vs (k + 1) _ (by simp; omega)]
    have hlt : off + k < cs.toList.length := by simp; omega
    have e1 : (cs.setIfInBounds (off + k) v).toList = cs.toList.set (off + k) v := by simp
    rw [e1, List.take_set, List.drop_set]
    have e2 : off + (k + 1) = (off + k) + 1 := by omega
    rw [e2, if_pos (by omega)]
    have e3 : (cs.toList.take (off + k + 1)).set (off + k) v = cs.toList.take (off + k) ++ [v] := by
      rw [List.take_succ_eq_append_getElem hlt, List.set_append_right _ _ (by rw [List.length_take]; omega)]
      have : (off + k) - (cs.toList.take (off + k)).length = 0 := by rw [List.length_take]; omega
      rw [this]; rfl
    rw [e3]
    simp only [List.length_cons, List.append_assoc, List.singleton_append, List.cons_append]
    rw [show off + k + 1 + vs.length = off + k + (vs.length + 1) from by omega, List.nil_append]

theorem fill_step {place : Nat → Option (Nat × Nat)} {cells : Array Value} {i o n : Nat} {v : Value} {rest : List (Nat × Value)} {vs : List Value} (hp : place i = some (o, n)) (hv : v.cells.toList = vs) (hn : vs.length = n)
    (hs : o + n ≤ cells.size) : Instr.fill place cells ((i, v) :: rest) = Instr.fill place (cells.toList.take o ++ vs ++ cells.toList.drop (o + n)).toArray rest := by
  have hsz : v.cells.size = n := by rw [← hn, ← hv]; simp
  rw [Instr.fill, hp]
  dsimp only
  rw [if_neg (by rw [hsz]; simp; omega)]
  congr 1
  apply Array.ext'
  have := sets_eq o vs 0 cells (by rw [hn]; omega)
  rw [Nat.add_zero, hn] at this
  rw [← Array.foldl_toList]
  simp only [Array.toList_zipIdx, hv]
  exact this

theorem All2.splice {α β : Type} {R : α → β → Prop} {l m : List α} {l' m' : List β} (o n : Nat) (h : All2 R l l') (h' : All2 R m m') : All2 R (l.take o ++ m ++ l.drop (o + n)) (l'.take o ++ m' ++ l'.drop (o + n)) :=
  ((h.take o).append h').append (h.drop (o + n))

theorem buildL_sound (h : Mod P w0 conc st a w) {L : List (Nat × Bool)} (hl : labs a.tmps L) {te : TyE} : {ps : List (Nat × Operand)} → {cells l : List AVal} → {cs : Array Value} →
    (buildL L te cells ps).run st = some l → All2 (VRel P w conc (okOf conc)) cells cs.toList → (∀ v ∈ cs.toList, one v = true) →
    ∃ cs', Instr.fill (fun i => (placesOf te.nf te.ty)[i]?) cs (ps.map fun p => (p.1, a.eval p.2)) = some cs' ∧ All2 (VRel P w conc (okOf conc)) l cs'.toList ∧ (∀ v ∈ cs'.toList, one v = true)
  | [], cells, l, cs, hr, hv, h1 => by cases hr; exact ⟨cs, rfl, hv, h1⟩
  | (i, x) :: ps, cells, l, cs, hr, hv, h1 => by
    simp only [buildL] at hr
    obtain ⟨s, g1, hr⟩ := RM.bind_some hr
    obtain ⟨m, g2, hr⟩ := RM.bind_some hr
    cases hp : (placesOf te.nf te.ty)[i]? with
    | none => rw [hp] at hr; cases hr
    | some q =>
      obtain ⟨o, n⟩ := q
      rw [hp] at hr
      obtain ⟨g3, hr⟩ := cond_some hr
      simp only [Bool.and_eq_true] at g3
      have k1 := nbeq_true g3.1
      have k2 : o + n ≤ cells.length := by simpa using g3.2
      obtain ⟨vs, e1, e2, e3⟩ := cells_spec g2 (rd_rel h hl g1)
      have hlen := hv.length
      have hlen2 := e3.length
      have hnv : vs.length = n := by omega
      have := buildL_sound h hl (cs := (cs.toList.take o ++ vs ++ cs.toList.drop (o + n)).toArray) hr (hv.splice o n e3) (by
        intro v hv'
        simp only [List.mem_append] at hv'
        rcases hv' with (hv' | hv') | hv'
        · exact h1 v (List.mem_of_mem_take hv')
        · exact e2 v hv'
        · exact h1 v (List.mem_of_mem_drop hv'))
      obtain ⟨cs', f1, f2, f3⟩ := this
      refine ⟨cs', ?_, f2, f3⟩
      rw [List.map_cons, fill_step hp e1 hnv (by simp at hlen ⊢; omega)]
      exact f1


theorem zeroValue_run {T : Nat} {te : TyE} (h : TyOK P T te) : (zeroValue T).run P w = .ok (te.ty.val (zeroVals te.ty)) w := by
  obtain ⟨i, h1, _, _, h2, _⟩ := h.info
  simp [zeroValue, typeInfo, h1, h2]

theorem build_sound (hE : EnvOK P E) (h : Mod P w0 conc st a w) {L : List (Nat × Bool)} (hl : labs a.tmps L) {T : Nat} {te : TyE} (hT : Map.get E.G T = some te) (hf : te.ty.noFn = true) (hp : te.ty.isPair = true)
    {ps : Array (Nat × Operand)} {l : List AVal} (hr : (buildL L te (zeroCells te.ty) ps.toList).run st = some l) :
    ∃ v, (Instr.build T (ps.map fun (i, x) => (i, a.eval x))).run P w = .ok v w ∧ SRel P w conc (okOf conc) (.comp l) v := by
  have hok := hE.ty T te hT
  obtain ⟨i, h1, _, _, h2, _⟩ := hok.info
  have hd := hok.desc
  have hst : ∃ fs, P.underlying T = some (.struct fs) := by
    cases ht : te.ty <;> rw [ht] at hp hd <;> first | (cases hp; done) | skip
    obtain ⟨fs, hu, _⟩ := hd
    exact ⟨fs, hu⟩
  obtain ⟨fs, hu⟩ := hst
  obtain ⟨_, hpl⟩ := hok.fields fs hu
  have hz : (te.ty.val (zeroVals te.ty)).cells = (zeroVals te.ty).toArray := by simp [Ty.val, hp, Value.cells]
  obtain ⟨cs', f1, f2, f3⟩ := buildL_sound (cs := (zeroVals te.ty).toArray) h hl hr (by simpa using zero_rel te.ty) (by simpa using zero_one te.ty)
  refine ⟨.agg cs', run_build w T _ cs' ?_, cs'.toList, by simp, f3, f2⟩
  unfold Program.built
  simp only [h1, hu, h2, hpl, hz]
  have e : (ps.map fun (x : Nat × Operand) => (x.1, a.eval x.2)).toList = ps.toList.map fun p => (p.1, a.eval p.2) := by simp
  have e2 : (fun (i : Nat) => (placesOf te.nf te.ty).toArray[i]?) = fun (i : Nat) => (placesOf te.nf te.ty)[i]? := by funext i; simp
  rw [e2]
  rw [← e] at f1
  exact f1

end Go.Abs
