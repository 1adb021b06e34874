/- Operations that give a value. -/
import Derived.Laws.Strings
import Derived.Laws.Entries
import Derived.Laws.Cells
import Derived.Laws.Rows
import Derived.Test.YtbcbiemjokpghaaNAbsE
set_option linter.unusedSimpArgs false
set_option linter.unusedVariables false
namespace Go.Abs
open Go
variable {P : Program} {E : Env} {w0 : Start} {w : World} {conc : Conc} {st : ASt} {a : Act}

theorem addr_add (b off n : Nat) : (⟨b, off, none⟩ : Addr).add n = ⟨b, off + n, none⟩ := by
  unfold Addr.add
  split
  · rename_i h; rw [h]; rfl
  · rfl

theorem run_sz {T : Nat} {te : TyE} (h : TyOK P T te) : (sizeOf T).run P w = .ok te.ty.sz w := by
  obtain ⟨i, h1, h2, _⟩ := h.info
  simp [sizeOf, typeInfo, h1, h2]

theorem run_agg {T : Nat} {te : TyE} (h : TyOK P T te) (hu : te.ty ≠ .unit) : (isAgg T).run P w = .ok te.ty.isPair w := by
  have hd := h.desc
  unfold isAgg
  rw [Sem.run_bind]
  cases ht : te.ty <;> rw [ht] at hd hu <;> dsimp only at hd
  · rw [run_underlying hd w]; rfl
  · rw [run_underlying hd w]; rfl
  · rw [run_underlying hd w]; rfl
  · exact absurd rfl hu
  · obtain ⟨T', hd, _⟩ := hd; rw [run_underlying hd w]; rfl
  · obtain ⟨fs, hd, _⟩ := hd; rw [run_underlying hd w]; rfl
  · obtain ⟨ps, rs, v, hd⟩ := hd; rw [run_underlying hd w]; rfl
  · obtain ⟨ps, rs, v, hd⟩ := hd; rw [run_underlying hd w]; rfl
  · obtain ⟨ps, rs, v, hd⟩ := hd; rw [run_underlying hd w]; rfl
  · obtain ⟨ps, rs, v, hd⟩ := hd; rw [run_underlying hd w]; rfl
  · obtain ⟨K, V, hd, _⟩ := hd; rw [run_underlying hd w]; rfl

theorem sz_one {t : Ty} (hp : t.isPair = false) (hu : t ≠ .unit) : t.sz = 1 := by
  cases t <;> first | rfl | exact absurd rfl hu | cases hp

theorem chunk_one {l : List Value} {off : Nat} (h : off < l.length) : chunk l off 1 = [l[off]] := by
  unfold chunk
  rw [List.drop_eq_getElem_cons h]; rfl

theorem chunk_length {l : List Value} {off n : Nat} (h : off + n ≤ l.length) : (chunk l off n).length = n := by
  unfold chunk
  rw [List.length_take, List.length_drop]; omega

theorem chunk_get {l : List Value} {off n j : Nat} {v : Value} (h : (chunk l off n)[j]? = some v) : j < n ∧ l[off + j]? = some v := by
  unfold chunk at h
  rw [List.getElem?_take] at h
  split at h
  · rename_i hj
    rw [List.getElem?_drop] at h
    exact ⟨hj, h⟩
  · cases h

/-- Part of a block, loaded. -/
theorem run_loadVar {T : Nat} {te : TyE} (h : TyOK P T te) (hu : te.ty ≠ .unit) {b off : Nat} {cs : Array Value} {U : Nat} {fr : Nat × Nat} (hb : w.heap[b]? = some (.cells cs U fr))
    (hs : off + te.ty.sz ≤ cs.size) : (loadVar T ⟨b, off, none⟩).run P w = .ok (te.ty.val (chunk cs.toList off te.ty.sz)) w := by
  unfold loadVar
  rw [Sem.run_bind, run_agg h hu]
  simp only [Result.andThen_ok]
  by_cases hp : te.ty.isPair = true
  · rw [if_pos hp, Sem.run_bind, run_sz h]
    simp only [Result.andThen_ok]
    have hl : (chunk cs.toList off te.ty.sz).length = te.ty.sz := chunk_length (by simpa using hs)
    have := run_loadCells_list (P := P) w ⟨b, off, none⟩ (chunk cs.toList off te.ty.sz) fun j v hj => by
      obtain ⟨h1, h2⟩ := chunk_get hj
      rw [addr_add, cell_of_row w b (off + j) cs U fr hb]
      simpa using h2
    rw [hl] at this
    rw [Sem.run_bind, this]
    simp [Ty.val, hp]
  · have hp' : te.ty.isPair = false := by simpa using hp
    have h1 := sz_one hp' hu
    rw [h1] at hs
    have hs' : off < cs.size := by omega
    rw [if_neg hp, run_load, cell_of_row w b off cs U fr hb, h1, chunk_one (by simpa using hs')]
    have : cs[off]? = some (cs.toList[off]'(by simpa using hs')) := by
      rw [Array.getElem?_eq_getElem (by omega)]; simp
    rw [this]
    simp [Ty.val, hp']

theorem labs_nil (t : Array Value) : labs t [] := fun _ h => by simp at h

theorem ite_some {α : Type} {c : Prop} [Decidable c] {m : RM α} {y : α} (h : (if c then m else .fail).run st = some y) : c ∧ m.run st = some y := by
  split at h
  · rename_i hc; exact ⟨hc, h⟩
  · cases h

theorem part_true {α : Type} (m : Option α) (d : α) : part true m d = m := rfl

theorem mk_toList (x : List UInt8) : (ByteArray.mk ⟨x⟩).toList = x := ByteArray.toList_mk x

/-- Int operands. -/
theorem rep_int {k : IntKind} {ok : Nat → Prop} {vs : List Value} {x : Int} {v : Value} (hv : v = (Ty.int k).val vs) (h : Rep P (.int k) w ok vs x) : v = .int k x := by
  simp only [Rep] at h
  subst h
  rw [hv]; rfl
theorem rep_str {ok : Nat → Prop} {vs : List Value} {x : List UInt8} {v : Value} (hv : v = Ty.str.val vs) (h : Rep P .str w ok vs x) : v = .string ⟨⟨x⟩⟩ := by
  simp only [Rep] at h
  subst h
  rw [hv]; rfl
theorem rep_bool {ok : Nat → Prop} {vs : List Value} {x : Bool} {v : Value} (hv : v = Ty.bool.val vs) (h : Rep P .bool w ok vs x) : v = .bool x := by
  simp only [Rep] at h
  subst h
  rw [hv]; rfl

theorem vrel_int {k : IntKind} {ok : Nat → Prop} (n : Int) : VRel P w conc ok (.pure (.int k) n) (.int k n) := ⟨[.int k n], rfl, rfl⟩
theorem vrel_bool {ok : Nat → Prop} (n : Bool) : VRel P w conc ok (.pure .bool n) (.bool n) := ⟨[.bool n], rfl, rfl⟩
theorem vrel_str {ok : Nat → Prop} (s : List UInt8) : VRel P w conc ok (.pure .str s) (.string ⟨⟨s⟩⟩) := ⟨[.string ⟨⟨s⟩⟩], rfl, rfl⟩

theorem intOp_sound {op : BinOp} {k : IntKind} {x y : Int} {r : AVal} {T : Nat} {ok : Nat → Prop} (X Y : Operand) (hr : (intOp true op k x y).run st = some r) :
    ∃ v, (do eqGuard op T X Y (.int k x) (.int k y); Go.binOp op T (.int k x) (.int k y)).run P w = .ok v w ∧ VRel P w conc ok r v := by
  cases op <;> simp only [intOp] at hr
  case quo =>
    obtain ⟨q, h1, h2⟩ := RM.opt_some hr
    cases h2
    rw [part_true, qdiv] at h1
    split at h1
    · cases h1
    · rename_i hy
      cases h1
      exact ⟨_, by simp [eqGuard, Go.binOp, Op.intDiv, hy], vrel_int _⟩
  case rem =>
    obtain ⟨q, h1, h2⟩ := RM.opt_some hr
    cases h2
    rw [part_true, qrem] at h1
    split at h1
    · cases h1
    · rename_i hy
      cases h1
      exact ⟨_, by simp [eqGuard, Go.binOp, Op.intDiv, hy], vrel_int _⟩
  all_goals cases hr
  case add => exact ⟨_, by simp [eqGuard, Go.binOp, Op.intArith], vrel_int _⟩
  case sub => exact ⟨_, by simp [eqGuard, Go.binOp, Op.intArith], vrel_int _⟩
  case mul => exact ⟨_, by simp [eqGuard, Go.binOp, Op.intArith], vrel_int _⟩
  all_goals exact ⟨.bool _, by simp only [eqGuard, Go.binOp, Op.intCmp, ne_eq, not_true_eq_false, if_false]; rfl, vrel_bool _⟩

theorem strOp_sound {op : BinOp} {x y : List UInt8} {r : AVal} {T : Nat} {ok : Nat → Prop} (X Y : Operand) (hr : (strOp true op x y).run st = some r) :
    ∃ v, (do eqGuard op T X Y (.string ⟨⟨x⟩⟩) (.string ⟨⟨y⟩⟩); Go.binOp op T (.string ⟨⟨x⟩⟩) (.string ⟨⟨y⟩⟩)).run P w = .ok v w ∧ VRel P w conc ok r v := by
  cases op <;> simp only [strOp] at hr
  case add =>
    obtain ⟨q, h1, h2⟩ := RM.opt_some hr
    cases h2
    rw [part_true, chk] at h1
    split at h1
    · rename_i hm
      unfold most at hm
      refine ⟨.string ⟨⟨x ++ y⟩⟩, ?_, vrel_str _⟩
      have hsz : ¬ ((((⟨⟨x⟩⟩ : ByteArray).size + (⟨⟨y⟩⟩ : ByteArray).size : Nat) : Int) > IntKind.i64.max) := by
        have e : IntKind.i64.max = 9223372036854775807 := by decide
        rw [e]
        simp only [ByteArray.size, List.size_toArray]
        omega
      have e2 : (⟨⟨x⟩⟩ : ByteArray) ++ ⟨⟨y⟩⟩ = ⟨⟨x ++ y⟩⟩ := by
        apply ByteArray.ext
        simp
      simp only [eqGuard, Go.binOp, Op.stringOp, hsz, e2, if_false]
      rfl
    · cases h1
  all_goals first | (cases hr; done) | skip
  all_goals cases hr
  all_goals exact ⟨.bool _, by simp only [eqGuard, Go.binOp, Op.stringOp, mk_toList]; rfl, vrel_bool _⟩


theorem run_equal_bool {T : Nat} (hu : P.underlying T = some .bool) (x y : Bool) : (Op.equal T (.bool x) (.bool y)).run P w = .ok (x == y) w := by
  have : ∀ d, (Op.equalIn (d + 1) T (.bool x) (.bool y)).run P w = .ok (x == y) w := by
    intro d
    rw [Op.equalIn, Sem.run_bind, run_underlying hu]
    rfl
  exact this 9999

theorem run_binOp_bool {T : Nat} (hu : P.underlying T = some .bool) (x y : Bool) (X Y : Operand) :
    (do eqGuard .eql T X Y (.bool x) (.bool y); Go.binOp .eql T (.bool x) (.bool y)).run P w = .ok (.bool (x == y)) w ∧
    (do eqGuard .neq T X Y (.bool x) (.bool y); Go.binOp .neq T (.bool x) (.bool y)).run P w = .ok (.bool (!(x == y))) w := by
  have h := run_equal_bool (w := w) hu x y
  constructor
  · have : (do eqGuard .eql T X Y (.bool x) (.bool y); Go.binOp .eql T (.bool x) (.bool y)) = (do let b ← Op.equal T (.bool x) (.bool y); pure (.bool b)) := rfl
    rw [this, Sem.run_bind, h]; rfl
  · have : (do eqGuard .neq T X Y (.bool x) (.bool y); Go.binOp .neq T (.bool x) (.bool y)) = (do let b ← Op.equal T (.bool x) (.bool y); pure (.bool (!b))) := rfl
    rw [this, Sem.run_bind, h]; rfl

theorem peek_int (hE : EnvOK P E) (h : Mod P w0 conc st a w) {k : IntKind} {s : SVal} {v : Value} {d : Int × W} (hr : (peek E (.int k) s).run st = some d) (hv : SRel P w conc (okOf conc) s v) : v = .int k d.1 := by
  obtain ⟨vs, h1, h2⟩ := peek_spec hE h hr hv
  exact rep_int h1 h2.any
theorem peek_str (hE : EnvOK P E) (h : Mod P w0 conc st a w) {s : SVal} {v : Value} {d : List UInt8 × W} (hr : (peek E .str s).run st = some d) (hv : SRel P w conc (okOf conc) s v) : v = .string ⟨⟨d.1⟩⟩ := by
  obtain ⟨vs, h1, h2⟩ := peek_spec hE h hr hv
  exact rep_str h1 h2.any

theorem eqOp_sound (hE : EnvOK P E) (h : Mod P w0 conc st a w) {op : BinOp} {t : Ty} {s s' : SVal} {v v' : Value} {r : AVal} (hr : (eqOp E op t s s').run st = some r)
    (hv : SRel P w conc (okOf conc) s v) (hv' : SRel P w conc (okOf conc) s' v') :
    ∃ vs vs' d d' b, v = t.val vs ∧ v' = t.val vs' ∧ Rep P t w (fun _ => True) vs d ∧ Rep P t w (fun _ => True) vs' d' ∧ beqTy t d d' = some b ∧ ((op = .eql ∧ r = .pure .bool b) ∨ (op = .neq ∧ r = .pure .bool (!b))) := by
  unfold eqOp at hr
  obtain ⟨d, g1, g2⟩ := RM.bind_some hr
  obtain ⟨d', g3, g4⟩ := RM.bind_some g2
  obtain ⟨vs, e1, e2⟩ := peek_spec hE h g1 hv
  obtain ⟨vs', e3, e4⟩ := peek_spec hE h g3 hv'
  cases hb : beqTy t d.1 d'.1 with
  | none => simp only [hb] at g4; cases g4
  | some b =>
    simp only [hb] at g4
    refine ⟨vs, vs', d.1, d'.1, b, e1, e3, e2.any, e4.any, hb, ?_⟩
    cases op <;> first | (cases g4; done) | skip
    · cases g4; exact .inl ⟨rfl, rfl⟩
    · cases g4; exact .inr ⟨rfl, rfl⟩

theorem binOp_sound (hE : EnvOK P E) (h : Mod P w0 conc st a w) {op : BinOp} {T : Nat} {s s' : SVal} {v v' : Value} {r : AVal} (X Y : Operand) (hr : (binOp E true op T s s').run st = some r)
    (hv : SRel P w conc (okOf conc) s v) (hv' : SRel P w conc (okOf conc) s' v') :
    ∃ u, (do eqGuard op T X Y v v'; Go.binOp op T v v').run P w = .ok u w ∧ VRel P w conc (okOf conc) r u := by
  unfold binOp at hr
  split at hr
  · rename_i k hT
    obtain ⟨x, g1, g2⟩ := RM.bind_some hr
    obtain ⟨y, g3, g4⟩ := RM.bind_some g2
    rw [peek_int hE h g1 hv, peek_int hE h g3 hv']
    exact intOp_sound X Y g4
  · obtain ⟨x, g1, g2⟩ := RM.bind_some hr
    obtain ⟨y, g3, g4⟩ := RM.bind_some g2
    rw [peek_str hE h g1 hv, peek_str hE h g3 hv']
    exact strOp_sound X Y g4
  · rename_i hT
    obtain ⟨vs, vs', d, d', b, e1, e2, e3, e4, e5, e6⟩ := eqOp_sound hE h hr hv hv'
    rw [rep_bool e1 e3, rep_bool e2 e4]
    have hu : P.underlying T = some .bool := by
      unfold Env.ty at hT
      cases hg : Map.get E.G T with
      | none => rw [hg] at hT; cases hT
      | some te =>
        rw [hg] at hT
        have := (hE.ty T te hg).desc
        cases te with
        | mk ty nf => simp at hT; subst hT; exact this
    simp only [beqTy, Option.some.injEq] at e5
    subst e5
    rcases e6 with ⟨rfl, rfl⟩ | ⟨rfl, rfl⟩
    · exact ⟨_, (run_binOp_bool hu d d' X Y).1, vrel_bool _⟩
    · exact ⟨_, (run_binOp_bool hu d d' X Y).2, vrel_bool _⟩
  · rename_i p q hT
    cases hq : Map.get E.Q T with
    | none => simp only [hq] at hr; cases hr
    | some t =>
      simp only [hq] at hr
      obtain ⟨rfl, hr'⟩ := ite_some hr
      obtain ⟨vs, vs', d, d', b, e1, e2, e3, e4, e5, e6⟩ := eqOp_sound hE h hr' hv hv'
      obtain ⟨k1, k2⟩ := hE.eq T _ hq w _ vs vs' d d' b e3 e4 e5 X Y
      rw [e1, e2]
      rcases e6 with ⟨rfl, rfl⟩ | ⟨rfl, rfl⟩
      · exact ⟨_, k1, vrel_bool _⟩
      · exact ⟨_, k2, vrel_bool _⟩
  · cases hr

end Go.Abs
