/- What is read: the values that the evaluator reads are those in the frame and in memory. -/
import Derived.Test.YtbcbiemjokpghaaNAbsC
set_option linter.unusedSimpArgs false
set_option linter.unusedVariables false
namespace Go.Abs
open Go
variable {P : Program}

namespace RM
variable {α β : Type}
theorem run_bind (m : RM α) (k : α → RM β) (st : ASt) : (m.bind k).run st = (m.run st).bind fun x => (k x).run st := by
  induction m with
  | ret b => rfl
  | fail => rfl
  | slot d f ih => simp only [RM.bind, RM.run, ih]
  | obj id f ih => simp only [RM.bind, RM.run, ih]
  | opt γ m f ih => cases m <;> simp [RM.bind, RM.run, ih]

theorem runK_eq {R : Type} (m : RM β) (st : ASt) (K : β → Option R) : m.runK st K = (m.run st).bind K := by
  induction m with
  | ret b => rfl
  | fail => rfl
  | slot d f ih => simp only [RM.runK, RM.run, ih]
  | obj id f ih => simp only [RM.runK, RM.run, ih]
  | opt γ m f ih => cases m <;> simp [RM.runK, RM.run, ih]

theorem bind_some {m : RM α} {k : α → RM β} {st : ASt} {y : β} (h : (m.bind k).run st = some y) : ∃ x, m.run st = some x ∧ (k x).run st = some y := by
  rw [run_bind] at h
  cases hm : m.run st with
  | none => rw [hm] at h; cases h
  | some x => rw [hm] at h; exact ⟨x, rfl, h⟩

theorem opt_some {γ : Type} {m : Option γ} {f : γ → RM β} {st : ASt} {y : β} (h : (RM.opt γ m f).run st = some y) : ∃ x, m = some x ∧ (f x).run st = some y := by
  cases m with
  | none => cases h
  | some x => exact ⟨x, rfl, h⟩

theorem ofOpt_some {m : Option β} {st : ASt} {y : β} (h : (RM.ofOpt m).run st = some y) : m = some y := by
  cases m with
  | none => cases h
  | some x => exact h
end RM

theorem castTy_some {t t' : Ty} {d : t.den} {x : t'.den} (h : castTy d = some x) : ∃ e : t = t', x = e ▸ d := by
  unfold castTy at h
  split at h
  · rename_i e; exact ⟨e, by cases h; rfl⟩
  · cases h

theorem cond_some {α : Type} {b : Bool} {st : ASt} {m : RM α} {y : α} (h : (bif b then m else .fail).run st = some y) : b = true ∧ m.run st = some y := by
  cases b with
  | false => cases h
  | true => exact ⟨rfl, h⟩

theorem nbeq_true {a b : Nat} (h : Nat.beq a b = true) : a = b := by rw [nbeq] at h; simpa using h

theorem labOk_imp {tmps : Array Value} {L' L : List (Nat × Bool)} (h : labOk L' L = true) (hl : labs tmps L) : labs tmps L' := by
  intro p hp
  unfold labOk at h
  obtain ⟨q, hq, he⟩ := List.any_eq_true.1 (List.all_eq_true.1 h p hp)
  simp only [Bool.and_eq_true] at he
  have e1 := nbeq_true he.1
  have e2 : p.2 = q.2 := by
    have := he.2
    cases hp2 : p.2 <;> cases hq2 : q.2 <;> simp [hp2, hq2] at this ⊢
  rw [e1, e2]
  exact hl q hq

theorem ofConst_rel {w : World} {conc : Conc} {ok : Nat → Prop} {v : Value} {a : AVal} (h : AVal.ofConst v = some a) : VRel P w conc ok a v := by
  unfold AVal.ofConst at h
  split at h
  · cases h; exact ⟨_, rfl, rfl⟩
  · cases h; exact ⟨_, rfl, rfl⟩
  · cases h; exact ⟨_, rfl, rfl⟩
  · cases h; exact rfl
  · cases h; exact trivial
  · cases h

theorem ofConsts_rel {w : World} {conc : Conc} {ok : Nat → Prop} : {vs : List Value} → {l : List AVal} → ofConsts vs = some l → All2 (VRel P w conc ok) l vs
  | [], l, h => by cases h; trivial
  | v :: vs, l, h => by
    simp only [ofConsts] at h
    split at h
    · rename_i a m h1 h2
      cases h
      exact ⟨ofConst_rel h1, ofConsts_rel h2⟩
    · cases h

theorem ofConst_one {v : Value} {a : AVal} (h : AVal.ofConst v = some a) : one v = true := by
  unfold AVal.ofConst at h
  split at h
  · rfl
  · rfl
  · rfl
  · rfl
  · rfl
  · cases h

theorem ofConsts_one : {vs : List Value} → {l : List AVal} → ofConsts vs = some l → ∀ v ∈ vs, one v = true
  | [], l, h => by simp
  | v :: vs, l, h => by
    simp only [ofConsts] at h
    split at h
    · rename_i a m h1 h2
      cases h
      intro u hu
      rcases List.mem_cons.1 hu with rfl | hu
      · exact ofConst_one h1
      · exact ofConsts_one h2 u hu
    · cases h

theorem SofConst_rel {w : World} {conc : Conc} {ok : Nat → Prop} {v : Value} {s : SVal} (h : SVal.ofConst v = some s) : SRel P w conc ok s v := by
  unfold SVal.ofConst at h
  split at h
  · rename_i cs
    cases hc : ofConsts cs.toList with
    | none => rw [hc] at h; cases h
    | some l =>
      rw [hc] at h; cases h
      exact ⟨cs.toList, by simp, ofConsts_one hc, ofConsts_rel hc⟩
  · cases hc : AVal.ofConst v with
    | none => rw [hc] at h; cases h
    | some a => rw [hc] at h; cases h; exact ofConst_rel hc

section
variable {w0 : Start} {w : World} {conc : Conc} {st : ASt} {a : Act}

theorem rd_rel (h : Mod P w0 conc st a w) {L : List (Nat × Bool)} (hl : labs a.tmps L) {x : Operand} {s : SVal} (hr : (rd L x).run st = some s) :
    SRel P w conc (okOf conc) s (a.eval x) := by
  cases x with
  | tmp t =>
    simp only [rd, RM.run] at hr
    cases hs : Map.get st.slots t with
    | none => rw [hs] at hr; cases hr
    | some sl =>
      rw [hs] at hr
      obtain ⟨h1, h2⟩ := cond_some hr
      cases h2
      obtain ⟨v, g1, g2⟩ := h.slots t sl hs
      have : a.eval (.tmp t) = v := by simp [Act.eval, g1]
      rw [this]
      exact (g2.yes (labOk_imp h1 hl)).2
  | const v => exact SofConst_rel (RM.ofOpt_some hr)
  | func f => cases hr; exact rfl
  | global g => cases hr

theorem rdA_rel (h : Mod P w0 conc st a w) {L : List (Nat × Bool)} (hl : labs a.tmps L) {x : Operand} {b : AVal} (hr : (rdA L x).run st = some b) :
    VRel P w conc (okOf conc) b (a.eval x) := by
  obtain ⟨s, h1, h2⟩ := RM.bind_some hr
  have := rd_rel h hl h1
  cases s with
  | v c => cases h2; exact this
  | comp l => cases h2
  | tup l => cases h2

theorem rdS_rel (h : Mod P w0 conc st a w) {L : List (Nat × Bool)} (hl : labs a.tmps L) : {xs : List Operand} → {l : List SVal} → (rdS L xs).run st = some l →
    All2 (SRel P w conc (okOf conc)) l (xs.map a.eval)
  | [], l, hr => by cases hr; trivial
  | x :: xs, l, hr => by
    obtain ⟨s, h1, h2⟩ := RM.bind_some hr
    obtain ⟨m, h3, h4⟩ := RM.bind_some h2
    cases h4
    exact ⟨rd_rel h hl h1, rdS_rel h hl h3⟩

/-- What is known of an object. -/
theorem obj_rel (h : Mod P w0 conc st a w) {id cv : Nat} {o : AObj} (ho : Map.get st.heap id = some (cv, o)) :
    ∃ c ow, conc id = some (cv, c, ow) ∧ ORel P w conc (okOf conc) c ow o := h.heap id cv o ho

/-- A piece of data, if the objects of F are written no more. -/
def Peeked (P : Program) (conc : Conc) (st : ASt) (w : World) (t : Ty) (d : t.den) (vs : List Value) (l : W) : Prop :=
  ∀ F, (∀ id ∈ ids l, id ∈ F) → FrzW P conc st w F l ∧ Rep P t w (okOf (frzL conc F)) vs d

theorem Rep.frz {t : Ty} {d : t.den} {vs : List Value} (h : Rep P t w (okOf conc) vs d) (F : List Nat) : Rep P t w (okOf (frzL conc F)) vs d :=
  h.mono t ⟨Nat.le_refl _, fun _ _ _ => rfl⟩ (frzL_sub w conc F)

theorem Rep.nilS {e : Ty} {ok : Nat → Prop} : Rep P (.slice e) w ok [.slice none 0 0] ([] : List e.den) :=
  ⟨none, 0, rfl, Nat.le_refl _, .inl rfl⟩

/-- A buffer that is written no more. -/
theorem buf_frz (h : Mod P w0 conc st a w) {id cv : Nat} {e : Ty} {l : List e.den} {c : Value} {ow : Bool} (hc : conc id = some (cv, c, ow)) (ho : ORel P w conc (okOf conc) c ow (.buf e l))
    {F : List Nat} (hF : id ∈ F) : ow = true ∧ Rep P (.slice e) w (okOf (frzL conc F)) [c] l := by
  obtain ⟨rfl, ho⟩ := ho
  refine ⟨rfl, ?_⟩
  rcases ho with ⟨rfl, rfl⟩ | ⟨b, off, cap, cs, T, rfl, h2, h3, h4, h5, h6⟩
  · exact Rep.nilS
  · refine ⟨some ⟨b, off, none⟩, cap, rfl, h3, .inr ⟨b, off, cs, T, (0, 0), rfl, okOf_frz h hF hc rfl, h2, ?_, fun i x hi => ?_⟩⟩
    · exact Nat.le_trans (Nat.add_le_add_left (Nat.mul_le_mul_right _ h3) _) h5
    · exact (h6 i x hi).frz F

theorem map_frz (h : Mod P w0 conc st a w) {id cv : Nat} {k u : Ty} {l : List (k.den × u.den)} {c : Value} {ow : Bool} (hc : conc id = some (cv, c, ow)) (ho : ORel P w conc (okOf conc) c ow (.map k u l))
    {F : List Nat} (hF : id ∈ F) : ow = true ∧ Rep P (.map k u) w (okOf (frzL conc F)) [c] l := by
  obtain ⟨rfl, b, es, clock, rfl, h2, h3, h4⟩ := ho
  refine ⟨rfl, b, es, clock, rfl, okOf_frz h hF hc rfl, h2, h3, fun i x e hi he => ?_⟩
  obtain ⟨⟨ks, g1, g2⟩, us, g3, g4⟩ := h4 i x e hi he
  exact ⟨⟨ks, g1, g2.frz F⟩, us, g3, g4.frz F⟩

theorem fbuf_rep {e : Ty} {l : List e.den} {c : Value} {ow : Bool} (ho : ORel P w conc (okOf conc) c ow (.fbuf e l)) : Rep P (.slice e) w (okOf conc) [c] l := ho.2

end

/-! Contracts. -/

def ArgsRep (P : Program) (w : World) (ok : Nat → Prop) : (ts : List Ty) → List Value → denL ts → Prop
  | [], vs, _ => vs = []
  | [t], vs, x => ∃ cs, vs = [t.val cs] ∧ Rep P t w ok cs x
  | t :: u :: ts, vs, (x, y) => ∃ cs r, vs = t.val cs :: r ∧ Rep P t w ok cs x ∧ ArgsRep P w ok (u :: ts) r y

def PtrRep (P : Program) (w : World) (ok : Nat → Prop) (t : Ty) (v : Value) (d : t.den) : Prop :=
  ∃ b off cs T fr, v = .pointer (some ⟨b, off, none⟩) ∧ ok b ∧ w.heap[b]? = some (.cells cs T fr) ∧ off + t.sz ≤ cs.size ∧ Rep P t w ok (chunk cs.toList off t.sz) d

def CapsRep (P : Program) (w : World) (ok : Nat → Prop) : (ts : List Ty) → List Value → denL ts → Prop
  | [], vs, _ => vs = []
  | [t], vs, x => ∃ v, vs = [v] ∧ PtrRep P w ok t v x
  | t :: u :: ts, vs, (x, y) => ∃ v r, vs = v :: r ∧ PtrRep P w ok t v x ∧ CapsRep P w ok (u :: ts) r y

def ResRep (P : Program) (w : World) (ok : Nat → Prop) : (ts : List Ty) → Value → denL ts → Prop
  | [], v, _ => v = .tuple #[]
  | [t], v, x => ∃ cs, v = t.val cs ∧ Rep P t w ok cs x
  | t :: u :: ts, v, r => ∃ vs, v = .tuple vs.toArray ∧ ArgsRep P w ok (t :: u :: ts) vs r

/-- A slice in a block that no other data lie in. -/
def FreshRep (P : Program) (size : Nat) (w : World) (ok : Nat → Prop) (e : Ty) (v : Value) (l : List e.den) : Prop :=
  (v = .slice none 0 0 ∧ l = []) ∨ ∃ b off cap cs T, v = .slice (some ⟨b, off, none⟩) l.length cap ∧ size ≤ b ∧ w.heap[b]? = some (.cells cs T (0, 0)) ∧ l.length ≤ cap ∧ cap ≤ maxLen ∧
      off + cap * e.sz ≤ cs.size ∧ ∀ i x, l[i]? = some x → Rep P e w (fun b' => ok b' ∧ b' ≠ b) (chunk cs.toList (off + i * e.sz) e.sz) x

/-- The cells of data whose slices lie in blocks of their own: bs. -/
def FreshT (P : Program) (size : Nat) (w : World) (ok : Nat → Prop) : (t : Ty) → List Value → t.den → List Nat → Prop
  | .slice e, vs, l, bs => (vs = [.slice none 0 0] ∧ l = [] ∧ bs = []) ∨ ∃ b off cap cs T, vs = [.slice (some ⟨b, off, none⟩) l.length cap] ∧ bs = [b] ∧ size ≤ b ∧ w.heap[b]? = some (.cells cs T (0, 0)) ∧ l.length ≤ cap ∧ cap ≤ maxLen ∧
      off + cap * e.sz ≤ cs.size ∧ ∀ i x, l[i]? = some x → Rep P e w ok (chunk cs.toList (off + i * e.sz) e.sz) x
  | .pair a b, vs, (x, y), bs => ∃ b1 b2, bs = b1 ++ b2 ∧ FreshT P size w ok a (vs.take a.sz) x b1 ∧ FreshT P size w ok b (vs.drop a.sz) y b2
  | t, vs, d, bs => bs = [] ∧ Rep P t w ok vs d

def FreshP (P : Program) (size : Nat) (w : World) (ok : Nat → Prop) (t : Ty) (v : Value) (d : t.den) : Prop :=
  ∃ vs bs, v = t.val vs ∧ (∀ v ∈ vs, one v = true) ∧ bs.Nodup ∧ vs.length = t.sz ∧ FreshT P size w (fun b => ok b ∧ b ∉ bs) t vs d bs

def FreshC (P : Program) (size : Nat) (w : World) (ok : Nat → Prop) : (ts : List Ty) → Value → denL ts → Prop
  | [.slice e], v, l => FreshRep P size w ok e v l
  | [.pair a b], v, x => FreshP P size w ok (.pair a b) v x
  | _, _, _ => True

def ConOK (P : Program) (f : Nat) (c : Con) : Prop :=
  Bodied P f ∧ ∀ w ok vs cs x y r, ArgsRep P w ok c.ins vs x → CapsRep P w ok c.caps cs y → c.fn x y = some r →
    Calls P f (vs ++ cs).toArray w fun e w' => ∃ v, e = .returned v ∧ Keeps w w' ∧ ResRep P w' (newOk ok w) c.outs v r ∧ (c.fresh = true → FreshC P w.heap.size w' (newOk ok w) c.outs v r)

def zeroVals : Ty → List Value
  | .unit => []
  | .pair a b => zeroVals a ++ zeroVals b
  | .slice _ => [.slice none 0 0]
  | .int k => [.int k 0]
  | .bool => [.bool false]
  | .str => [.string ⟨⟨[]⟩⟩]
  | .fn1 _ _ | .fn2 _ _ _ | .seq _ | .seq2 _ _ => [.nilFunc]
  | .map _ _ => [.map none]

/-- What the program says of a type of this make, seen as an element. -/
def ElOK (P : Program) (T : Nat) (t : Ty) : Prop :=
  ∃ i, P.info? T = some i ∧ i.size = t.sz ∧ i.bytes ≤ 32768 ∧ i.zero = some (t.val (zeroVals t)) ∧ 0 < t.sz

/-- Keys that the evaluator knows. -/
def KeyOK (P : Program) (K : Nat) : Ty → Prop
  | .int q => P.underlying K = some (.int q)
  | _ => False

/-- The evaluator's tables are those of the program. -/
structure TyOK (P : Program) (T : Nat) (te : TyE) : Prop where
  info : ElOK P T te.ty
  desc : match te.ty with
    | .int k => P.underlying T = some (.int k)
    | .bool => P.underlying T = some .bool
    | .str => P.underlying T = some .string
    | .slice e => ∃ T', P.underlying T = some (.slice T') ∧ ElOK P T' e
    | .pair _ _ => ∃ fs, P.underlying T = some (.struct fs) ∧ fs.size = te.nf
    | .map k v => ∃ K V, P.underlying T = some (.map K V) ∧ KeyOK P K k ∧ ElOK P V v
    | _ => ∃ ps rs v, P.underlying T = some (.func ps rs v)
  fields : ∀ fs, P.underlying T = some (.struct fs) → (∀ i f, fs[i]? = some f → offOf te.nf i te.ty = some f.offset ∧ ∃ inf, P.info? f.type = some inf ∧ inf.size ≠ 0) ∧
    fs.toList.mapM (fun f => (P.info? f.type).map fun i => (f.offset, i.size)) = some (placesOf te.nf te.ty)
  bytes : te.ty = .slice (.int .u8) → ∃ T', P.underlying T = some (.slice T') ∧ P.underlying T' = some (.int .u8)

theorem TyOK.pos {P : Program} {T : Nat} {te : TyE} (h : TyOK P T te) : 0 < te.ty.sz := by obtain ⟨_, _, _, _, _, h⟩ := h.info; exact h

theorem TyOK.nounit {P : Program} {T : Nat} {te : TyE} (h : TyOK P T te) : te.ty ≠ .unit := fun e => by have := h.pos; rw [e] at this; cases this

/-- The function f, with its captured variables, yields what c says. -/
def IConOK (P : Program) (f : Nat) (c : ICon) : Prop :=
  c.out.isPair = false ∧ ∀ w ok cs y xs, CapsRep P w ok c.caps cs y → c.fn y = some xs → Rep P c.out w ok [.func (.func f) #[] cs.toArray] xs

structure EnvOK (P : Program) (E : Env) : Prop where
  ty : ∀ T te, Map.get E.G T = some te → TyOK P T te
  con : ∀ f c, Map.get E.C f = some c → ConOK P f c
  it : ∀ f c, Map.get E.I f = some c → IConOK P f c
  eq : ∀ T t, Map.get E.Q T = some t → ∀ w ok vs vs' d d' r, Rep P t w ok vs d → Rep P t w ok vs' d' → beqTy t d d' = some r → ∀ (x y : Operand),
    (do eqGuard .eql T x y (t.val vs) (t.val vs'); Go.binOp .eql T (t.val vs) (t.val vs')).run P w = .ok (.bool r) w ∧
    (do eqGuard .neq T x y (t.val vs) (t.val vs'); Go.binOp .neq T (t.val vs) (t.val vs')).run P w = .ok (.bool (!r)) w

section
variable {E : Env} {w0 : Start} {w : World} {conc : Conc} {st : ASt} {a : Act}

theorem Calls.imp {f : Nat} {args : Array Value} {R R' : Ending → World → Prop} (h : Calls P f args w R) (hr : ∀ e w', R e w' → R' e w') : Calls P f args w R' := Calls.mono h hr

/-- A function by its contract, as a piece of data. -/
theorem fn1_rep (hE : EnvOK P E) {f : Nat} {c : Con} {x r : Ty} {g : x.den → Option r.den} (hc : Map.get E.C f = some c) (hg : c.fn1? x r = some g) (ok : Nat → Prop) :
    Rep P (.fn1 x r) w ok [.func (.func f) #[] #[]] g := by
  unfold Con.fn1? at hg
  split at hg
  · rename_i a' r' fn fr
    split at hg
    · rename_i e
      obtain ⟨rfl, rfl⟩ := e
      cases hg
      obtain ⟨hb, hcall⟩ := hE.con f _ hc
      refine ⟨f, #[], #[], rfl, hb, fun w' ok' _ _ xs d hd y hy => ?_⟩
      have := hcall w' ok' [a'.val xs] [] d () y ⟨xs, rfl, hd⟩ rfl hy
      refine Calls.mono (by simpa using this) ?_
      rintro e w'' ⟨v, h1, h2, h3, _⟩
      obtain ⟨cs, h4, h5⟩ := h3
      exact ⟨cs, by rw [h1, h4], h2, h5⟩
    · cases hg
  · cases hg

theorem peekA_spec (hE : EnvOK P E) (h : Mod P w0 conc st a w) {t : Ty} {b : AVal} {v : Value} {d : t.den × W} (hr : (peekA E t b).run st = some d) (hv : VRel P w conc (okOf conc) b v) :
    ∃ vs, v = t.val vs ∧ Peeked P conc st w t d.1 vs d.2 := by
  cases b with
  | pure u x =>
    simp only [peekA] at hr
    split at hr
    · rename_i y hy
      cases hr
      obtain ⟨e, he⟩ := castTy_some hy
      subst e
      subst he
      obtain ⟨vs, h1, h2⟩ := hv
      exact ⟨vs, h1, fun F _ => ⟨FrzW.nil, h2.frz F⟩⟩
    · cases hr
  | nils =>
    simp only [peekA] at hr
    split at hr
    · cases hr
      exact ⟨[v], rfl, fun F _ => ⟨FrzW.nil, by rw [show v = _ from hv]; exact Rep.nilS⟩⟩
    · cases hr
  | hand id ver =>
    simp only [peekA, RM.run] at hr
    split at hr
    · rename_i cv e l ho
      obtain ⟨h1, h2⟩ := cond_some hr
      split at h2
      · rename_i x hx
        cases h2
        obtain ⟨e', he⟩ := castTy_some hx
        subst e'
        subst he
        have := nbeq_true h1
        subst this
        obtain ⟨c, ow, g1, g2⟩ := obj_rel h ho
        obtain ⟨cv', c', ow', k1, k2, _, k3⟩ := hv
        rw [g1] at k1; cases k1
        have hvc := k3 rfl
        subst hvc
        refine ⟨[v], rfl, fun F hF => ?_⟩
        obtain ⟨rfl, r⟩ := buf_frz h g1 g2 (hF id (by simp [ids]))
        refine ⟨?_, r⟩
        intro i cv' o hm
        simp only [List.mem_singleton, Prod.mk.injEq] at hm
        obtain ⟨rfl, rfl, rfl⟩ := hm
        exact ⟨⟨_, ho⟩, v, g1, rfl, r⟩
      · cases h2
    · rename_i cv e l ho
      obtain ⟨h1, h2⟩ := cond_some hr
      split at h2
      · rename_i x hx
        cases h2
        obtain ⟨e', he⟩ := castTy_some hx
        subst e'
        subst he
        have := nbeq_true h1
        subst this
        obtain ⟨c, ow, g1, g2⟩ := obj_rel h ho
        obtain ⟨cv', c', ow', k1, k2, _, k3⟩ := hv
        rw [g1] at k1; cases k1
        have hvc := k3 rfl
        subst hvc
        exact ⟨[v], rfl, fun F hF => ⟨FrzW.nil, (fbuf_rep g2).frz F⟩⟩
      · cases h2
    · rename_i cv k u l ho
      obtain ⟨h1, h2⟩ := cond_some hr
      split at h2
      · rename_i x hx
        cases h2
        obtain ⟨e', he⟩ := castTy_some hx
        subst e'
        subst he
        have := nbeq_true h1
        subst this
        obtain ⟨c, ow, g1, g2⟩ := obj_rel h ho
        obtain ⟨cv', c', ow', k1, k2, _, k3⟩ := hv
        rw [g1] at k1; cases k1
        have hvc := k3 rfl
        subst hvc
        refine ⟨[v], rfl, fun F hF => ?_⟩
        obtain ⟨rfl, r⟩ := map_frz h g1 g2 (hF id (by simp [ids]))
        refine ⟨?_, r⟩
        intro i cv' o hm
        simp only [List.mem_singleton, Prod.mk.injEq] at hm
        obtain ⟨rfl, rfl, rfl⟩ := hm
        exact ⟨⟨_, ho⟩, v, g1, rfl, r⟩
      · cases h2
    · rename_i cv k u l ho
      obtain ⟨h1, h2⟩ := cond_some hr
      split at h2
      · rename_i x hx
        cases h2
        obtain ⟨e', he⟩ := castTy_some hx
        subst e'
        subst he
        have := nbeq_true h1
        subst this
        obtain ⟨c, ow, g1, g2⟩ := obj_rel h ho
        obtain ⟨cv', c', ow', k1, k2, _, k3⟩ := hv
        rw [g1] at k1; cases k1
        have hvc := k3 rfl
        subst hvc
        exact ⟨[v], rfl, fun F hF => ⟨FrzW.nil, Rep.frz (t := .map k u) g2.2 F⟩⟩
      · cases h2
    · cases hr
  | fref f =>
    cases t with
    | fn1 x r =>
      simp only [peekA] at hr
      cases hc : Map.get E.C f with
      | none => simp only [hc] at hr; cases hr
      | some c =>
        simp only [hc] at hr
        cases hg : c.fn1? x r with
        | none => simp only [hg] at hr; cases hr
        | some g =>
          simp only [hg] at hr
          cases hr
          exact ⟨[v], rfl, fun F _ => ⟨FrzW.nil, by rw [show v = _ from hv]; exact fn1_rep hE hc hg _⟩⟩
    | _ => simp only [peekA] at hr; cases hr
  | bptr id ver off => cases hr
  | pptr u x => cases hr
  | eptr id ver e i => cases hr
  | junk => cases hr
  | yld => cases hr

theorem Peeked.pair {t u : Ty} {x : t.den} {y : u.den} {vs us : List Value} {l m : W} (h : Peeked P conc st w t x vs l) (h' : Peeked P conc st w u y us m) (hl : vs.length = t.sz) :
    Peeked P conc st w (.pair t u) (x, y) (vs ++ us) (l ++ m) := by
  intro F hF
  have h1 := h F fun id hi => hF id (by rw [ids_append]; exact List.mem_append_left _ hi)
  have h2 := h' F fun id hi => hF id (by rw [ids_append]; exact List.mem_append_right _ hi)
  refine ⟨h1.1.append h2.1, ?_⟩
  simp only [Rep]
  rw [List.take_left' hl, List.drop_left' hl]
  exact ⟨h1.2, h2.2⟩

theorem Peeked.len {t : Ty} {x : t.den} {vs : List Value} {l : W} (h : Peeked P conc st w t x vs l) : vs.length = t.sz := (h (ids l) fun _ hi => hi).2.len

theorem implode_one (hE : EnvOK P E) (h : Mod P w0 conc st a w) {t : Ty} (ht : t.isPair = false) {b : AVal} {l : List AVal} {vs : List Value} {d : (t.den × W) × List AVal}
    (hr : ((peekA E t b).bind fun x => .ret (x, l)).run st = some d) (hv : All2 (VRel P w conc (okOf conc)) (b :: l) vs) (h1 : ∀ v ∈ vs, one v = true) (hs : t.sz = 1) :
    ∃ us ws, vs = us ++ ws ∧ Peeked P conc st w t d.1.1 us d.1.2 ∧ All2 (VRel P w conc (okOf conc)) d.2 ws := by
  obtain ⟨x, g1, g2⟩ := RM.bind_some hr
  cases g2
  cases vs with
  | nil => exact hv.elim
  | cons v vs =>
    obtain ⟨us, e1, e2⟩ := peekA_spec hE h g1 hv.1
    refine ⟨[v], vs, rfl, ?_, hv.2⟩
    have hlen := e2.len
    rw [hs] at hlen
    match us, hlen with
    | [u], _ =>
      have : v = u := by rw [e1]; simp [Ty.val, ht]
      rw [this]; exact e2

theorem implode_spec (hE : EnvOK P E) (h : Mod P w0 conc st a w) : (t : Ty) → {l : List AVal} → {vs : List Value} → {d : (t.den × W) × List AVal} → (implode E t l).run st = some d →
    All2 (VRel P w conc (okOf conc)) l vs → (∀ v ∈ vs, one v = true) → ∃ us ws, vs = us ++ ws ∧ Peeked P conc st w t d.1.1 us d.1.2 ∧ All2 (VRel P w conc (okOf conc)) d.2 ws
  | .unit, l, vs, d, hr, hv, _ => by
    simp only [implode] at hr
    cases hr
    exact ⟨[], vs, rfl, fun F _ => ⟨FrzW.nil, rfl⟩, hv⟩
  | .pair x y, l, vs, d, hr, hv, h1 => by
    simp only [implode] at hr
    obtain ⟨p, g1, g2⟩ := RM.bind_some hr
    obtain ⟨q, g3, g4⟩ := RM.bind_some g2
    cases g4
    obtain ⟨us, ws, e1, e2, e3⟩ := implode_spec hE h x g1 hv h1
    obtain ⟨us', ws', f1, f2, f3⟩ := implode_spec hE h y g3 e3 fun v hv' => h1 v (by rw [e1]; exact List.mem_append_right _ hv')
    exact ⟨us ++ us', ws', by rw [e1, f1, List.append_assoc], e2.pair f2 e2.len, f3⟩
  | .int k, b :: l, vs, d, hr, hv, h1 => implode_one hE h rfl (by simpa [implode] using hr) hv h1 rfl
  | .bool, b :: l, vs, d, hr, hv, h1 => implode_one hE h rfl (by simpa [implode] using hr) hv h1 rfl
  | .str, b :: l, vs, d, hr, hv, h1 => implode_one hE h rfl (by simpa [implode] using hr) hv h1 rfl
  | .slice e, b :: l, vs, d, hr, hv, h1 => implode_one hE h rfl (by simpa [implode] using hr) hv h1 rfl
  | .fn1 p r, b :: l, vs, d, hr, hv, h1 => implode_one hE h rfl (by simpa [implode] using hr) hv h1 rfl
  | .fn2 p q r, b :: l, vs, d, hr, hv, h1 => implode_one hE h rfl (by simpa [implode] using hr) hv h1 rfl
  | .seq e, b :: l, vs, d, hr, hv, h1 => implode_one hE h rfl (by simpa [implode] using hr) hv h1 rfl
  | .seq2 p q, b :: l, vs, d, hr, hv, h1 => implode_one hE h rfl (by simpa [implode] using hr) hv h1 rfl
  | .map p q, b :: l, vs, d, hr, hv, h1 => implode_one hE h rfl (by simpa [implode] using hr) hv h1 rfl
  | .int k, [], vs, d, hr, hv, h1 => by simp [implode, RM.run] at hr
  | .bool, [], vs, d, hr, hv, h1 => by simp [implode, RM.run] at hr
  | .str, [], vs, d, hr, hv, h1 => by simp [implode, RM.run] at hr
  | .slice e, [], vs, d, hr, hv, h1 => by simp [implode, RM.run] at hr
  | .fn1 p r, [], vs, d, hr, hv, h1 => by simp [implode, RM.run] at hr
  | .fn2 p q r, [], vs, d, hr, hv, h1 => by simp [implode, RM.run] at hr
  | .seq e, [], vs, d, hr, hv, h1 => by simp [implode, RM.run] at hr
  | .seq2 p q, [], vs, d, hr, hv, h1 => by simp [implode, RM.run] at hr
  | .map p q, [], vs, d, hr, hv, h1 => by simp [implode, RM.run] at hr

end

end Go.Abs
