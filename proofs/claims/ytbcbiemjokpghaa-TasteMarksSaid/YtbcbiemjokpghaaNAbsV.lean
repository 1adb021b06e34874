/- Starts that move; yields; loops; code. -/
import Derived.Test.YtbcbiemjokpghaaNAbsU
import Derived.LoopNIn
import Derived.RangeFuncSeq
set_option linter.unusedSimpArgs false
set_option linter.unusedVariables false
namespace Go.Abs
open Go

/-- How a loop is left. -/
inductive Way where
  | exit (id : Nat)
  | ret

def Way.is : Way → Exit → Bool
  | .exit i, .exit j => Nat.beq i j
  | .ret, .ret => true
  | _, _ => false

def Way.exit' : Way → Exit
  | .exit i => .exit i
  | .ret => .ret

/-- What is done next, for each way out. -/
@[reducible] def conts (R : Type) : List (Way × Templ) → Type
  | [] => Unit
  | x :: r => (denU x.2.tys → Option R) × conts R r

def kOf {R : Type} (K : Exit → ASt → Option R) : (X : List (Way × Templ)) → conts R X
  | [] => ()
  | x :: r => (fun d => K x.1.exit' (mk x.2 d), kOf K r)

def leave {R : Type} (E : Env) : (X : List (Way × Templ)) → conts R X → Exit → ASt → Option R
  | [], _, _, _ => none
  | x :: r, k, e, st => bif x.1.is e then (dec E x.2 st).bind k.1 else leave E r k.2 e st

/-- The rounds of a loop. -/
def loopG {D Ks R : Type} (body : D → (D → Option R) → Ks → Option R) : Nat → D → Ks → Option R
  | 0, _, _ => none
  | n + 1, d, k => body d (fun d => loopG body n d k) k

/-- The rounds of a loop over what a function yields. -/
def rangeG {D α Ks R : Type} (body : D → α → (D → Option R) → Ks → Option R) (k : Ks) (done : D → Option R) : List α → D → Option R
  | [], d => done d
  | x :: r, d => body d x (fun d => rangeG body k done r d) k

def turnR {R : Type} (E : Env) (T : Templ) (X : List (Way × Templ)) (again : denU T.tys → Option R) (k : conts R X) : Exit → ASt → Option R
  | .normal, st => (dec E T st).bind again
  | e, st => leave E X k e st

/-- The evaluator of a loop. -/
def loopO {R : Type} (n : Nat) (E : Env) (T : Templ) (X : List (Way × Templ)) (body : denU T.tys → (denU T.tys → Option R) → conts R X → Option R) : Ev R := fun st K =>
  (dec E T st).bind fun d => loopG body n d (kOf K X)

/-! Starts that move. -/
structure Link (s s' : Start) : Prop where
  os : s'.w.os = s.w.os
  tape : s'.w.tape = s.w.tape
  output : s'.w.output = s.w.output
  size : s.w.heap.size ≤ s'.w.heap.size
  block : ∀ b, b < s.w.heap.size → ¬ s.M b → s'.w.heap[b]? = s.w.heap[b]?
  M : ∀ b, s'.M b → s.M b ∨ (s.w.heap.size ≤ b ∧ b < s'.w.heap.size)
  B : ∀ b, s'.B b ↔ s.B b
  yl : s'.yl = s.yl
  lo : s'.lo = s.lo
  ds : s'.ds = s.ds
  tmps : s'.tmps = s.tmps

/-- A weaker one: what was made by others may be seen later. -/
structure LinkR (s s' : Start) : Prop where
  os : s'.w.os = s.w.os
  tape : s'.w.tape = s.w.tape
  output : s'.w.output = s.w.output
  size : s.w.heap.size ≤ s'.w.heap.size
  block : ∀ b, b < s.w.heap.size → ¬ s.M b → s'.w.heap[b]? = s.w.heap[b]?
  M : ∀ b, s'.M b → s.M b ∨ s.w.heap.size ≤ b
  B1 : ∀ b, b < s.w.heap.size → s.B b → s'.B b
  B2 : ∀ b, b < s.lo → s'.B b → s.B b
  lo : s'.lo = s.lo

theorem LinkR.trans {a b c : Start} (h : LinkR a b) (k : LinkR b c) : LinkR a c where
  os := k.os.trans h.os
  tape := k.tape.trans h.tape
  output := k.output.trans h.output
  size := Nat.le_trans h.size k.size
  block := fun i hi hm => (k.block i (Nat.lt_of_lt_of_le hi h.size) fun hm' => by
    rcases h.M i hm' with h1 | h1
    · exact hm h1
    · omega).trans (h.block i hi hm)
  M := fun i hi => by
    rcases k.M i hi with h1 | h1
    · exact h.M i h1
    · exact .inr (Nat.le_trans h.size h1)
  B1 := fun i hi hb => k.B1 i (Nat.lt_of_lt_of_le hi h.size) (h.B1 i hi hb)
  B2 := fun i hi hb => h.B2 i hi (k.B2 i (by rw [h.lo]; exact hi) hb)
  lo := k.lo.trans h.lo

theorem LinkR.refl (s : Start) : LinkR s s := ⟨rfl, rfl, rfl, Nat.le_refl _, fun _ _ _ => rfl, fun _ h => .inl h, fun _ _ h => h, fun _ _ h => h, rfl⟩

theorem Link.toR {s s' : Start} (h : Link s s') : LinkR s s' := ⟨h.os, h.tape, h.output, h.size, h.block, fun b hb => (h.M b hb).imp id fun g => g.1, fun b _ hb => (h.B b).2 hb, fun b _ hb => (h.B b).1 hb, h.lo⟩

theorem Link.refl (s : Start) : Link s s := ⟨rfl, rfl, rfl, Nat.le_refl _, fun _ _ _ => rfl, fun _ h => .inl h, fun _ => Iff.rfl, rfl, rfl, rfl, rfl⟩
theorem Link.trans {a b c : Start} (h : Link a b) (k : Link b c) : Link a c where
  os := k.os.trans h.os
  tape := k.tape.trans h.tape
  output := k.output.trans h.output
  size := Nat.le_trans h.size k.size
  block := fun i hi hm => (k.block i (Nat.lt_of_lt_of_le hi h.size) fun hm' => by
    rcases h.M i hm' with h1 | h1
    · exact hm h1
    · have := h1.1; omega).trans (h.block i hi hm)
  M := fun i hi => by
    rcases k.M i hi with h1 | h1
    · rcases h.M i h1 with h2 | h2
      · exact .inl h2
      · exact .inr ⟨h2.1, Nat.lt_of_lt_of_le h2.2 k.size⟩
    · exact .inr ⟨Nat.le_trans h.size h1.1, h1.2⟩
  B := fun i => (k.B i).trans (h.B i)
  yl := k.yl.trans h.yl
  lo := k.lo.trans h.lo
  ds := k.ds.trans h.ds
  tmps := k.tmps.trans h.tmps

def ownedB (conc : Conc) (b : Nat) : Prop := ∃ i v c, conc i = some (v, c, true) ∧ blockOf c = some b

/-- The start as it is now. -/
def Start.now (w0 : Start) (conc : Conc) (a : Act) (w : World) : Start := ⟨w, w0.B, ownedB conc, a.defers, w0.tmps, w0.yl, w0.lo⟩

variable {P : Program} {E : Env} {R : Type}

theorem Mod.link {w0 : Start} {conc : Conc} {st : ASt} {a : Act} {w : World} (h : Mod P w0 conc st a w) : Link w0 (w0.now conc a w) where
  os := h.keeps.os
  tape := h.keeps.tape
  output := h.keeps.output
  size := h.keeps.size
  block := h.keeps.block
  M := fun b ⟨i, v, c, h1, h2⟩ => by
    rcases (h.base i v c b h1 h2).1 with g | g
    · exact .inr ⟨g, (h.base i v c b h1 h2).2⟩
    · exact .inl g
  B := fun _ => Iff.rfl
  yl := rfl
  lo := rfl
  ds := h.defers
  tmps := rfl

theorem Mod.rebase {w0 : Start} {conc : Conc} {st : ASt} {a : Act} {w : World} (h : Mod P w0 conc st a w) : Mod P (w0.now conc a w) conc st a w :=
  { h with
    defers := rfl
    base := fun i v c b h1 h2 => ⟨.inr ⟨i, v, c, h1, h2⟩, (h.base i v c b h1 h2).2⟩
    keeps := ⟨rfl, rfl, rfl, Nat.le_refl _, fun _ _ _ => rfl⟩
    cB := h.cB
    cY := h.cY
    okS := {
      up := fun b hb => h.okS.up b (Nat.le_trans h.keeps.size hb)
      mB := fun b ⟨i, v, c, h1, h2⟩ => h.inB h1 h2
      ds := fun d hd => by
        obtain ⟨D, e, h1, h2⟩ := h.okS.ds d (by rw [← h.defers]; exact hd)
        have hlt := (Array.getElem?_eq_some_iff.1 h1).1
        exact ⟨D, e, (h.keeps.block D hlt fun hm => h2.1 (h.okS.mB D hm)).trans h1, h2⟩
      dn := by show a.defers.Nodup; rw [h.defers]; exact h.okS.dn
      lo := Nat.le_trans h.okS.lo h.keeps.size }
    fixed := h.fixed }

/-! Yields. -/
structure Hdl (R : Type) where
  tys : List Ty
  emit : denL tys → Option R → Option R → Option R

def Hdl.no {R : Type} : Hdl R := ⟨[], fun _ _ _ => none⟩
def emitL {α : Type} (x : α) (A B : Option (List α)) : Option (List α) := A.bind fun ys => B.bind fun zs => match zs with
  | [] => some (x :: ys)
  | _ :: _ => none
def hdl1 (e : Ty) : Hdl (List e.den) := ⟨[e], fun x A B => emitL (α := e.den) x A B⟩
def hdl2 (a b : Ty) : Hdl (List (a.den × b.den)) := ⟨[a, b], fun x A B => emitL (α := a.den × b.den) x A B⟩

def yldOp (st : ASt) (o : Oper) : Option (List Operand × Nat) :=
  match o.guard, o.op, o.dst with
  | none, .call { callee := .value (.tmp t), args, .. }, some d => match Map.get st.slots t with
    | some ⟨[], _, .v .yld⟩ => some (args.toList, d)
    | _ => none
  | _, _, _ => none

def yldR (E : Env) (H : Hdl R) (args : List Operand) (d : Nat) (st : ASt) (K : ASt → Option R) : Option R :=
  bif H.tys.isEmpty then none else ((rdS [] args).bind (packArgs E H.tys)).runK st fun x =>
    match applyU st none (.slot (some d) [] true (.v (.pure .bool true)) x.2), applyU st none (.slot (some d) [] true (.v (.pure .bool false)) x.2) with
    | some s1, some s2 => H.emit x.1 (K s1) (K s2)
    | _, _ => none

def opsY (E : Env) (H : Hdl R) (ops : Array Oper) : List Oper → ASt → (ASt → Option R) → Option R
  | [], st, K => K st
  | o :: r, st, K => match yldOp st o with
    | some p => yldR E H p.1 p.2 st fun st => opsY E H ops r st K
    | none => opR E ops o st fun st => opsY E H ops r st K

def regY (E : Env) (H : Hdl R) (ops : Array Oper) (draw : Bool) (st : ASt) (K : ASt → Option R) : Option R :=
  bif draw then (bif fwd 0 ops.toList then opsRD E ops (bef ops.toList []) ops.toList [] st fun st => K (unlab st) else none)
  else opsY E H ops ops.toList st fun st => K (unlab st)

def loops : Code → Nat
  | .seq a b => loops a + loops b
  | .cond _ a b => loops a + loops b
  | .block _ c => loops c
  | .loop _ => 1
  | .rangeFunc .. => 1
  | _ => 0

def codeR (E : Env) (H : Hdl R) : Code → List (Ev R) → Ev R
  | .skip, _ => fun st K => K .normal st
  | .region _ ops draw, _ => fun st K => regY E H ops draw st (K .normal)
  | .seq a b, O => fun st K => codeR E H a (O.take (loops a)) st fun
    | .normal, st => codeR E H b (O.drop (loops a)) st K
    | e, st => K e st
  | .cond c a b, O => fun st K => condR c st (codeR E H a (O.take (loops a)) st K) (codeR E H b (O.drop (loops a)) st K)
  | .block id c, O => fun st K => codeR E H c O st fun
    | .exit i, st => bif Nat.beq i id then K .normal st else K (.exit i) st
    | e, st => K e st
  | .loop _, O => match O with
    | [f] => f
    | _ => fun _ _ => none
  | .rangeFunc .., O => match O with
    | [f] => f
    | _ => fun _ _ => none
  | .exit i, _ => fun st K => K (.exit i) st
  | .ret, _ => fun st K => K .ret st
  | _, _ => fun _ _ => none

/-- Behind a round. -/
def Start.after (s : Start) (w' : World) : Start := { s with w := w', B := fun b => (b < s.w.heap.size ∧ s.B b) ∨ w'.heap.size ≤ b }

structure InvOK (P : Program) {R : Type} (H : Hdl R) (i : Bool) (Inv : Start → R → Prop) : Prop where
  link : ∀ s s' ans, Inv s ans → Link s s' → Inv s' ans
  nods : H.tys ≠ [] → ∀ s ans, Inv s ans → s.ds = []
  fnl : i = false → H.tys = [] → ∃ so ao, ∀ s b, Inv s b ↔ (b = ao ∧ LinkR so s)
  yld : H.tys ≠ [] → ∀ s ans x A B as, Inv s ans → StartOK s → H.emit x A B = some ans → ArgsRep P s.w (fun b => s.B b ∧ ¬ s.M b) H.tys as x →
    YieldAt Fence.wide 5 P s.yl as.toArray s.w fun e w' => KeepsY s.B s.w w' ∧ ∃ b, e = .returned (.bool b) ∧ ∃ ans', (bif b then A else B) = some ans' ∧ Inv (s.after w') ans'

/-- What the evaluator says of code. i: within a round of a loop over a function. -/
def Sound (P : Program) {R : Type} (H : Hdl R) (i : Bool) (c : Code) (f : Ev R) : Prop :=
  ∀ (r : Option Nat), r.isSome = i → ∀ Inv, InvOK P H i Inv → ∀ (K : Exit → ASt → Option R) (ans : R) (st : ASt) (a : Act) (w : World) (w0 : Start), f st K = some ans → Models P w0 st a w → Inv w0 ans →
    c.wpIn (Fr r) 7 P (fun e a' w' => ∃ w0' ans' st', Models P w0' st' a' w' ∧ Inv w0' ans' ∧ K e st' = some ans') a w

def OsOK (P : Program) {R : Type} (H : Hdl R) (i : Bool) : Code → List (Ev R) → Prop
  | .seq a b, O => OsOK P H i a (O.take (loops a)) ∧ OsOK P H i b (O.drop (loops a))
  | .cond _ a b, O => OsOK P H i a (O.take (loops a)) ∧ OsOK P H i b (O.drop (loops a))
  | .block _ c, O => OsOK P H i c O
  | .loop c, O => ∀ f, O = [f] → Sound P H i (.loop c) f
  | .rangeFunc g ps x y, O => ∀ f, O = [f] → Sound P H i (.rangeFunc g ps x y) f
  | _, _ => True

theorem boolOf_rel {w0 : Start} {conc : Conc} {st : ASt} {a : Act} {w : World} (hE : EnvOK P E) (h : Mod P w0 conc st a w) {c : Operand} {t : Bool} (hr : ((rdA [] c).bind boolOf).run st = some t) : a.eval c = .bool t := by
  obtain ⟨x, h1, h2⟩ := RM.bind_some hr
  have hv := rdA_rel h (labs_nil _) h1
  cases x <;> simp only [boolOf] at h2 <;> try (cases h2; done)
  rename_i u d
  cases u <;> simp only [boolOf] at h2 <;> try (cases h2; done)
  cases h2
  obtain ⟨vs, e1, e2⟩ := hv
  exact rep_bool e1 e2

theorem leave_sound (hE : EnvOK P E) {w0 : Start} {K : Exit → ASt → Option R} {ans : R} {e : Exit} {st : ASt} {a : Act} {w : World} (hm : Models P w0 st a w) : (X : List (Way × Templ)) → leave E X (kOf K X) e st = some ans →
    ∃ st', Models P w0 st' a w ∧ K e st' = some ans
  | [], h => by cases h
  | x :: r, h => by
    simp only [leave, kOf] at h
    cases hi : x.1.is e with
    | true =>
      rw [hi] at h
      simp only [cond_true] at h
      cases hd : dec E x.2 st with
      | none => rw [hd] at h; cases h
      | some d =>
        rw [hd] at h
        have he : x.1.exit' = e := by
          cases hx : x.1 <;> cases e <;> simp [hx, Way.is, nbeq] at hi <;> simp [Way.exit', hi]
        rw [← he]
        exact ⟨_, dec_models hE hm hd, h⟩
    | false =>
      rw [hi] at h
      exact leave_sound hE hm r h

theorem loop_sound {n : Nat} {H : Hdl R} {i : Bool} (hE : EnvOK P E) {c : Code} {O : List (Ev R)} {T : Templ} {X : List (Way × Templ)} {body : denU T.tys → (denU T.tys → Option R) → conts R X → Option R}
    (hc : Sound P H i c (codeR E H c O)) (hb : ∀ d again k, codeR E H c O (mk T d) (turnR E T X again k) = body d again k) : Sound P H i (.loop c) (loopO n E T X body) := by
  intro r hr Inv hI K ans st a w w0 h hm hinv
  unfold loopO at h
  cases hd : dec E T st with
  | none => rw [hd] at h; cases h
  | some d =>
    rw [hd] at h
    simp only [Option.bind_some] at h
    have hm := dec_models hE hm hd
    clear hd
    refine wpIn_loop_rounds n ?_
    induction n generalizing d a w st w0 ans with
    | zero => cases h
    | succ n ih =>
      rw [loopG, ← hb] at h
      rw [roundsIn_succ]
      refine wpIn_mono (hc r hr Inv hI _ _ _ _ _ _ h hm hinv) ?_
      rintro e a' w' ⟨w1, ans', st', hm', hinv', h'⟩
      cases e with
      | normal =>
        show Code.roundsIn (Fr r) 7 P c _ n a' w'
        simp only [turnR] at h'
        cases hd : dec E T st' with
        | none => rw [hd] at h'; cases h'
        | some d' =>
          rw [hd] at h'
          exact ih ans' st' a' w' w1 hm' hinv' d' h' (dec_models hE hm' hd)
      | _ =>
        obtain ⟨st2, g1, g2⟩ := leave_sound hE hm' X h'
        exact ⟨w1, ans', st2, g1, hinv', g2⟩

/-! One yield. -/
theorem exec_yield {o : Oper} {f : Operand} {args : Array Operand} {tys : Array TypeId} (hop : o.op = .call { callee := .value f, args := args, argTypes := tys }) {a : Act} {l : Nat}
    (hf : a.eval f = .func (.yield l) #[] #[]) : execOp a.eval o = Instr.yield l (args.map a.eval) := by
  simp [execOp, hop, resolve, hf, Deferred.ofValue, invoke]

theorem fr_round {r : Option Nat} {n m : Nat} {l : Nat} {f : FuncId} {tmps : Array Value} {assign body : Code} {w : World} {Q : Ending → World → Prop} (h : RoundIn Fence.wide n P l f tmps assign body w Q) :
    RoundIn (Fr r) m P l f tmps assign body w Q := ⟨trivial, fun c cs _ => h.2 c cs (room_wide _)⟩

theorem yldR_sound (hE : EnvOK P E) {H : Hdl R} {r : Option Nat} {i : Bool} {Inv : Start → R → Prop} (hI : InvOK P H i Inv) {o : Oper} {st : ASt} {a : Act} {w : World} {w0 : Start} {p : List Operand × Nat} {K : ASt → Option R} {ans : R} {n : Nat}
    (hy : yldOp st o = some p) (h : yldR E H p.1 p.2 st K = some ans) (hm : Models P w0 st a w) (hinv : Inv w0 ans) {next : Act → World → Prop} {Q : Exit → Act → World → Prop}
    (hn : ∀ a' w' st' w0' ans', Models P w0' st' a' w' → Inv w0' ans' → K st' = some ans' → next a' w') : o.wpIn (Fr r) n P a w next Q := by
  obtain ⟨conc, hm⟩ := hm
  unfold yldOp at hy
  split at hy
  · rename_i t args tys d hg hop hdst
    split at hy
    · rename_i g hsl
      cases hy
      obtain ⟨v, hv1, hv2⟩ := hm.slots t _ hsl
      have hv : v = .func (.yield conc.yl) #[] #[] := (hv2.yes (labs_nil _)).2
      have hev : a.eval (.tmp t) = .func (.yield conc.yl) #[] #[] := by simp [Act.eval, hv1, hv]
      unfold yldR at h
      cases hty : H.tys.isEmpty with
      | true => rw [hty] at h; cases h
      | false =>
      rw [hty] at h
      simp only [cond_false] at h
      have hty : H.tys ≠ [] := fun e => by rw [e] at hty; cases hty
      rw [RM.runK_eq] at h
      cases hx : ((rdS [] args.toList).bind (packArgs E H.tys)).run st with
      | none => rw [hx] at h; cases h
      | some x =>
        rw [hx] at h
        simp only [Option.bind_some] at h
        cases h1 : applyU st none (.slot (some d) [] true (.v (.pure .bool true)) x.2) with
        | none => simp only [h1] at h; cases h
        | some s1 =>
          cases h2 : applyU st none (.slot (some d) [] true (.v (.pure .bool false)) x.2) with
          | none => simp only [h1, h2] at h; cases h
          | some s2 =>
            simp only [h1, h2] at h
            obtain ⟨l, g1, g2⟩ := RM.bind_some hx
            have hp := packArgs_spec hE hm H.tys g2 (rdS_rel hm (labs_nil _) g1)
            obtain ⟨f1, f2⟩ := hp (ids x.2) fun _ h => h
            obtain ⟨conc1, rfl, m1, m2, m3⟩ := frz_done hm f1
            have mr := m1.rebase
            have ml := m1.link
            have hinv1 := hI.link _ _ _ hinv ml
            have hcB : (frzL conc (ids x.2)).B = w0.B := m1.cB
            have hargs : ArgsRep P w (fun b => (w0.now (frzL conc (ids x.2)) a w).B b ∧ ¬ (w0.now (frzL conc (ids x.2)) a w).M b) H.tys (args.toList.map a.eval) x.1 := by
              have hok : ∀ b, okOf (frzL conc (ids x.2)) b ↔ (w0.B b ∧ ¬ ownedB (frzL conc (ids x.2)) b) := by
                intro b
                unfold okOf ownedB
                rw [hcB]
                refine and_congr Iff.rfl ⟨fun hh ⟨i, v, c, k1, k2⟩ => hh i v c k1 k2, fun hh i v c k1 k2 => hh ⟨i, v, c, k1, k2⟩⟩
              have : okOf (frzL conc (ids x.2)) = fun b => w0.B b ∧ ¬ ownedB (frzL conc (ids x.2)) b := funext fun b => propext (hok b)
              rw [this] at f2
              exact f2
            obtain ⟨fn, tmps, assign, body, y1, y2⟩ := hI.yld hty _ _ _ _ _ _ hinv1 mr.okS h hargs
            have hyl : (w0.now (frzL conc (ids x.2)) a w).yl = conc.yl := by show w0.yl = conc.yl; rw [← hm.cY]
            rw [hyl] at y1 y2
            have hd : ∀ c, o.op ≠ .defer c := by intro c hc; rw [hop] at hc; cases hc
            refine ⟨fun _ _ => trivial, ?_⟩
            rw [Oper.semAt_eq _ _ _ hd, exec_yield hop hev]
            have harr : (args.toList.map a.eval).toArray = args.map a.eval := by rw [← Array.toList_map, Array.toArray_toList]
            rw [harr] at y1
            have hrun : (Instr.yield conc.yl (args.map a.eval)).run P w = .ok (.round conc.yl fn tmps assign body) w := y1
            rw [hrun, Oper.uponIn_round]
            refine ⟨fun e => by simp [Fr, Fence.wide] at e, (fr_round y2).mono ?_⟩
            rintro e w' ⟨hk, b, rfl, ans', ha, hinv'⟩
            show next (a.put o.dst (.bool b)) w'
            rw [hdst]
            -- the state behind the round
            have hnow : (w0.now (frzL conc (ids x.2)) a w).w = w := rfl
            have hkB : ∀ b, b < w.heap.size → w0.B b → w'.heap[b]? = w.heap[b]? := hk.block
            let conc2 : Conc := ⟨(frzL conc (ids x.2)).m, fun b => (b < w.heap.size ∧ w0.B b) ∨ w'.heap.size ≤ b, (frzL conc (ids x.2)).yl⟩
            have hle : CLe (frzL conc (ids x.2)) conc2 := ⟨rfl, fun id cv c ow hc => ⟨cv, c, ow, hc, .inr ⟨rfl, rfl⟩⟩⟩
            have hokc : ∀ b, okOf (frzL conc (ids x.2)) b → b < w.heap.size → okOf conc2 b := fun b hb hlt => ⟨.inl ⟨hlt, by have := hb.1; rw [hcB] at this; exact this⟩, hb.2⟩
            have hx2 : Ext (okOf (frzL conc (ids x.2))) w w' := ⟨hk.size, fun b hb hlt => hkB b hlt (by have := hb.1; rw [hcB] at this; exact this)⟩
            have hs2 : Sub w (okOf (frzL conc (ids x.2))) (okOf conc2) := fun b hb hlt => hokc b hb hlt
            have mod2 : Mod P ((w0.now (frzL conc (ids x.2)) a w).after w') conc2 { st with heap := setObjs st.heap x.2 } a w' := {
              defers := rfl
              size := mr.size
              marks := mr.marks
              slots := fun d' sl hd' => by
                obtain ⟨u, k1, k2⟩ := mr.slots d' sl hd'
                exact ⟨u, k1, ⟨fun hl => ⟨(k2.yes hl).1, (k2.yes hl).2.mono hx2 hs2 hle⟩, k2.no⟩⟩
              heap := fun id ver o' ho => by
                obtain ⟨c, ow, k1, k2⟩ := mr.heap id ver o' ho
                refine ⟨c, ow, k1, k2.mono hx2 hs2 hle fun eo b' hb' => ?_⟩
                subst eo
                exact hkB b' (mr.base id ver c b' k1 hb').2 (m1.inB k1 hb')
              dead := mr.dead
              inj := mr.inj
              base := fun i v c b' k1 k2 => ⟨.inr ⟨i, v, c, k1, k2⟩, Nat.lt_of_lt_of_le (mr.base i v c b' k1 k2).2 hk.size⟩
              keeps := ⟨rfl, rfl, rfl, Nat.le_refl _, fun _ _ _ => rfl⟩
              cB := rfl
              cY := m1.cY
              okS := {
                up := fun b' hb' => .inr hb'
                mB := fun b' ⟨i, v, c, k1, k2⟩ => .inl ⟨(mr.base i v c b' k1 k2).2, m1.inB k1 k2⟩
                ds := fun d' hd' => by
                  have he : (w0.now (frzL conc (ids x.2)) a w).ds = [] := hI.nods hty _ _ hinv1
                  have hd'' : d' ∈ (w0.now (frzL conc (ids x.2)) a w).ds := hd'
                  rw [he] at hd''
                  cases hd''
                dn := by
                  have he : (w0.now (frzL conc (ids x.2)) a w).ds = [] := hI.nods hty _ _ hinv1
                  show (w0.now (frzL conc (ids x.2)) a w).ds.Nodup
                  rw [he]
                  exact List.nodup_nil
                lo := Nat.le_trans mr.okS.lo hk.size }
              fixed := m1.fixed }
            have fin : ∀ c s', applyU st none (.slot (some d) [] true (.v (.pure .bool c)) x.2) = some s' → Models P ((w0.now (frzL conc (ids x.2)) a w).after w') s' (a.put (some d) (.bool c)) w' := fun c s' hs' =>
              slot_done (W0 := x.2) (conc1 := conc2) mod2 hs' (vrel_bool (conc := conc2) c)
            cases b with
            | true => exact hn _ _ s1 _ ans' (fin true s1 h1) hinv' (by simpa using ha)
            | false => exact hn _ _ s2 _ ans' (fin false s2 h2) hinv' (by simpa using ha)
    · cases hy
  · cases hy

theorem opsY_sound (hE : EnvOK P E) {H : Hdl R} {r : Option Nat} {i : Bool} {Inv : Start → R → Prop} (hI : InvOK P H i Inv) {ops : Array Oper} {K : ASt → Option R} {n : Nat} {Q : Exit → Act → World → Prop} :
    ∀ (is : List Nat) (l : List Oper), is.map (fun i => ops[i]?) = l.map some → ∀ {st : ASt} {a : Act} {w : World} {w0 : Start} {ans : R}, opsY E H ops l st K = some ans → Models P w0 st a w → Inv w0 ans →
      (∀ a' w' st' w0' ans', Models P w0' st' a' w' → Inv w0' ans' → K st' = some ans' → Q .normal a' w') → wpOpsIn (Fr r) n P ops Q is a w
  | [], l, hl, st, a, w, w0, ans, h, hm, hinv, hq => by
    have : l = [] := by cases l <;> simp at hl ⊢
    subst this
    exact hq a w st w0 ans hm hinv h
  | i :: is, l, hl, st, a, w, w0, ans, h, hm, hinv, hq => by
    cases l with
    | nil => simp at hl
    | cons o l =>
      simp only [List.map_cons, List.cons.injEq] at hl
      obtain ⟨h1, h2⟩ := hl
      simp only [opsY] at h
      simp only [wpOpsIn, h1]
      cases hy : yldOp st o with
      | some p =>
        rw [hy] at h
        dsimp only at h
        have hw : Region.wanted o (yielded ops a.tmps) = true := by
          unfold yldOp at hy
          split at hy
          · rename_i hg _ _
            unfold Region.wanted
            rw [hg]
          · cases hy
        simp only [hw, if_true]
        exact yldR_sound hE hI hy h hm hinv fun a' w' st' w0' ans' hm' hinv' hk => opsY_sound hE hI is l h2 hk hm' hinv' hq
      | none =>
        rw [hy] at h
        dsimp only at h
        rw [opR_eq] at h
        cases hs : stepD E ops o st with
        | none => rw [hs] at h; cases h
        | some st1 =>
          rw [hs] at h
          simp only [Option.bind_some] at h
          have hstep := stepD_sound hE hm hs
          cases hw : Region.wanted o (yielded ops a.tmps) with
          | true =>
            simp only [if_true]
            exact op_in (stepD_no_defer hs) (hstep.1 hw _ Q fun a' w' hm' => opsY_sound hE hI is l h2 h hm' hinv hq)
          | false =>
            simp only [Bool.false_eq_true, if_false]
            exact ⟨fun _ _ => trivial, opsY_sound hE hI is l h2 h (hstep.2 hw) hinv hq⟩

theorem codeR_sound (hE : EnvOK P E) (hP : P.follows .mixedOrders = true) {H : Hdl R} {i : Bool} : (c : Code) → (O : List (Ev R)) → OsOK P H i c O → Sound P H i c (codeR E H c O)
  | .skip, O, _ => fun r _ Inv hI K ans st a w w0 h hm hinv => wpIn_skip ⟨w0, ans, st, hm, hinv, h⟩
  | .ret, O, _ => fun r _ Inv hI K ans st a w w0 h hm hinv => wpIn_ret ⟨w0, ans, st, hm, hinv, h⟩
  | .exit i, O, _ => fun r _ Inv hI K ans st a w w0 h hm hinv => wpIn_exit ⟨w0, ans, st, hm, hinv, h⟩
  | .seq x y, O, ho => fun r hr Inv hI K ans st a w w0 h hm hinv => by
    simp only [codeR] at h
    refine wpIn_seq (wpIn_mono (codeR_sound hE hP x _ ho.1 r hr Inv hI _ _ _ _ _ _ h hm hinv) ?_)
    rintro e a' w' ⟨w1, ans', st', hm', hinv', h'⟩
    cases e with
    | normal => exact codeR_sound hE hP y _ ho.2 r hr Inv hI _ _ _ _ _ _ h' hm' hinv'
    | _ => exact ⟨w1, ans', st', hm', hinv', h'⟩
  | .cond c x y, O, ho => fun r hr Inv hI K ans st a w w0 h hm hinv => by
    simp only [codeR, condR, RM.runK_eq] at h
    cases hrr : ((rdA [] c).bind boolOf).run st with
    | none => rw [hrr] at h; cases h
    | some t =>
      rw [hrr] at h
      simp only [Option.bind_some] at h
      obtain ⟨conc, hmod⟩ := hm
      have hev := boolOf_rel hE hmod hrr
      refine wpIn_cond hev ?_
      cases t with
      | true => exact codeR_sound hE hP x _ ho.1 r hr Inv hI _ _ _ _ _ _ h ⟨conc, hmod⟩ hinv
      | false => exact codeR_sound hE hP y _ ho.2 r hr Inv hI _ _ _ _ _ _ h ⟨conc, hmod⟩ hinv
  | .block id c, O, ho => fun r hr Inv hI K ans st a w w0 h hm hinv => by
    simp only [codeR] at h
    refine wpIn_block (wpIn_mono (codeR_sound hE hP c _ ho r hr Inv hI _ _ _ _ _ _ h hm hinv) ?_)
    rintro e a' w' ⟨w1, ans', st', hm', hinv', h'⟩
    cases e with
    | exit i =>
      simp only [nbeq] at h'
      by_cases hi : i = id
      · simp only [hi, decide_true, cond_true] at h'
        simp only [Exit.inBlock, hi, if_true]
        exact ⟨w1, ans', st', hm', hinv', h'⟩
      · simp only [hi, decide_false, cond_false] at h'
        simp only [Exit.inBlock, hi, if_false]
        exact ⟨w1, ans', st', hm', hinv', h'⟩
    | _ => exact ⟨w1, ans', st', hm', hinv', h'⟩
  | .loop c, O, ho => fun r hr Inv hI K ans st a w w0 h hm hinv => by
    cases O with
    | nil => cases h
    | cons f O =>
      cases O with
      | nil => exact ho f rfl r hr Inv hI K ans st a w w0 h hm hinv
      | cons _ _ => cases h
  | .rangeFunc g ps x y, O, ho => fun r hr Inv hI K ans st a w w0 h hm hinv => by
    cases O with
    | nil => cases h
    | cons f O =>
      cases O with
      | nil => exact ho f rfl r hr Inv hI K ans st a w w0 h hm hinv
      | cons _ _ => cases h
  | .region id ops draw, O, _ => fun r hr Inv hI K ans st a w w0 h hm hinv => by
    simp only [codeR, regY] at h
    cases draw with
    | false =>
      simp only [cond_false] at h
      exact wpIn_region (opsY_sound hE hI _ _ (range_ops ops) h hm hinv fun a' w' st' w0' ans' hm' hinv' hk => ⟨w0', ans', _, unlab_models hm', hinv', hk⟩)
    | true =>
      simp only [cond_true] at h
      cases hf : fwd 0 ops.toList with
      | false => rw [hf] at h; cases h
      | true =>
        rw [hf] at h
        simp only [cond_true] at h
        obtain ⟨gs, st2, g1, g2, g3, g4⟩ := opsRD_runs ops.toList [] st (fun k o hk => by simpa using hk) h
        obtain ⟨rr, b1, b2⟩ := bef_spec ops.toList []
        have hm0 : Models P w0 st a { w with drawn := w.drawn + 1 } := by
          obtain ⟨conc, hmod⟩ := hm
          exact ⟨conc, hmod.grow (Keeps.drew w)⟩
        let F : Nat → FP := fun i => gs.getD i ⟨[], []⟩
        have hruns := g3 F (fun k g hg => by simp [F, hg])
        refine wpIn_region_any hP ?_
        refine wpAny_runs hE (F := F) (B := fun i => (bef ops.toList []).getD i 0) (st2 := st2) ?_ ?_ ?_ (fun a' w' hm' => ⟨w0, ans, _, unlab_models hm', hinv, g2⟩) ops.size _ (List.range ops.size) (by simp) (List.pairwise_lt_range) (by simp) ?_ ?_ hm0 ?_
        · intro i o ho j hj
          rw [b1, List.nil_append] at hj
          exact b2 i o (by simpa using ho) j hj
        · intro i o ho
          have := fwd_spec ops.toList 0 hf i o (by simpa using ho)
          simpa using this
        · intro i j hi hj
          have hi' : i < gs.length := by rw [g1]; simpa using hi
          have hj' : j < gs.length := by omega
          have := g4 i j gs[j] gs[i] (by simp) hj (by simp [hi']) (by simp [hj'])
          simpa [F, hi', hj'] using this
        · intro i
          simp
          intro hi
          simp [Array.getD, hi]
        · intro i hi hn
          exact absurd (by simpa using hi) hn
        · rw [List.range_eq_range']
          simpa using hruns
  | .scope _, O, _ => fun r hr Inv hI K ans st a w w0 h hm hinv => by cases h
  | .label _, O, _ => fun r hr Inv hI K ans st a w w0 h hm hinv => by cases h
  | .goto _, O, _ => fun r hr Inv hI K ans st a w w0 h hm hinv => by cases h
  | .refuse _, O, _ => fun r hr Inv hI K ans st a w w0 h hm hinv => by cases h

end Go.Abs
