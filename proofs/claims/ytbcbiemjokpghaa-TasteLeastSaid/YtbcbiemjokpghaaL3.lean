/- Parts of one proof, joined: Starts that move; yields; loops; code. Ranges over functions. Ranges over functions, the whole statement. A function's contract is what the evaluator makes of its body. Data that are compared, and keys of maps: by a checker of their types. The evaluator's tables are checked against the program's by evaluation. What a function's text is put together from. DERIVED: THE SHELF's CONTRACTS AT THIS DUMP, IN PLAIN WORDS (tools/lay-plain.mjs out of 'TryShelf.lean', which tools/lay-shelf.mjs wrote): THE SAME DECLARATIONS UNDER THE SAME NAMES: 'import', 'namespace', 'open', 'def', 'theorem' AND NOTHING ELSE: no command of the shelf's: FOR A HAND-IN. Each laying: the table of numbers ('.._ren') and one theorem, a field a fact of the dump's own or the kernel's comparison; each contract: ONE APPLICATION. The library's slices.Clone at []int and []string: that the call does what its plain function says -/
import Derived.LoopNIn
import Derived.RangeFuncSeq
import Derived.RangeFuncIn
import Derived.RangeFuncRecord
import Derived.ChangeKeysEq
import Derived.Shelf.Strings.Search2
import Derived.Shelf.Sort.Plain
import Derived.Ground.Names2Prog
import Derived.Shelf.Slices.Clone
import Derived.Test.YtbcbiemjokpghaaProg
import Derived.ProofKit
import Derived.ChangeSlices
import Derived.Test.YtbcbiemjokpghaaL2
set_option linter.unusedSimpArgs false
set_option linter.unusedVariables false
namespace Go.Abs
open Go

/-- How a loop is left. -/
inductive Way where
  | exit (id : Nat)
  | ret

def Way.is : Way → Exit → Bool
  | .exit i, .exit j => Nat.beq i j
  | .ret, .ret => true
  | _, _ => false

def Way.exit' : Way → Exit
  | .exit i => .exit i
  | .ret => .ret

/-- What is done next, for each way out. -/
@[reducible] def conts (R : Type) : List (Way × Templ) → Type
  | [] => Unit
  | x :: r => (denU x.2.tys → Option R) × conts R r

def kOf {R : Type} (K : Exit → ASt → Option R) : (X : List (Way × Templ)) → conts R X
  | [] => ()
  | x :: r => (fun d => K x.1.exit' (mk x.2 d), kOf K r)

def leave {R : Type} (E : Env) : (X : List (Way × Templ)) → conts R X → Exit → ASt → Option R
  | [], _, _, _ => none
  | x :: r, k, e, st => bif x.1.is e then (dec E x.2 st).bind k.1 else leave E r k.2 e st

/-- The rounds of a loop. -/
def loopG {D Ks R : Type} (body : D → (D → Option R) → Ks → Option R) : Nat → D → Ks → Option R
  | 0, _, _ => none
  | n + 1, d, k => body d (fun d => loopG body n d k) k

/-- The rounds of a loop over what a function yields. -/
def rangeG {D α Ks R : Type} (body : D → α → (D → Option R) → Ks → Option R) (k : Ks) (done : D → Option R) : List α → D → Option R
  | [], d => done d
  | x :: r, d => body d x (fun d => rangeG body k done r d) k

def turnR {R : Type} (E : Env) (T : Templ) (X : List (Way × Templ)) (again : denU T.tys → Option R) (k : conts R X) : Exit → ASt → Option R
  | .normal, st => (dec E T st).bind again
  | e, st => leave E X k e st

/-- The evaluator of a loop. -/
def loopO {R : Type} (n : Nat) (E : Env) (T : Templ) (X : List (Way × Templ)) (body : denU T.tys → (denU T.tys → Option R) → conts R X → Option R) : Ev R := fun st K =>
  (dec E T st).bind fun d => loopG body n d (kOf K X)

/-! Starts that move. -/
structure Link (s s' : Start) : Prop where
  os : s'.w.os = s.w.os
  tape : s'.w.tape = s.w.tape
  output : s'.w.output = s.w.output
  size : s.w.heap.size ≤ s'.w.heap.size
  block : ∀ b, b < s.w.heap.size → ¬ s.M b → s'.w.heap[b]? = s.w.heap[b]?
  M : ∀ b, s'.M b → s.M b ∨ (s.w.heap.size ≤ b ∧ b < s'.w.heap.size)
  B : ∀ b, s'.B b ↔ s.B b
  yl : s'.yl = s.yl
  lo : s'.lo = s.lo
  ds : s'.ds = s.ds
  tmps : s'.tmps = s.tmps

/-- A weaker one: what was made by others may be seen later. -/
structure LinkR (s s' : Start) : Prop where
  os : s'.w.os = s.w.os
  tape : s'.w.tape = s.w.tape
  output : s'.w.output = s.w.output
  size : s.w.heap.size ≤ s'.w.heap.size
  block : ∀ b, b < s.w.heap.size → ¬ s.M b → s'.w.heap[b]? = s.w.heap[b]?
  M : ∀ b, s'.M b → s.M b ∨ s.w.heap.size ≤ b
  B1 : ∀ b, b < s.w.heap.size → s.B b → s'.B b
  B2 : ∀ b, b < s.lo → s'.B b → s.B b
  lo : s'.lo = s.lo

theorem LinkR.trans {a b c : Start} (h : LinkR a b) (k : LinkR b c) : LinkR a c where
  os := k.os.trans h.os
  tape := k.tape.trans h.tape
  output := k.output.trans h.output
  size := Nat.le_trans h.size k.size
  block := fun i hi hm => (k.block i (Nat.lt_of_lt_of_le hi h.size) fun hm' => by
    rcases h.M i hm' with h1 | h1
    · exact hm h1
    · omega).trans (h.block i hi hm)
  M := fun i hi => by
    rcases k.M i hi with h1 | h1
    · exact h.M i h1
    · exact .inr (Nat.le_trans h.size h1)
  B1 := fun i hi hb => k.B1 i (Nat.lt_of_lt_of_le hi h.size) (h.B1 i hi hb)
  B2 := fun i hi hb => h.B2 i hi (k.B2 i (by rw [h.lo]; exact hi) hb)
  lo := k.lo.trans h.lo

theorem LinkR.refl (s : Start) : LinkR s s := ⟨rfl, rfl, rfl, Nat.le_refl _, fun _ _ _ => rfl, fun _ h => .inl h, fun _ _ h => h, fun _ _ h => h, rfl⟩

theorem Link.toR {s s' : Start} (h : Link s s') : LinkR s s' := ⟨h.os, h.tape, h.output, h.size, h.block, fun b hb => (h.M b hb).imp id fun g => g.1, fun b _ hb => (h.B b).2 hb, fun b _ hb => (h.B b).1 hb, h.lo⟩

theorem Link.refl (s : Start) : Link s s := ⟨rfl, rfl, rfl, Nat.le_refl _, fun _ _ _ => rfl, fun _ h => .inl h, fun _ => Iff.rfl, rfl, rfl, rfl, rfl⟩
theorem Link.trans {a b c : Start} (h : Link a b) (k : Link b c) : Link a c where
  os := k.os.trans h.os
  tape := k.tape.trans h.tape
  output := k.output.trans h.output
  size := Nat.le_trans h.size k.size
  block := fun i hi hm => (k.block i (Nat.lt_of_lt_of_le hi h.size) fun hm' => by
    rcases h.M i hm' with h1 | h1
    · exact hm h1
    · have := h1.1; omega).trans (h.block i hi hm)
  M := fun i hi => by
    rcases k.M i hi with h1 | h1
    · rcases h.M i h1 with h2 | h2
      · exact .inl h2
      · exact .inr ⟨h2.1, Nat.lt_of_lt_of_le h2.2 k.size⟩
    · exact .inr ⟨Nat.le_trans h.size h1.1, h1.2⟩
  B := fun i => (k.B i).trans (h.B i)
  yl := k.yl.trans h.yl
  lo := k.lo.trans h.lo
  ds := k.ds.trans h.ds
  tmps := k.tmps.trans h.tmps

def ownedB (conc : Conc) (b : Nat) : Prop := ∃ i v c, conc i = some (v, c, true) ∧ hasB c b

/-- The start as it is now. -/
def Start.now (w0 : Start) (conc : Conc) (a : Act) (w : World) : Start := ⟨w, w0.B, ownedB conc, a.defers, w0.tmps, w0.yl, w0.lo⟩

variable {P : Program} {E : Env} {R : Type}

theorem Mod.link {w0 : Start} {conc : Conc} {st : ASt} {a : Act} {w : World} (h : Mod P w0 conc st a w) : Link w0 (w0.now conc a w) where
  os := h.keeps.os
  tape := h.keeps.tape
  output := h.keeps.output
  size := h.keeps.size
  block := h.keeps.block
  M := fun b ⟨i, v, c, h1, h2⟩ => by
    rcases (h.base i v c b h1 h2).1 with g | g
    · exact .inr ⟨g, (h.base i v c b h1 h2).2⟩
    · exact .inl g
  B := fun _ => Iff.rfl
  yl := rfl
  lo := rfl
  ds := h.defers
  tmps := rfl

theorem Mod.rebase {w0 : Start} {conc : Conc} {st : ASt} {a : Act} {w : World} (h : Mod P w0 conc st a w) : Mod P (w0.now conc a w) conc st a w :=
  { h with
    defers := rfl
    base := fun i v c b h1 h2 => ⟨.inr ⟨i, v, c, h1, h2⟩, (h.base i v c b h1 h2).2⟩
    keeps := ⟨rfl, rfl, rfl, Nat.le_refl _, fun _ _ _ => rfl⟩
    cB := h.cB
    cY := h.cY
    okS := {
      up := fun b hb => h.okS.up b (Nat.le_trans h.keeps.size hb)
      mB := fun b ⟨i, v, c, h1, h2⟩ => h.inB h1 h2
      ds := fun d hd => by
        obtain ⟨D, e, h1, h2⟩ := h.okS.ds d (by rw [← h.defers]; exact hd)
        have hlt := (Array.getElem?_eq_some_iff.1 h1).1
        exact ⟨D, e, (h.keeps.block D hlt fun hm => h2.1 (h.okS.mB D hm)).trans h1, h2⟩
      dn := by show a.defers.Nodup; rw [h.defers]; exact h.okS.dn
      lo := Nat.le_trans h.okS.lo h.keeps.size }
    fixed := h.fixed }

/-! Yields. -/
structure Hdl (R : Type) where
  tys : List Ty
  emit : denL tys → Option R → Option R → Option R

def Hdl.no {R : Type} : Hdl R := ⟨[], fun _ _ _ => none⟩
def emitL {α : Type} (x : α) (A B : Option (List α)) : Option (List α) := A.bind fun ys => B.bind fun zs => match zs with
  | [] => some (x :: ys)
  | _ :: _ => none
def hdl1 (e : Ty) : Hdl (List e.den) := ⟨[e], fun x A B => emitL (α := e.den) x A B⟩
def hdl2 (a b : Ty) : Hdl (List (a.den × b.den)) := ⟨[a, b], fun x A B => emitL (α := a.den × b.den) x A B⟩

def yldOp (st : ASt) (o : Oper) : Option (List Operand × Nat) :=
  match o.guard, o.op, o.dst with
  | none, .call { callee := .value (.tmp t), args, .. }, some d => match Map.get st.slots t with
    | some ⟨[], _, .v .yld⟩ => some (args.toList, d)
    | _ => none
  | _, _, _ => none

def yldR (E : Env) (H : Hdl R) (args : List Operand) (d : Nat) (st : ASt) (K : ASt → Option R) : Option R :=
  bif H.tys.isEmpty then none else ((rdS [] args).bind (packArgs E H.tys)).runK st fun x =>
    match applyU st none (.slot (some d) [] true (.v (.pure .bool true)) x.2), applyU st none (.slot (some d) [] true (.v (.pure .bool false)) x.2) with
    | some s1, some s2 => H.emit x.1 (K s1) (K s2)
    | _, _ => none

def opsY (E : Env) (H : Hdl R) (ops : Array Oper) : List Oper → ASt → (ASt → Option R) → Option R
  | [], st, K => K st
  | o :: r, st, K => match yldOp st o with
    | some p => yldR E H p.1 p.2 st fun st => opsY E H ops r st K
    | none => opR E ops o st fun st => opsY E H ops r st K

def regY (E : Env) (H : Hdl R) (ops : Array Oper) (draw : Bool) (st : ASt) (K : ASt → Option R) : Option R :=
  bif draw then (bif fwd 0 ops.toList then (match preF E E.N st with
    | some st => opsRD E ops (bef ops.toList []) ops.toList [] st fun st => K (unlab st)
    | none => none) else none)
  else (bif E.N.isEmpty then opsY E H ops ops.toList st fun st => K (unlab st) else opsM E ops ops.size ops.toList st fun st => K (unlab st))

def loops : Code → Nat
  | .seq a b => loops a + loops b
  | .cond _ a b => loops a + loops b
  | .block _ c => loops c
  | .loop _ => 1
  | .rangeFunc .. => 1
  | _ => 0

def codeR (E : Env) (H : Hdl R) : Code → List (Ev R) → Ev R
  | .skip, _ => fun st K => K .normal st
  | .region _ ops draw, _ => fun st K => regY E H ops draw st (K .normal)
  | .seq a b, O => fun st K => codeR E H a (O.take (loops a)) st fun
    | .normal, st => codeR E H b (O.drop (loops a)) st K
    | e, st => K e st
  | .cond c a b, O => fun st K => condR c st (codeR E H a (O.take (loops a)) st K) (codeR E H b (O.drop (loops a)) st K)
  | .block id c, O => fun st K => codeR E H c O st fun
    | .exit i, st => bif Nat.beq i id then K .normal st else K (.exit i) st
    | e, st => K e st
  | .loop _, O => match O with
    | [f] => f
    | _ => fun _ _ => none
  | .rangeFunc .., O => match O with
    | [f] => f
    | _ => fun _ _ => none
  | .exit i, _ => fun st K => K (.exit i) st
  | .ret, _ => fun st K => K .ret st
  | _, _ => fun _ _ => none

/-- Behind a round. -/
def Start.after (s : Start) (w' : World) : Start := { s with w := w', B := fun b => (b < s.w.heap.size ∧ s.B b) ∨ w'.heap.size ≤ b }

structure InvOK (P : Program) {R : Type} (H : Hdl R) (i : Bool) (Inv : Start → R → Prop) : Prop where
  link : ∀ s s' ans, Inv s ans → Link s s' → Inv s' ans
  nods : H.tys ≠ [] → ∀ s ans, Inv s ans → s.ds = []
  fnl : i = false → H.tys = [] → ∃ so ao, ∀ s b, Inv s b ↔ (b = ao ∧ LinkR so s)
  yld : H.tys ≠ [] → ∀ s ans x A B vas, Inv s ans → StartOK s → H.emit x A B = some ans → ArgsRep P s.w (fun b => s.B b ∧ ¬ s.M b) H.tys vas x →
    YieldAt Fence.wide 5 P s.yl vas.toArray s.w fun e w' => KeepsY s.B s.w w' ∧ ∃ b, e = .returned (.bool b) ∧ ∃ ans', (bif b then A else B) = some ans' ∧ Inv (s.after w') ans'

/-- What the evaluator says of code. i: within a round of a loop over a function. -/
def Sound (P : Program) {R : Type} (H : Hdl R) (i : Bool) (c : Code) (f : Ev R) : Prop :=
  ∀ (r : Option Nat), r.isSome = i → ∀ Inv, InvOK P H i Inv → ∀ (K : Exit → ASt → Option R) (ans : R) (st : ASt) (a : Act) (w : World) (w0 : Start), f st K = some ans → Models P w0 st a w → Inv w0 ans →
    c.wpIn (Fr r) 7 P (fun e a' w' => ∃ w0' ans' st', Models P w0' st' a' w' ∧ Inv w0' ans' ∧ K e st' = some ans') a w

def OsOK (P : Program) {R : Type} (H : Hdl R) (i : Bool) : Code → List (Ev R) → Prop
  | .seq a b, O => OsOK P H i a (O.take (loops a)) ∧ OsOK P H i b (O.drop (loops a))
  | .cond _ a b, O => OsOK P H i a (O.take (loops a)) ∧ OsOK P H i b (O.drop (loops a))
  | .block _ c, O => OsOK P H i c O
  | .loop c, O => ∀ f, O = [f] → Sound P H i (.loop c) f
  | .rangeFunc g ps x y, O => ∀ f, O = [f] → Sound P H i (.rangeFunc g ps x y) f
  | _, _ => True

theorem preF_models {w0 : Start} {a : Act} {w : World} (hE : EnvOK P E) : (l : List Nat) → {st st' : ASt} → Models P w0 st a w → preF E l st = some st' → Models P w0 st' a w
  | [], st, st', h, hr => by cases hr; exact h
  | n :: r, st, st', h, hr => by
    unfold preF at hr
    cases hn : Nat.ble 1000000 n with
    | false => rw [hn] at hr; exact preF_models hE r h hr
    | true =>
      rw [hn] at hr
      simp only [cond_true] at hr
      split at hr
      · rename_i g id ver hs
        split at hr
        · rename_i cv u cells ho
          obtain ⟨conc, hm⟩ := h
          cases hc : (capA E u (.bptr id ver 0)).run st with
          | none => rw [hc] at hr; cases hr
          | some d =>
            rw [hc] at hr
            simp only [Option.bind_some] at hr
            obtain ⟨v, hv1, hv2⟩ := hm.slots _ _ hs
            have hv : VRel P w conc (okOf conc) (.bptr id ver 0) v := (hv2.yes (labs_nil _)).2
            have hf := (capA_spec hE hm hc hv (ids d.2) fun _ h => h).1
            exact preF_models hE r ⟨_, hm.freeze hf⟩ hr
        · exact preF_models hE r h hr
      · exact preF_models hE r h hr

theorem boolOf_rel {w0 : Start} {conc : Conc} {st : ASt} {a : Act} {w : World} (hE : EnvOK P E) (h : Mod P w0 conc st a w) {c : Operand} {t : Bool} (hr : ((rdA [] c).bind boolOf).run st = some t) : a.eval c = .bool t := by
  obtain ⟨x, h1, h2⟩ := RM.bind_some hr
  have hv := rdA_rel h (labs_nil _) h1
  cases x <;> simp only [boolOf] at h2 <;> try (cases h2; done)
  rename_i u d
  cases u <;> simp only [boolOf] at h2 <;> try (cases h2; done)
  cases h2
  obtain ⟨vs, e1, e2⟩ := hv
  exact rep_bool e1 e2

theorem leave_sound (hE : EnvOK P E) {w0 : Start} {K : Exit → ASt → Option R} {ans : R} {e : Exit} {st : ASt} {a : Act} {w : World} (hm : Models P w0 st a w) : (X : List (Way × Templ)) → leave E X (kOf K X) e st = some ans →
    ∃ st', Models P w0 st' a w ∧ K e st' = some ans
  | [], h => by cases h
  | x :: r, h => by
    simp only [leave, kOf] at h
    cases hi : x.1.is e with
    | true =>
      rw [hi] at h
      simp only [cond_true] at h
      cases hd : dec E x.2 st with
      | none => rw [hd] at h; cases h
      | some d =>
        rw [hd] at h
        have he : x.1.exit' = e := by
          cases hx : x.1 <;> cases e <;> simp [hx, Way.is, nbeq] at hi <;> simp [Way.exit', hi]
        rw [← he]
        exact ⟨_, dec_models hE hm hd, h⟩
    | false =>
      rw [hi] at h
      exact leave_sound hE hm r h

theorem loop_sound {n : Nat} {H : Hdl R} {i : Bool} (hE : EnvOK P E) {c : Code} {O : List (Ev R)} {T : Templ} {X : List (Way × Templ)} {body : denU T.tys → (denU T.tys → Option R) → conts R X → Option R}
    (hc : Sound P H i c (codeR E H c O)) (hb : ∀ d again k, codeR E H c O (mk T d) (turnR E T X again k) = body d again k) : Sound P H i (.loop c) (loopO n E T X body) := by
  intro r hr Inv hI K ans st a w w0 h hm hinv
  unfold loopO at h
  cases hd : dec E T st with
  | none => rw [hd] at h; cases h
  | some d =>
    rw [hd] at h
    simp only [Option.bind_some] at h
    have hm := dec_models hE hm hd
    clear hd
    refine wpIn_loop_rounds n ?_
    induction n generalizing d a w st w0 ans with
    | zero => cases h
    | succ n ih =>
      rw [loopG, ← hb] at h
      rw [roundsIn_succ]
      refine wpIn_mono (hc r hr Inv hI _ _ _ _ _ _ h hm hinv) ?_
      rintro e a' w' ⟨w1, ans', st', hm', hinv', h'⟩
      cases e with
      | normal =>
        show Code.roundsIn (Fr r) 7 P c _ n a' w'
        simp only [turnR] at h'
        cases hd : dec E T st' with
        | none => rw [hd] at h'; cases h'
        | some d' =>
          rw [hd] at h'
          exact ih ans' st' a' w' w1 hm' hinv' d' h' (dec_models hE hm' hd)
      | _ =>
        obtain ⟨st2, g1, g2⟩ := leave_sound hE hm' X h'
        exact ⟨w1, ans', st2, g1, hinv', g2⟩

/-! One yield. -/
theorem exec_yield {o : Oper} {f : Operand} {args : Array Operand} {tys : Array TypeId} (hop : o.op = .call { callee := .value f, args := args, argTypes := tys }) {a : Act} {l : Nat}
    (hf : a.eval f = .func (.yield l) #[] #[]) : execOp a.eval o = Instr.yield l (args.map a.eval) := by
  simp [execOp, hop, resolve, hf, Deferred.ofValue, invoke]

theorem fr_round {r : Option Nat} {n m : Nat} {l : Nat} {f : FuncId} {tmps : Array Value} {assign body : Code} {w : World} {Q : Ending → World → Prop} (h : RoundIn Fence.wide n P l f tmps assign body w Q) :
    RoundIn (Fr r) m P l f tmps assign body w Q := ⟨trivial, fun c cs _ => h.2 c cs (room_wide _)⟩

theorem yldR_sound (hE : EnvOK P E) {H : Hdl R} {r : Option Nat} {i : Bool} {Inv : Start → R → Prop} (hI : InvOK P H i Inv) {o : Oper} {st : ASt} {a : Act} {w : World} {w0 : Start} {p : List Operand × Nat} {K : ASt → Option R} {ans : R} {n : Nat}
    (hy : yldOp st o = some p) (h : yldR E H p.1 p.2 st K = some ans) (hm : Models P w0 st a w) (hinv : Inv w0 ans) {next : Act → World → Prop} {Q : Exit → Act → World → Prop}
    (hn : ∀ a' w' st' w0' ans', Models P w0' st' a' w' → Inv w0' ans' → K st' = some ans' → next a' w') : o.wpIn (Fr r) n P a w next Q := by
  obtain ⟨conc, hm⟩ := hm
  unfold yldOp at hy
  split at hy
  · rename_i t args tys d hg hop hdst
    split at hy
    · rename_i g hsl
      cases hy
      obtain ⟨v, hv1, hv2⟩ := hm.slots t _ hsl
      have hv : v = .func (.yield conc.yl) #[] #[] := (hv2.yes (labs_nil _)).2
      have hev : a.eval (.tmp t) = .func (.yield conc.yl) #[] #[] := by simp [Act.eval, hv1, hv]
      unfold yldR at h
      cases hty : H.tys.isEmpty with
      | true => rw [hty] at h; cases h
      | false =>
      rw [hty] at h
      simp only [cond_false] at h
      have hty : H.tys ≠ [] := fun e => by rw [e] at hty; cases hty
      rw [RM.runK_eq] at h
      cases hx : ((rdS [] args.toList).bind (packArgs E H.tys)).run st with
      | none => rw [hx] at h; cases h
      | some x =>
        rw [hx] at h
        simp only [Option.bind_some] at h
        cases h1 : applyU st none (.slot (some d) [] true (.v (.pure .bool true)) x.2) with
        | none => simp only [h1] at h; cases h
        | some s1 =>
          cases h2 : applyU st none (.slot (some d) [] true (.v (.pure .bool false)) x.2) with
          | none => simp only [h1, h2] at h; cases h
          | some s2 =>
            simp only [h1, h2] at h
            obtain ⟨l, g1, g2⟩ := RM.bind_some hx
            have hp := packArgs_spec hE hm H.tys g2 (rdS_rel hm (labs_nil _) g1)
            obtain ⟨f1, f2⟩ := hp (ids x.2) fun _ h => h
            obtain ⟨conc1, rfl, m1, m2, m3⟩ := frz_done hm f1
            have mr := m1.rebase
            have ml := m1.link
            have hinv1 := hI.link _ _ _ hinv ml
            have hcB : (frzL conc (ids x.2)).B = w0.B := m1.cB
            have hargs : ArgsRep P w (fun b => (w0.now (frzL conc (ids x.2)) a w).B b ∧ ¬ (w0.now (frzL conc (ids x.2)) a w).M b) H.tys (args.toList.map a.eval) x.1 := by
              have hok : ∀ b, okOf (frzL conc (ids x.2)) b ↔ (w0.B b ∧ ¬ ownedB (frzL conc (ids x.2)) b) := by
                intro b
                unfold okOf ownedB
                rw [hcB]
                refine and_congr Iff.rfl ⟨fun hh ⟨i, v, c, k1, k2⟩ => hh i v c k1 k2, fun hh i v c k1 k2 => hh ⟨i, v, c, k1, k2⟩⟩
              have : okOf (frzL conc (ids x.2)) = fun b => w0.B b ∧ ¬ ownedB (frzL conc (ids x.2)) b := funext fun b => propext (hok b)
              rw [this] at f2
              exact f2
            obtain ⟨fn, tmps, assign, body, y1, y2⟩ := hI.yld hty _ _ _ _ _ _ hinv1 mr.okS h hargs
            have hyl : (w0.now (frzL conc (ids x.2)) a w).yl = conc.yl := by show w0.yl = conc.yl; rw [← hm.cY]
            rw [hyl] at y1 y2
            have hd : ∀ c, o.op ≠ .defer c := by intro c hc; rw [hop] at hc; cases hc
            refine ⟨fun _ _ => trivial, ?_⟩
            rw [Oper.semAt_eq _ _ _ hd, exec_yield hop hev]
            have harr : (args.toList.map a.eval).toArray = args.map a.eval := by rw [← Array.toList_map, Array.toArray_toList]
            rw [harr] at y1
            have hrun : (Instr.yield conc.yl (args.map a.eval)).run P w = .ok (.round conc.yl fn tmps assign body) w := y1
            rw [hrun, Oper.uponIn_round]
            refine ⟨fun e => by simp [Fr, Fence.wide] at e, (fr_round y2).mono ?_⟩
            rintro e w' ⟨hk, b, rfl, ans', ha, hinv'⟩
            show next (a.put o.dst (.bool b)) w'
            rw [hdst]
            -- the state behind the round
            have hnow : (w0.now (frzL conc (ids x.2)) a w).w = w := rfl
            have hkB : ∀ b, b < w.heap.size → w0.B b → w'.heap[b]? = w.heap[b]? := hk.block
            let conc2 : Conc := ⟨(frzL conc (ids x.2)).m, fun b => (b < w.heap.size ∧ w0.B b) ∨ w'.heap.size ≤ b, (frzL conc (ids x.2)).yl⟩
            have hle : CLe (frzL conc (ids x.2)) conc2 := ⟨rfl, fun id cv c ow hc => ⟨cv, c, ow, hc, .inr ⟨rfl, rfl⟩⟩⟩
            have hokc : ∀ b, okOf (frzL conc (ids x.2)) b → b < w.heap.size → okOf conc2 b := fun b hb hlt => ⟨.inl ⟨hlt, by have := hb.1; rw [hcB] at this; exact this⟩, hb.2⟩
            have hx2 : Ext (okOf (frzL conc (ids x.2))) w w' := ⟨hk.size, fun b hb hlt => hkB b hlt (by have := hb.1; rw [hcB] at this; exact this)⟩
            have hs2 : Sub w (okOf (frzL conc (ids x.2))) (okOf conc2) := fun b hb hlt => hokc b hb hlt
            have mod2 : Mod P ((w0.now (frzL conc (ids x.2)) a w).after w') conc2 { st with heap := setObjs st.heap x.2 } a w' := {
              defers := rfl
              size := mr.size
              marks := mr.marks
              slots := fun d' sl hd' => by
                obtain ⟨u, k1, k2⟩ := mr.slots d' sl hd'
                exact ⟨u, k1, ⟨fun hl => ⟨(k2.yes hl).1, (k2.yes hl).2.mono hx2 hs2 hle⟩, k2.no⟩⟩
              heap := fun id ver o' ho => by
                obtain ⟨c, ow, k1, k2⟩ := mr.heap id ver o' ho
                refine ⟨c, ow, k1, k2.mono hx2 hs2 hle fun eo b' hb' => ?_⟩
                subst eo
                exact hkB b' (mr.base id ver c b' k1 hb').2 (m1.inB k1 hb')
              dead := mr.dead
              inj := mr.inj
              base := fun i v c b' k1 k2 => ⟨.inr ⟨i, v, c, k1, k2⟩, Nat.lt_of_lt_of_le (mr.base i v c b' k1 k2).2 hk.size⟩
              keeps := ⟨rfl, rfl, rfl, Nat.le_refl _, fun _ _ _ => rfl⟩
              cB := rfl
              cY := m1.cY
              okS := {
                up := fun b' hb' => .inr hb'
                mB := fun b' ⟨i, v, c, k1, k2⟩ => .inl ⟨(mr.base i v c b' k1 k2).2, m1.inB k1 k2⟩
                ds := fun d' hd' => by
                  have he : (w0.now (frzL conc (ids x.2)) a w).ds = [] := hI.nods hty _ _ hinv1
                  have hd'' : d' ∈ (w0.now (frzL conc (ids x.2)) a w).ds := hd'
                  rw [he] at hd''
                  cases hd''
                dn := by
                  have he : (w0.now (frzL conc (ids x.2)) a w).ds = [] := hI.nods hty _ _ hinv1
                  show (w0.now (frzL conc (ids x.2)) a w).ds.Nodup
                  rw [he]
                  exact List.nodup_nil
                lo := Nat.le_trans mr.okS.lo hk.size }
              fixed := m1.fixed }
            have fin : ∀ c s', applyU st none (.slot (some d) [] true (.v (.pure .bool c)) x.2) = some s' → Models P ((w0.now (frzL conc (ids x.2)) a w).after w') s' (a.put (some d) (.bool c)) w' := fun c s' hs' =>
              slot_done (W0 := x.2) (conc1 := conc2) mod2 hs' (vrel_bool (conc := conc2) c)
            cases b with
            | true => exact hn _ _ s1 _ ans' (fin true s1 h1) hinv' (by simpa using ha)
            | false => exact hn _ _ s2 _ ans' (fin false s2 h2) hinv' (by simpa using ha)
    · cases hy
  · cases hy

theorem opsY_sound (hE : EnvOK P E) {H : Hdl R} {r : Option Nat} {i : Bool} {Inv : Start → R → Prop} (hI : InvOK P H i Inv) {ops : Array Oper} {K : ASt → Option R} {n : Nat} {Q : Exit → Act → World → Prop} :
    ∀ (is : List Nat) (l : List Oper), is.map (fun i => ops[i]?) = l.map some → ∀ {st : ASt} {a : Act} {w : World} {w0 : Start} {ans : R}, opsY E H ops l st K = some ans → Models P w0 st a w → Inv w0 ans →
      (∀ a' w' st' w0' ans', Models P w0' st' a' w' → Inv w0' ans' → K st' = some ans' → Q .normal a' w') → wpOpsIn (Fr r) n P ops Q is a w
  | [], l, hl, st, a, w, w0, ans, h, hm, hinv, hq => by
    have : l = [] := by cases l <;> simp at hl ⊢
    subst this
    exact hq a w st w0 ans hm hinv h
  | i :: is, l, hl, st, a, w, w0, ans, h, hm, hinv, hq => by
    cases l with
    | nil => simp at hl
    | cons o l =>
      simp only [List.map_cons, List.cons.injEq] at hl
      obtain ⟨h1, h2⟩ := hl
      simp only [opsY] at h
      simp only [wpOpsIn, h1]
      cases hy : yldOp st o with
      | some p =>
        rw [hy] at h
        dsimp only at h
        have hw : Region.wanted o (yielded ops a.tmps) = true := by
          unfold yldOp at hy
          split at hy
          · rename_i hg _ _
            unfold Region.wanted
            rw [hg]
          · cases hy
        simp only [hw, if_true]
        exact yldR_sound hE hI hy h hm hinv fun a' w' st' w0' ans' hm' hinv' hk => opsY_sound hE hI is l h2 hk hm' hinv' hq
      | none =>
        rw [hy] at h
        dsimp only at h
        rw [opR_eq] at h
        cases hs : stepD E ops o st with
        | none => rw [hs] at h; cases h
        | some st1 =>
          rw [hs] at h
          simp only [Option.bind_some] at h
          have hstep := stepD_sound hE hm hs
          cases hw : Region.wanted o (yielded ops a.tmps) with
          | true =>
            simp only [if_true]
            exact op_in (stepD_no_defer hs) (hstep.1 hw _ Q fun a' w' hm' => opsY_sound hE hI is l h2 h hm' hinv hq)
          | false =>
            simp only [Bool.false_eq_true, if_false]
            exact ⟨fun _ _ => trivial, opsY_sound hE hI is l h2 h (hstep.2 hw) hinv hq⟩

theorem codeR_sound (hE : EnvOK P E) (hP : P.follows .mixedOrders = true) {H : Hdl R} {i : Bool} : (c : Code) → (O : List (Ev R)) → OsOK P H i c O → Sound P H i c (codeR E H c O)
  | .skip, O, _ => fun r _ Inv hI K ans st a w w0 h hm hinv => wpIn_skip ⟨w0, ans, st, hm, hinv, h⟩
  | .ret, O, _ => fun r _ Inv hI K ans st a w w0 h hm hinv => wpIn_ret ⟨w0, ans, st, hm, hinv, h⟩
  | .exit i, O, _ => fun r _ Inv hI K ans st a w w0 h hm hinv => wpIn_exit ⟨w0, ans, st, hm, hinv, h⟩
  | .seq x y, O, ho => fun r hr Inv hI K ans st a w w0 h hm hinv => by
    simp only [codeR] at h
    refine wpIn_seq (wpIn_mono (codeR_sound hE hP x _ ho.1 r hr Inv hI _ _ _ _ _ _ h hm hinv) ?_)
    rintro e a' w' ⟨w1, ans', st', hm', hinv', h'⟩
    cases e with
    | normal => exact codeR_sound hE hP y _ ho.2 r hr Inv hI _ _ _ _ _ _ h' hm' hinv'
    | _ => exact ⟨w1, ans', st', hm', hinv', h'⟩
  | .cond c x y, O, ho => fun r hr Inv hI K ans st a w w0 h hm hinv => by
    simp only [codeR, condR, RM.runK_eq] at h
    cases hrr : ((rdA [] c).bind boolOf).run st with
    | none => rw [hrr] at h; cases h
    | some t =>
      rw [hrr] at h
      simp only [Option.bind_some] at h
      obtain ⟨conc, hmod⟩ := hm
      have hev := boolOf_rel hE hmod hrr
      refine wpIn_cond hev ?_
      cases t with
      | true => exact codeR_sound hE hP x _ ho.1 r hr Inv hI _ _ _ _ _ _ h ⟨conc, hmod⟩ hinv
      | false => exact codeR_sound hE hP y _ ho.2 r hr Inv hI _ _ _ _ _ _ h ⟨conc, hmod⟩ hinv
  | .block id c, O, ho => fun r hr Inv hI K ans st a w w0 h hm hinv => by
    simp only [codeR] at h
    refine wpIn_block (wpIn_mono (codeR_sound hE hP c _ ho r hr Inv hI _ _ _ _ _ _ h hm hinv) ?_)
    rintro e a' w' ⟨w1, ans', st', hm', hinv', h'⟩
    cases e with
    | exit i =>
      simp only [nbeq] at h'
      by_cases hi : i = id
      · simp only [hi, decide_true, cond_true] at h'
        simp only [Exit.inBlock, hi, if_true]
        exact ⟨w1, ans', st', hm', hinv', h'⟩
      · simp only [hi, decide_false, cond_false] at h'
        simp only [Exit.inBlock, hi, if_false]
        exact ⟨w1, ans', st', hm', hinv', h'⟩
    | _ => exact ⟨w1, ans', st', hm', hinv', h'⟩
  | .loop c, O, ho => fun r hr Inv hI K ans st a w w0 h hm hinv => by
    cases O with
    | nil => cases h
    | cons f O =>
      cases O with
      | nil => exact ho f rfl r hr Inv hI K ans st a w w0 h hm hinv
      | cons _ _ => cases h
  | .rangeFunc g ps x y, O, ho => fun r hr Inv hI K ans st a w w0 h hm hinv => by
    cases O with
    | nil => cases h
    | cons f O =>
      cases O with
      | nil => exact ho f rfl r hr Inv hI K ans st a w w0 h hm hinv
      | cons _ _ => cases h
  | .region id ops draw, O, _ => fun r hr Inv hI K ans st a w w0 h hm hinv => by
    simp only [codeR, regY] at h
    cases draw with
    | false =>
      simp only [cond_false] at h
      cases hN : E.N.isEmpty with
      | true =>
        rw [hN] at h
        simp only [cond_true] at h
        exact wpIn_region (opsY_sound hE hI _ _ (range_ops ops) h hm hinv fun a' w' st' w0' ans' hm' hinv' hk => ⟨w0', ans', _, unlab_models hm', hinv', hk⟩)
      | false =>
        rw [hN] at h
        simp only [cond_false] at h
        exact wpIn_region (opsM_sound hE (fun st2 a' w' hm' hk => ⟨w0, ans, _, unlab_models hm', hinv, hk⟩) _ _ _ (range_ops ops) hm h)
    | true =>
      simp only [cond_true] at h
      cases hf : fwd 0 ops.toList with
      | false => rw [hf] at h; cases h
      | true =>
        rw [hf] at h
        simp only [cond_true] at h
        split at h
        rotate_left
        · cases h
        rename_i st1 hpre
        have hm := preF_models hE _ hm hpre
        clear hpre
        obtain ⟨gs, st2, g1, g2, g3, g4⟩ := opsRD_runs ops.toList [] st1 (fun k o hk => by simpa using hk) h
        obtain ⟨rr, b1, b2⟩ := bef_spec ops.toList []
        have hm0 : Models P w0 st1 a { w with drawn := w.drawn + 1 } := by
          obtain ⟨conc, hmod⟩ := hm
          exact ⟨conc, hmod.grow (Keeps.drew w)⟩
        let F : Nat → FP := fun i => gs.getD i ⟨[], []⟩
        have hruns := g3 F (fun k g hg => by simp [F, hg])
        refine wpIn_region_any hP ?_
        refine wpAny_runs hE (F := F) (B := fun i => (bef ops.toList []).getD i 0) (st2 := st2) ?_ ?_ ?_ (fun a' w' hm' => ⟨w0, ans, _, unlab_models hm', hinv, g2⟩) ops.size _ (List.range ops.size) (by simp) (List.pairwise_lt_range) (by simp) ?_ ?_ hm0 ?_
        · intro i o ho j hj
          rw [b1, List.nil_append] at hj
          exact b2 i o (by simpa using ho) j hj
        · intro i o ho
          have := fwd_spec ops.toList 0 hf i o (by simpa using ho)
          simpa using this
        · intro i j hi hj
          have hi' : i < gs.length := by rw [g1]; simpa using hi
          have hj' : j < gs.length := by omega
          have := g4 i j gs[j] gs[i] (by simp) hj (by simp [hi']) (by simp [hj'])
          simpa [F, hi', hj'] using this
        · intro i
          simp
          intro hi
          simp [Array.getD, hi]
        · intro i hi hn
          exact absurd (by simpa using hi) hn
        · rw [List.range_eq_range']
          simpa using hruns
  | .scope _, O, _ => fun r hr Inv hI K ans st a w w0 h hm hinv => by cases h
  | .label _, O, _ => fun r hr Inv hI K ans st a w w0 h hm hinv => by cases h
  | .goto _, O, _ => fun r hr Inv hI K ans st a w w0 h hm hinv => by cases h
  | .refuse _, O, _ => fun r hr Inv hI K ans st a w w0 h hm hinv => by cases h

end Go.Abs

set_option linter.unusedSimpArgs false
set_option linter.unusedVariables false
namespace Go.Abs
open Go
variable {P : Program} {E : Env} {R : Type}

def seqOf (e : Ty) : AVal → RM (List e.den)
  | .pure u d => .ofOpt (castTy (t := u) (t' := .seq e) d)
  | _ => .fail

/-- The slots that outlive a round. -/
def onlyF (F : List Nat) (st : ASt) : ASt := { N := st.N, marks := [], slots := st.slots.filter fun p => F.any (Nat.beq p.1), heap := st.heap, fixed := [] }

def mkB (T : Templ) (F : List Nat) (p : Nat) (e : Ty) (d : denU T.tys) (x : e.den) : ASt :=
  { N := T.N, marks := [], slots := Map.set (mk T d).slots p ⟨[], true, .v (.pure e x)⟩, heap := (mk T d).heap, fixed := F }

def turnB (E : Env) (T : Templ) (F : List Nat) (X : List (Way × Templ)) (again : denU T.tys → Option R) (k : conts R X) : Exit → ASt → Option R
  | .normal, st => bif eqN st.fixed F && Nat.beq st.N T.N then (dec E T (onlyF F (unlab st))).bind again else none
  | e, st => bif eqN st.fixed F && Nat.beq st.N T.N then leave E X k e (onlyF F (unlab st)) else none

/-- Behind the assignment to the loop's variable: the body. -/
def thenB (K : ASt → Option R) : Exit → ASt → Option R
  | .normal, st => K st
  | _, _ => none

/-- The evaluator of a loop over a function. -/
def rangeO (E : Env) (e : Ty) (g : Operand) (T : Templ) (X : List (Way × Templ)) (body : denU T.tys → e.den → (denU T.tys → Option R) → conts R X → Option R) : Ev R := fun st K =>
  (dec E T st).bind fun d => ((rdA [] g).bind (seqOf e)).runK (mk T d) fun xs => rangeG body (kOf K X) (fun d => K .normal (mk T d)) xs d

theorem mk_head {T : Templ} (d : denU T.tys) : (mk T d).N = T.N ∧ (mk T d).marks = [] ∧ (mk T d).fixed = T.fx := by
  unfold mk
  split
  · split <;> exact ⟨rfl, rfl, rfl⟩
  · exact ⟨rfl, rfl, rfl⟩

theorem get_filter_any {α : Type} (F : List Nat) (m : List (Nat × α)) (k : Nat) : Map.get (m.filter fun p => F.any (Nat.beq p.1)) k = if F.any (Nat.beq k) then Map.get m k else none :=
  Map.get_filter (fun n => F.any (Nat.beq n)) m k

/-- A state seen from another activation with the same slots, and with other blocks that are ok. -/
theorem Mod.move {s s' : Start} {conc : Conc} {st st' : ASt} {a a' : Act} {w w' : World} (h : Mod P s conc st a w) (B' : Nat → Prop)
    (hN : st'.N = st.N) (hmk : ∀ d sl, Map.get st'.slots d = some sl → Map.get st.slots d = some sl ∧ sl.L = [] ∧ a'.tmps[d]? = a.tmps[d]?) (hheap : ∀ id, Map.get st'.heap id = Map.get st.heap id)
    (hsz : a'.tmps.size = a.tmps.size) (hds : a'.defers = s'.ds) (hfx : ∀ d ∈ st'.fixed, a'.tmps[d]? = s'.tmps[d]?)
    (hw : w.heap.size ≤ w'.heap.size) (hok : ∀ b, b < w.heap.size → conc.B b → w'.heap[b]? = w.heap[b]?) (hBB : ∀ b, b < w.heap.size → conc.B b → B' b)
    (hsw : s'.w = w') (hsB : s'.B = B') (hsM : ∀ b, ownedB conc b → s'.M b) (hsy : s'.yl = s.yl) (hS : StartOK s') : Mod P s' ⟨conc.m, B', conc.yl⟩ st' a' w' := by
  have hle : CLe conc ⟨conc.m, B', conc.yl⟩ := ⟨rfl, fun id cv c ow hc => ⟨cv, c, ow, hc, .inr ⟨rfl, rfl⟩⟩⟩
  have hx : Ext (okOf conc) w w' := ⟨hw, fun b hb hlt => hok b hlt hb.1⟩
  have hs : Sub w (okOf conc) (okOf ⟨conc.m, B', conc.yl⟩) := fun b hb hlt => ⟨hBB b hlt hb.1, hb.2⟩
  exact {
    defers := hds
    size := by rw [hsz, hN]; exact h.size
    marks := fun d sl hd p hp => by
      have := (hmk d sl hd).2.1
      rw [this] at hp
      cases hp
    slots := fun d sl hd => by
      obtain ⟨g1, g2, g3⟩ := hmk d sl hd
      obtain ⟨v, k1, k2⟩ := h.slots d sl g1
      refine ⟨v, g3.trans k1, ⟨fun _ => ?_, fun hn => absurd (by rw [g2]; exact labs_nil _) hn⟩⟩
      have := k2.yes (by rw [g2]; exact labs_nil _)
      exact ⟨this.1, this.2.mono hx hs hle⟩
    heap := fun id ver o ho => by
      rw [hheap] at ho
      obtain ⟨c, ow, k1, k2⟩ := h.heap id ver o ho
      refine ⟨c, ow, k1, k2.mono hx hs hle fun eo b hb => ?_⟩
      subst eo
      exact hok b (h.base id ver c b k1 hb).2 (by rw [h.cB]; exact h.inB k1 hb)
    dead := fun id hd => h.dead id (by rw [← hheap]; exact hd)
    inj := h.inj
    base := fun i v c b hi hb => ⟨.inr (hsM b ⟨i, v, c, hi, hb⟩), Nat.lt_of_lt_of_le (h.base i v c b hi hb).2 hw⟩
    keeps := by rw [← hsw]; exact ⟨rfl, rfl, rfl, Nat.le_refl _, fun _ _ _ => rfl⟩
    cB := hsB.symm
    cY := h.cY.trans hsy.symm
    okS := hS
    fixed := hfx }

/-- The same activation and slots, in a world where what is ok is as it was. -/
theorem Mod.move' {s s' : Start} {conc : Conc} {st : ASt} {a : Act} {w w' : World} (h : Mod P s conc st a w) (B' : Nat → Prop)
    (hw : w.heap.size ≤ w'.heap.size) (hok : ∀ b, b < w.heap.size → conc.B b → w'.heap[b]? = w.heap[b]?) (hBB : ∀ b, b < w.heap.size → conc.B b → B' b)
    (hsw : s'.w = w') (hsB : s'.B = B') (hsM : ∀ b, ownedB conc b → s'.M b) (hsy : s'.yl = s.yl) (hds : a.defers = s'.ds) (htm : s'.tmps = s.tmps) (hS : StartOK s') : Mod P s' ⟨conc.m, B', conc.yl⟩ st a w' := by
  have hle : CLe conc ⟨conc.m, B', conc.yl⟩ := ⟨rfl, fun id cv c ow hc => ⟨cv, c, ow, hc, .inr ⟨rfl, rfl⟩⟩⟩
  have hx : Ext (okOf conc) w w' := ⟨hw, fun b hb hlt => hok b hlt hb.1⟩
  have hs : Sub w (okOf conc) (okOf ⟨conc.m, B', conc.yl⟩) := fun b hb hlt => ⟨hBB b hlt hb.1, hb.2⟩
  exact {
    defers := hds
    size := h.size
    marks := h.marks
    slots := fun d sl hd => by
      obtain ⟨v, k1, k2⟩ := h.slots d sl hd
      exact ⟨v, k1, ⟨fun hl => ⟨(k2.yes hl).1, (k2.yes hl).2.mono hx hs hle⟩, k2.no⟩⟩
    heap := fun id ver o ho => by
      obtain ⟨c, ow, k1, k2⟩ := h.heap id ver o ho
      refine ⟨c, ow, k1, k2.mono hx hs hle fun eo b hb => ?_⟩
      subst eo
      exact hok b (h.base id ver c b k1 hb).2 (by rw [h.cB]; exact h.inB k1 hb)
    dead := h.dead
    inj := h.inj
    base := fun i v c b hi hb => ⟨.inr (hsM b ⟨i, v, c, hi, hb⟩), Nat.lt_of_lt_of_le (h.base i v c b hi hb).2 hw⟩
    keeps := by rw [← hsw]; exact ⟨rfl, rfl, rfl, Nat.le_refl _, fun _ _ _ => rfl⟩
    cB := hsB.symm
    cY := h.cY.trans hsy.symm
    okS := hS
    fixed := fun s hs => by rw [htm]; exact h.fixed s hs }

/-- What holds at each point between two rounds, beside the state. base: the world at the loop's start; own0: what was owned there. -/
structure Between (P : Program) (w0 : Start) (wb : World) (own0 : Nat → Prop) (a : Act) (fn : FuncId) (ps : Array Tmp) (ca cb : Code) (stt : LoopState) (pe : Option Code) (A S : Nat → Prop) (conc : Conc) (st : ASt) (W : World) : Prop where
  mod : Mod P ⟨W, fun b => (b < wb.heap.size ∧ w0.B b) ∨ (wb.heap.size + 2 ≤ b ∧ ¬ S b), ownedB conc, a.defers, a.tmps, w0.yl, w0.lo⟩ conc st a W
  rec' : W.heap[wb.heap.size + 1]? = some (.loop { state := stt, pending := pe, fn, tmps := a.tmps, params := ps, assign := ca, body := cb, defers := wb.heap.size })
  dfr : W.heap[wb.heap.size]? = some (.deferred (some []))
  os : W.os = wb.os
  tape : W.tape = wb.tape
  output : W.output = wb.output
  size : wb.heap.size + 2 ≤ W.heap.size
  old : ∀ b, b < wb.heap.size → ¬ own0 b → W.heap[b]? = wb.heap[b]?
  own : ∀ b, ownedB conc b → own0 b ∨ wb.heap.size + 2 ≤ b
  disj : ∀ b, ownedB conc b → ¬ A b
  SA : ∀ b, S b → A b
  A2 : ∀ b, A b → wb.heap.size + 2 ≤ b ∧ b < W.heap.size

section
variable {w0 : Start} {wb : World} {own0 : Nat → Prop} {a : Act} {fn : FuncId} {ps : Array Tmp} {ca cb : Code} {stt : LoopState} {pe : Option Code} {conc : Conc} {st : ASt}

/-- The iterator takes a step. -/
theorem Between.steps {A S A' S' : Nat → Prop} {W W' : World} (h : Between P w0 wb own0 a fn ps ca cb stt pe A S conc st W) (hmk : st.marks = [] ∧ ∀ d sl, Map.get st.slots d = some sl → sl.L = []) (hfx : st.fixed = [])
    (hk : Steps A S W A' S' W') (hds : ∀ d ∈ a.defers, ∃ D, d = { target := .collected D, args := #[] } ∧ wb.heap[D]? = some (.deferred (some [])) ∧ ¬ own0 D ∧ ¬ w0.B D ∧ w0.lo ≤ D) :
    ∃ conc', conc'.m = conc.m ∧ Between P w0 wb own0 a fn ps ca cb stt pe A' S' conc' st W' := by
  have hsz := h.size
  have hsz' := hk.size
  have notS : ∀ b, b < wb.heap.size + 2 → ¬ S b := fun b hb hs => by have := (h.A2 b (h.SA b hs)).1; omega
  have hB : conc.B = fun b => (b < wb.heap.size ∧ w0.B b) ∨ (wb.heap.size + 2 ≤ b ∧ ¬ S b) := h.mod.cB
  have hBS : ∀ b, conc.B b → ¬ S b := fun b hb => by
    rw [hB] at hb
    rcases hb with ⟨h1, _⟩ | ⟨_, h2⟩
    · exact notS b (by omega)
    · exact h2
  have hBB : ∀ b, b < W.heap.size → conc.B b → (b < wb.heap.size ∧ w0.B b) ∨ (wb.heap.size + 2 ≤ b ∧ ¬ S' b) := fun b hlt hb => by
    rw [hB] at hb
    rcases hb with hb | ⟨h1, h2⟩
    · exact .inl hb
    · refine .inr ⟨h1, fun hs => ?_⟩
      rcases hk.S2 b hs with h3 | h3
      · exact h2 h3
      · omega
  have hold : ∀ b, b < wb.heap.size + 2 → W'.heap[b]? = W.heap[b]? := fun b hb => hk.block b (by omega) (notS b hb)
  refine ⟨⟨conc.m, fun b => (b < wb.heap.size ∧ w0.B b) ∨ (wb.heap.size + 2 ≤ b ∧ ¬ S' b), conc.yl⟩, rfl, ?_⟩
  refine {
    mod := h.mod.move _ rfl (fun d sl hd => ⟨hd, hmk.2 d sl hd, rfl⟩) (fun _ => rfl) rfl rfl (fun d hd => absurd hd (by rw [hfx]; simp)) hsz' (fun b hlt hb => hk.block b hlt (hBS b hb)) hBB rfl rfl (fun b hb => hb) rfl ?_
    rec' := (hold _ (by omega)).trans h.rec'
    dfr := (hold _ (by omega)).trans h.dfr
    os := hk.os.trans h.os
    tape := hk.tape.trans h.tape
    output := hk.output.trans h.output
    size := by omega
    old := fun b hb ho => (hold b (by omega)).trans (h.old b hb ho)
    own := h.own
    disj := fun b hb hA => by
      rcases hk.A2 b hA with h1 | h1
      · exact h.disj b hb h1
      · obtain ⟨i, v, c, g1, g2⟩ := hb
        have := (h.mod.base i v c b g1 g2).2
        omega
    SA := hk.SA
    A2 := fun b hb => ⟨by
      rcases hk.A2 b hb with h1 | h1
      · exact (h.A2 b h1).1
      · omega, hk.A3 b hb⟩ }
  exact {
    up := fun b hb => .inr ⟨by have h1 : W'.heap.size ≤ b := hb
                               omega, fun hs => by
      have := hk.A3 b (hk.SA b hs)
      have h1 : W'.heap.size ≤ b := hb
      omega⟩
    mB := fun b ⟨i, v, c, g1, g2⟩ => hBB b (h.mod.base i v c b g1 g2).2 (by rw [h.mod.cB]; exact h.mod.inB g1 g2)
    ds := fun d hd => by
      obtain ⟨D, e, h1, h2, h5⟩ := hds d hd
      have hlt := (Array.getElem?_eq_some_iff.1 h1).1
      refine ⟨D, e, ((hold D (by omega)).trans (h.old D hlt h2)).trans h1, fun hb => ?_, h5.2⟩
      rcases hb with ⟨_, h3⟩ | ⟨h3, _⟩
      · exact h5.1 h3
      · omega
    dn := h.mod.okS.dn
    lo := by
      have := h.mod.okS.lo
      have : w0.lo ≤ W.heap.size := this
      show w0.lo ≤ W'.heap.size
      omega }
end

theorem mkSlots_labs : {l : List (Nat × SlotT)} → {r : List Dyn} → {m : List (Nat × Slot)} → {r' : List Dyn} → mkSlots l r = some (m, r') → ∀ p ∈ m, p.2.L = []
  | [], r, m, r', h => by
    simp only [mkSlots, Option.some.injEq, Prod.mk.injEq] at h
    intro p hp
    rw [← h.1] at hp
    cases hp
  | (d, t) :: l, r, m, r', h => by
    simp only [mkSlots] at h
    split at h
    · split at h
      · rename_i m' r2 hm
        simp only [Option.some.injEq, Prod.mk.injEq] at h
        obtain ⟨rfl, _⟩ := h
        intro p hp
        rcases List.mem_cons.1 hp with rfl | hp
        · rfl
        · exact mkSlots_labs hm p hp
      · cases h
    · cases h

theorem mk_labs {T : Templ} (d : denU T.tys) {k : Nat} {sl : Slot} (h : Map.get (mk T d).slots k = some sl) : sl.L = [] := by
  unfold mk at h
  split at h
  · rename_i s r hs
    split at h
    · exact mkSlots_labs hs _ (Map.get_mem h)
    · cases h
  · cases h

theorem leave_mod (hE : EnvOK P E) {w0 : Start} {K : Exit → ASt → Option R} {ans : R} {e : Exit} {conc : Conc} {st : ASt} {a : Act} {w : World} (hm : Mod P w0 conc st a w) : (X : List (Way × Templ)) → leave E X (kOf K X) e st = some ans →
    ∃ x ∈ X, ∃ d conc', e = x.1.exit' ∧ Mod P w0 conc' (mk x.2 d) a w ∧ (∀ b, ownedB conc' b → ownedB conc b) ∧ K e (mk x.2 d) = some ans
  | [], h => by cases h
  | x :: r, h => by
    simp only [leave, kOf] at h
    cases hi : x.1.is e with
    | true =>
      rw [hi] at h
      simp only [cond_true] at h
      cases hd : dec E x.2 st with
      | none => rw [hd] at h; cases h
      | some d =>
        rw [hd] at h
        have he : x.1.exit' = e := by
          cases hx : x.1 <;> cases e <;> simp [hx, Way.is, nbeq] at hi <;> simp [Way.exit', hi]
        obtain ⟨conc', h1, h2⟩ := dec_mod hE hm hd
        exact ⟨x, List.mem_cons_self, d, conc', he.symm, h1, fun b ⟨i, v, c, k1, k2⟩ => h2 i v c b k1 k2, by rw [← he]; exact h⟩
    | false =>
      rw [hi] at h
      obtain ⟨y, hy, r⟩ := leave_mod hE hm r h
      exact ⟨y, List.mem_cons_of_mem _ hy, r⟩

/-- The jump that a round leaves. -/
def jumpOf : Exit → Code
  | .exit i => .exit i
  | _ => .ret

theorem onlyF_get (F : List Nat) (st : ASt) (k : Nat) : Map.get (onlyF F st).slots k = if F.any (Nat.beq k) then Map.get st.slots k else none := get_filter_any F st.slots k

/-- Behind a round's body: the state as the loop sees it. -/
theorem Between.round {w0 : Start} {wb : World} {own0 : Nat → Prop} {a a3 : Act} {fn : FuncId} {ps : Array Tmp} {ca cb : Code} {A S : Nat → Prop} {conc conc3 : Conc} {st st3 : ASt} {W W3 W4 : World} {p : Nat} {v : Value} {F : List Nat} {stt : LoopState} {pe : Option Code}
    {st4 : LoopState} {pe4 : Option Code} (h : Between P w0 wb own0 a fn ps ca cb stt pe A S conc st W) {sE : Start} (hm : Mod P sE conc3 st3 a3 W3) (hfx : st3.fixed = F) (hp : p ∉ F) (htm : sE.tmps = a.tmps.setIfInBounds p v) (hsz3 : a3.tmps.size = a.tmps.size)
    (hlab : ∀ k sl, Map.get st3.slots k = some sl → F.any (Nat.beq k) = true → sl.L = [])
    (hB : sE.B = fun b => (b < wb.heap.size ∧ w0.B b) ∨ (wb.heap.size + 2 ≤ b ∧ ¬ S b)) (hyl : sE.yl = w0.yl) (hlo : sE.lo = w0.lo)
    (hos : W3.os = W.os) (htape : W3.tape = W.tape) (hout : W3.output = W.output) (hsize : W.heap.size ≤ W3.heap.size) (hblk : ∀ b, b < W.heap.size → ¬ ownedB conc b → b ≠ wb.heap.size + 1 → W3.heap[b]? = W.heap[b]?)
    (hown : ∀ b, ownedB conc3 b → ownedB conc b ∨ W.heap.size ≤ b) (hds : ∀ d ∈ a.defers, ∃ D, d = { target := .collected D, args := #[] } ∧ wb.heap[D]? = some (.deferred (some [])) ∧ ¬ own0 D ∧ ¬ w0.B D ∧ w0.lo ≤ D)
    (hW4 : W4 = W3.putObj (wb.heap.size + 1) (.loop { state := st4, pending := pe4, fn, tmps := a.tmps, params := ps, assign := ca, body := cb, defers := wb.heap.size })) :
    ∃ conc4, conc4.m = conc3.m ∧ Between P w0 wb own0 a fn ps ca cb st4 pe4 A S conc4 (onlyF F st3) W4 := by
  have hs := h.size
  have notOwn : ∀ b, b < wb.heap.size + 2 → ¬ own0 b → ¬ ownedB conc b := fun b hb ho hc => by
    rcases h.own b hc with h1 | h1
    · exact ho h1
    · omega
  have h4 : ∀ b, b ≠ wb.heap.size + 1 → W4.heap[b]? = W3.heap[b]? := fun b hb => by rw [hW4]; exact World.putObj_heap_other hb
  have hsz4 : W4.heap.size = W3.heap.size := by rw [hW4]; simp [World.putObj]
  have hl3 : wb.heap.size + 1 < W3.heap.size := by omega
  have hB3 : conc3.B = fun b => (b < wb.heap.size ∧ w0.B b) ∨ (wb.heap.size + 2 ≤ b ∧ ¬ S b) := hm.cB.trans hB
  have hBl : ¬ conc3.B (wb.heap.size + 1) := by
    rw [hB3]
    rintro (⟨h1, _⟩ | ⟨h1, _⟩) <;> omega
  have hslot : ∀ d sl, Map.get (onlyF F st3).slots d = some sl → Map.get st3.slots d = some sl ∧ sl.L = [] ∧ a.tmps[d]? = a3.tmps[d]? := by
    intro d sl hd
    rw [onlyF_get] at hd
    split at hd
    · rename_i hF
      have hmem : d ∈ F := by
        obtain ⟨q, hq, he⟩ := List.any_eq_true.1 hF
        rw [nbeq_true he]; exact hq
      refine ⟨hd, hlab d sl hd hF, ?_⟩
      rw [hm.fixed d (by rw [hfx]; exact hmem), htm, Array.getElem?_setIfInBounds_ne (fun e => hp (by rw [e]; exact hmem))]
    · cases hd
  have hold : ∀ b, b < wb.heap.size + 2 → ¬ ownedB conc b → b ≠ wb.heap.size + 1 → W4.heap[b]? = W.heap[b]? := fun b hb ho hn => (h4 b hn).trans (hblk b (by omega) ho hn)
  have hinB : ∀ b, ownedB conc3 b → conc3.B b := fun b ⟨i, v, c, g1, g2⟩ => by rw [hm.cB]; exact hm.inB g1 g2
  refine ⟨⟨conc3.m, fun b => (b < wb.heap.size ∧ w0.B b) ∨ (wb.heap.size + 2 ≤ b ∧ ¬ S b), conc3.yl⟩, rfl, ?_⟩
  refine {
    mod := hm.move _ rfl hslot (fun _ => rfl) hsz3.symm rfl (fun d hd => by cases hd) (by omega) (fun b hlt hb => h4 b fun e => hBl (by rw [← e]; exact hb)) (fun b _ hb => by rw [hB3] at hb; exact hb) rfl rfl (fun b hb => hb) hyl.symm ?_
    rec' := by rw [hW4]; exact World.putObj_heap_same hl3
    dfr := (hold _ (by omega) (fun hc => ?_) (by omega)).trans h.dfr
    os := by rw [hW4]; exact hos.trans h.os
    tape := by rw [hW4]; exact htape.trans h.tape
    output := by rw [hW4]; exact hout.trans h.output
    size := by omega
    old := fun b hb ho => (hold b (by omega) (notOwn b (by omega) ho) (by omega)).trans (h.old b hb ho)
    own := fun b hb => by
      rcases hown b hb with h1 | h1
      · exact h.own b h1
      · exact .inr (by omega)
    disj := fun b hb hA => by
      rcases hown b hb with h1 | h1
      · exact h.disj b h1 hA
      · have := (h.A2 b hA).2
        omega
    SA := h.SA
    A2 := fun b hb => ⟨(h.A2 b hb).1, by have := (h.A2 b hb).2; omega⟩ }
  · exact {
      up := fun b hb => .inr ⟨by
        have h1 : W4.heap.size ≤ b := hb
        omega, fun hs => by
        have := (h.A2 b (h.SA b hs)).2
        have h1 : W4.heap.size ≤ b := hb
        omega⟩
      mB := fun b hb => by have := hinB b hb; rw [hB3] at this; exact this
      ds := fun d hd => by
        obtain ⟨D, e, h1, h2, h5⟩ := hds d hd
        have hlt := (Array.getElem?_eq_some_iff.1 h1).1
        refine ⟨D, e, ((hold D (by omega) (notOwn D (by omega) h2) (by omega)).trans (h.old D hlt h2)).trans h1, fun hb => ?_, h5.2⟩
        rcases hb with ⟨_, h3⟩ | ⟨h3, _⟩
        · exact h5.1 h3
        · omega
      dn := h.mod.okS.dn
      lo := by
        have := h.mod.okS.lo
        have : w0.lo ≤ W.heap.size := this
        show w0.lo ≤ W4.heap.size
        omega }
  · obtain ⟨i, v, c, g1, g2⟩ := hc
    have hb := h.mod.inB g1 g2
    rcases hb with ⟨h1, _⟩ | ⟨h1, _⟩ <;> omega

/-- A state that holds no more than the one before. -/
theorem Between.narrow {w0 : Start} {wb : World} {own0 : Nat → Prop} {a : Act} {fn : FuncId} {ps : Array Tmp} {ca cb : Code} {A S : Nat → Prop} {conc conc' : Conc} {st st' : ASt} {W : World} {stt : LoopState} {pe : Option Code}
    (h : Between P w0 wb own0 a fn ps ca cb stt pe A S conc st W) (hm : Mod P ⟨W, fun b => (b < wb.heap.size ∧ w0.B b) ∨ (wb.heap.size + 2 ≤ b ∧ ¬ S b), ownedB conc, a.defers, a.tmps, w0.yl, w0.lo⟩ conc' st' a W)
    (hs : ∀ b, ownedB conc' b → ownedB conc b) : ∃ conc2, Between P w0 wb own0 a fn ps ca cb stt pe A S conc2 st' W := by
  have hc : conc'.B = fun b => (b < wb.heap.size ∧ w0.B b) ∨ (wb.heap.size + 2 ≤ b ∧ ¬ S b) := hm.cB
  refine ⟨⟨conc'.m, fun b => (b < wb.heap.size ∧ w0.B b) ∨ (wb.heap.size + 2 ≤ b ∧ ¬ S b), conc'.yl⟩, {
    mod := Mod.move' hm _ (Nat.le_refl _) (fun _ _ _ => rfl) (fun b _ hb => by rw [hc] at hb; exact hb) rfl rfl (fun b hb => hb) rfl rfl rfl {
      up := h.mod.okS.up
      mB := fun b hb => h.mod.okS.mB b (hs b hb)
      ds := h.mod.okS.ds
      dn := h.mod.okS.dn
      lo := h.mod.okS.lo }
    rec' := h.rec'
    dfr := h.dfr
    os := h.os
    tape := h.tape
    output := h.output
    size := h.size
    old := h.old
    own := fun b hb => h.own b (hs b hb)
    disj := fun b hb => h.disj b (hs b hb)
    SA := h.SA
    A2 := h.A2 }⟩

/-- What the texts of a range's parts owe. -/
structure RangeOK (P : Program) {R : Type} (E : Env) (e : Ty) (p : Nat) (ca cb : Code) (Oa Ob : List (Ev R)) (T : Templ) (F : List Nat) (X : List (Way × Templ)) (body : denU T.tys → e.den → (denU T.tys → Option R) → conts R X → Option R) : Prop where
  fx : T.fx = []
  pN : p < T.N
  pF : p ∉ F
  xfx : ∀ x ∈ X, x.2.fx = []
  a : Sound P (Hdl.no (R := R)) true ca (codeR E Hdl.no ca Oa)
  b : Sound P (Hdl.no (R := R)) true cb (codeR E Hdl.no cb Ob)
  eq : ∀ d x again k, codeR E Hdl.no ca Oa (mkB T F p e d x) (thenB fun st => codeR E Hdl.no cb Ob st (turnB E T F X again k)) = body d x again k

/-- One round. -/
theorem round_ok (hE : EnvOK P E) {e : Ty} {p : Nat} {ca cb : Code} {Oa Ob : List (Ev R)} {T : Templ} {F : List Nat} {X : List (Way × Templ)} {body : denU T.tys → e.den → (denU T.tys → Option R) → conts R X → Option R}
    (hR : RangeOK P E e p ca cb Oa Ob T F X body) {w0 : Start} {wb : World} {own0 : Nat → Prop} {a : Act} {fn : FuncId} {A S : Nat → Prop} {conc : Conc} {W : World} {d : denU T.tys} {x : e.den} {cs : List Value}
    (h : Between P w0 wb own0 a fn #[p] ca cb .ready none A S conc (mk T d) W) (hds : ∀ d ∈ a.defers, ∃ D, d = { target := .collected D, args := #[] } ∧ wb.heap[D]? = some (.deferred (some [])) ∧ ¬ own0 D ∧ ¬ w0.B D ∧ w0.lo ≤ D)
    (hx : Rep P e W (okOf conc) cs x) {K : Exit → ASt → Option R} {again : denU T.tys → Option R} {ans : R} (hans : body d x again (kOf K X) = some ans) :
    YieldAt Fence.wide 5 P (wb.heap.size + 1) #[e.val cs] W fun en W' => (∀ b, b < W.heap.size → ¬ ownedB conc b → b ≠ wb.heap.size + 1 → W'.heap[b]? = W.heap[b]?) ∧ W.heap.size ≤ W'.heap.size ∧ W'.os = W.os ∧ W'.tape = W.tape ∧ W'.output = W.output ∧
      ((en = .returned (.bool true) ∧ ∃ conc' d', Between P w0 wb own0 a fn #[p] ca cb .ready none A S conc' (mk T d') W' ∧ again d' = some ans) ∨
       (en = .returned (.bool false) ∧ ∃ conc', ∃ y ∈ X, ∃ d', Between P w0 wb own0 a fn #[p] ca cb .done (some (jumpOf y.1.exit')) A S conc' (mk y.2 d') W' ∧ K y.1.exit' (mk y.2 d') = some ans)) := by
  have hs := h.size
  have hrec := h.rec'
  have hy := run_yield (P := P) (args := #[e.val cs]) hrec rfl
  refine ⟨_, _, _, _, hy, ?_⟩
  dsimp only
  -- the activation of the round
  have haR : (#[p].zip #[e.val cs]).foldl (fun tmps (x : Nat × Value) => tmps.setIfInBounds x.1 x.2) a.tmps = a.tmps.setIfInBounds p (e.val cs) := by simp [Array.zip]
  have hnl : ¬ ownedB conc (wb.heap.size + 1) := fun ⟨i, v, c, g1, g2⟩ => by
    rcases h.mod.inB g1 g2 with ⟨h1, _⟩ | ⟨h1, _⟩ <;> omega
  obtain ⟨hmN, hmm, hmf⟩ := mk_head d
  let a0 : Act := { tmps := a.tmps, defers := [] }
  let aR : Act := a0.put (some p) (e.val cs)
  let B : Nat → Prop := fun b => (b < wb.heap.size ∧ w0.B b) ∨ (wb.heap.size + 2 ≤ b ∧ ¬ S b)
  let s0 : Start := ⟨W, B, ownedB conc, [], a.tmps, w0.yl, w0.lo⟩
  let sA : Start := ⟨W, B, ownedB conc, [], aR.tmps, w0.yl, w0.lo⟩
  have okS0 : ∀ tm, StartOK ⟨W, B, ownedB conc, [], tm, w0.yl, w0.lo⟩ := fun tm => {
    up := h.mod.okS.up
    mB := h.mod.okS.mB
    ds := fun _ hd => by cases hd
    dn := List.nodup_nil
    lo := h.mod.okS.lo }
  have hcB : conc.B = B := h.mod.cB
  have m0 : Mod P s0 ⟨conc.m, B, conc.yl⟩ (mk T d) a0 W := h.mod.move B rfl (fun k sl hk => ⟨hk, mk_labs d hk, rfl⟩) (fun _ => rfl) rfl rfl (fun k hk => absurd hk (by rw [hmf, hR.fx]; simp)) (Nat.le_refl _) (fun _ _ _ => rfl) (fun b _ hb => by rw [← hcB]; exact hb) rfl rfl (fun b hb => hb) rfl (okS0 _)
  have m1 : Mod P s0 ⟨conc.m, B, conc.yl⟩ { N := (mk T d).N, marks := [], slots := Map.set (mk T d).slots p ⟨[], true, .v (.pure e x)⟩, heap := (mk T d).heap, fixed := (mk T d).fixed } aR W :=
    m0.put (d := p) (sl := ⟨[], true, .v (.pure e x)⟩) (v := e.val cs) (ms := []) (may_iff.2 ⟨by rw [hmN]; exact hR.pN, by rw [hmm]; simp, by rw [hmf, hR.fx]; simp⟩) (fun m hm => absurd hm (by rw [hmm]; simp)) (fun q hq => by cases hq)
      ⟨fun _ => ⟨rfl, cs, rfl, by
        have he : okOf (⟨conc.m, B, conc.yl⟩ : Conc) = okOf conc := by
          funext b
          unfold okOf
          rw [hcB]
        rw [he]
        exact hx⟩, fun hn => absurd (labs_nil _) hn⟩
  have mA : Mod P sA ⟨conc.m, B, conc.yl⟩ (mkB T F p e d x) aR W := m1.move B (by rw [hmN]; rfl) (fun k sl hk => ⟨hk, by
      simp only [mkB, Map.get_set] at hk
      split at hk
      · cases hk; rfl
      · exact mk_labs d hk, rfl⟩) (fun _ => rfl) rfl rfl (fun k _ => rfl) (Nat.le_refl _) (fun _ _ _ => rfl) (fun b _ hb => hb) rfl rfl (fun b hb => hb) rfl (okS0 _)
  -- the assignment
  rw [← hR.eq] at hans
  have wide : ∀ (c : Code) Q a w n m, c.wpIn (Fr (some (wb.heap.size + 1))) n P Q a w → c.wpIn (Fence.wide.inRound (wb.heap.size + 1)) m P Q a w := fun c Q a w n m hh => wpIn_n hh
  rw [haR]
  refine roundIn_of_wpIn trivial (wide _ _ _ _ 7 5 ?_)
  have invOK : ∀ s : Start, s.ds = [] → InvOK P (Hdl.no (R := R)) true (fun s' b => b = ans ∧ Link s s') := fun s _ => {
    link := fun s1 s2 b hb hl => ⟨hb.1, hb.2.trans hl⟩
    nods := fun hne => absurd rfl hne
    fnl := fun he => by cases he
    yld := fun hne => absurd rfl hne }
  refine wpIn_mono (hR.a (some (wb.heap.size + 1)) rfl _ (invOK sA rfl) _ ans _ _ _ sA hans ⟨_, mA⟩ ⟨rfl, Link.refl _⟩) ?_
  rintro ea a1 w1 ⟨sA', ans1, st1, ⟨conc1, hm1⟩, ⟨rfl, hlA⟩, hk1⟩
  cases ea with
  | normal =>
    simp only [thenB] at hk1
    -- the world behind the assignment
    have lA := hlA.trans hm1.link
    have lA_block : ∀ b, b < W.heap.size → ¬ ownedB conc b → w1.heap[b]? = W.heap[b]? := lA.block
    have hrec1 : w1.heap[wb.heap.size + 1]? = _ := (lA_block _ (by omega) hnl).trans hrec
    have hszA : W.heap.size ≤ w1.heap.size := lA.size
    refine ⟨_, run_beginRound hrec1 rfl, wide _ _ _ _ 7 5 ?_⟩
    generalize hw2 : w1.putObj (wb.heap.size + 1) _ = w2
    have h2 : ∀ b, b ≠ wb.heap.size + 1 → w2.heap[b]? = w1.heap[b]? := fun b hb => by rw [← hw2]; exact World.putObj_heap_other hb
    have hsz2 : w2.heap.size = w1.heap.size := by rw [← hw2]; simp [World.putObj]
    have hos2 : w2.os = w1.os ∧ w2.tape = w1.tape ∧ w2.output = w1.output := by rw [← hw2]; exact ⟨rfl, rfl, rfl⟩
    have hrec2 : w2.heap[wb.heap.size + 1]? = some (.loop { state := .busy, pending := none, fn, tmps := a.tmps, params := #[p], assign := ca, body := cb, defers := wb.heap.size }) := by
      rw [← hw2]; exact World.putObj_heap_same (by omega)
    have hB1 : conc1.B = B := by
      rw [hm1.cB]
      funext b
      exact propext (hlA.B b)
    have hBl : ¬ B (wb.heap.size + 1) := by
      rintro (⟨q1, _⟩ | ⟨q1, _⟩) <;> omega
    let sB : Start := ⟨w2, B, ownedB conc1, [], sA'.tmps, sA'.yl, sA'.lo⟩
    have htm1 : sA'.tmps = aR.tmps := hlA.tmps
    have hlo1 : sA'.lo = w0.lo := hlA.lo
    have hyl1 : sA'.yl = w0.yl := hlA.yl
    have hds1 : a1.defers = [] := hm1.defers.trans hlA.ds
    have upB : ∀ b, w2.heap.size ≤ b → B b := fun b hb => .inr ⟨by omega, fun hs => by have := (h.A2 b (h.SA b hs)).2; omega⟩
    have mB : Mod P sB ⟨conc1.m, B, conc1.yl⟩ st1 a1 w2 := by
      refine Mod.move' hm1 B ?_ (fun b hlt hb => h2 b fun e => hBl (by rw [← e, ← hB1]; exact hb)) (fun b _ hb => by rw [← hB1]; exact hb) rfl rfl (fun b hb => hb) rfl hds1 rfl {
        up := upB
        mB := fun b ⟨i, v, c, g1, g2⟩ => by
          have := hm1.inB g1 g2
          rw [← hm1.cB, hB1] at this
          exact this
        ds := fun _ hd => by cases hd
        dn := List.nodup_nil
        lo := by
          have : w0.lo ≤ W.heap.size := h.mod.okS.lo
          show sA'.lo ≤ w2.heap.size
          omega }
      omega
    refine wpIn_mono (hR.b (some (wb.heap.size + 1)) rfl _ (invOK sB rfl) _ ans1 _ _ _ sB hk1 ⟨_, mB⟩ ⟨rfl, Link.refl _⟩) ?_
    rintro eb a3 w3 ⟨sE, ans3, st3, ⟨conc3, hm3⟩, ⟨rfl, hlB⟩, hk3⟩
    have lB := hlB.trans hm3.link
    have hszB : w2.heap.size ≤ w3.heap.size := lB.size
    have hown1 : ∀ b, ownedB conc1 b → ownedB conc b ∨ W.heap.size ≤ b := fun b hb => (lA.M b hb).imp id fun g => g.1
    have hown3 : ∀ b, ownedB conc3 b → ownedB conc b ∨ W.heap.size ≤ b := fun b hb => by
      rcases lB.M b hb with g | g
      · exact hown1 b g
      · have g' : w2.heap.size ≤ b := g.1
        exact .inr (by omega)
    have hn1 : ∀ b, b < W.heap.size → ¬ ownedB conc b → ¬ ownedB conc1 b := fun b hb ho hc => by
      rcases hown1 b hc with g | g
      · exact ho g
      · omega
    have hblk : ∀ b, b < W.heap.size → ¬ ownedB conc b → b ≠ wb.heap.size + 1 → w3.heap[b]? = W.heap[b]? := fun b hb ho hne => by
      have e1 : w3.heap[b]? = w2.heap[b]? := lB.block b (by show b < w2.heap.size; omega) (hn1 b hb ho)
      exact e1.trans ((h2 b hne).trans (lA_block b hb ho))
    have hrec3 : w3.heap[wb.heap.size + 1]? = some (.loop { state := .busy, pending := none, fn, tmps := a.tmps, params := #[p], assign := ca, body := cb, defers := wb.heap.size }) := by
      have e1 : w3.heap[wb.heap.size + 1]? = w2.heap[wb.heap.size + 1]? := lB.block _ (by show _ < w2.heap.size; omega) (hn1 _ (by omega) hnl)
      exact e1.trans hrec2
    have hos3 : w3.os = W.os := by have e1 : w3.os = w2.os := lB.os; have e2 : w1.os = W.os := lA.os; rw [e1, hos2.1, e2]
    have htp3 : w3.tape = W.tape := by have e1 : w3.tape = w2.tape := lB.tape; have e2 : w1.tape = W.tape := lA.tape; rw [e1, hos2.2.1, e2]
    have hot3 : w3.output = W.output := by have e1 : w3.output = w2.output := lB.output; have e2 : w1.output = W.output := lA.output; rw [e1, hos2.2.2, e2]
    have hBE : sE.B = B := funext fun b => propext (hlB.B b)
    have htmE : sE.tmps = a.tmps.setIfInBounds p (e.val cs) := hlB.tmps.trans htm1
    have hT : a.tmps.size = T.N := h.mod.size.trans hmN
    have hround : ∀ (st4 : LoopState) (pe4 : Option Code), st3.fixed = F → st3.N = T.N → ∃ conc4, conc4.m = conc3.m ∧ Between P w0 wb own0 a fn #[p] ca cb st4 pe4 A S conc4 (onlyF F (unlab st3))
        (w3.putObj (wb.heap.size + 1) (.loop { state := st4, pending := pe4, fn, tmps := a.tmps, params := #[p], assign := ca, body := cb, defers := wb.heap.size })) := fun st4 pe4 hF hN =>
      h.round (unlab_mod hm3) hF hR.pF htmE (by rw [hT, hm3.size, hN]) (fun k sl hk _ => unlab_L hk) hBE (hlB.yl.trans hyl1) (hlB.lo.trans hlo1) hos3 htp3 hot3 (by omega) hblk hown3 hds rfl
    have hrest : ∀ (st4 : LoopState) (pe4 : Option Code) b, b < W.heap.size → ¬ ownedB conc b → b ≠ wb.heap.size + 1 →
        (w3.putObj (wb.heap.size + 1) (.loop { state := st4, pending := pe4, fn, tmps := a.tmps, params := #[p], assign := ca, body := cb, defers := wb.heap.size })).heap[b]? = W.heap[b]? := fun st4 pe4 b hb ho hne =>
      (World.putObj_heap_other hne).trans (hblk b hb ho hne)
    have hput : ∀ v, (w3.putObj (wb.heap.size + 1) v).heap.size = w3.heap.size := fun v => by simp [World.putObj]
    have out : ∀ (ex : Exit) (jc : Code), jumpOf ex = jc → (∀ c, ex ≠ .panic c) → leave E X (kOf K X) ex (onlyF F (unlab st3)) = some ans3 → st3.fixed = F → st3.N = T.N →
        ∃ v w', (Instr.endRound (wb.heap.size + 1) (some jc)).run P w3 = .ok v w' ∧ ((∀ b, b < W.heap.size → ¬ ownedB conc b → b ≠ wb.heap.size + 1 → w'.heap[b]? = W.heap[b]?) ∧ W.heap.size ≤ w'.heap.size ∧ w'.os = W.os ∧ w'.tape = W.tape ∧ w'.output = W.output ∧
      ((Ending.returned v = .returned (.bool true) ∧ ∃ conc' d', Between P w0 wb own0 a fn #[p] ca cb .ready none A S conc' (mk T d') w' ∧ again d' = some ans3) ∨
       (Ending.returned v = .returned (.bool false) ∧ ∃ conc', ∃ y ∈ X, ∃ d', Between P w0 wb own0 a fn #[p] ca cb .done (some (jumpOf y.1.exit')) A S conc' (mk y.2 d') w' ∧ K y.1.exit' (mk y.2 d') = some ans3))) := by
      intro ex jc hj _ hl hF hN
      refine ⟨_, _, run_endRound (some jc) hrec3, hrest _ _, by rw [hput]; omega, hos3, htp3, hot3, .inr ⟨rfl, ?_⟩⟩
      obtain ⟨conc4, _, hb4⟩ := hround .done (some jc) hF hN
      obtain ⟨x, hx, d', conc', he, g1, g2, g3⟩ := leave_mod hE hb4.mod X hl
      obtain ⟨conc5, h5⟩ := hb4.narrow g1 g2
      refine ⟨conc5, x, hx, d', ?_, by rw [← he]; exact g3⟩
      rw [← he, hj]
      exact h5
    have chk : ∀ {z : Option R}, (bif eqN st3.fixed F && Nat.beq st3.N T.N then z else none) = some ans3 → st3.fixed = F ∧ st3.N = T.N ∧ z = some ans3 := by
      intro z hz
      cases hc : (eqN st3.fixed F && Nat.beq st3.N T.N) with
      | false => rw [hc] at hz; cases hz
      | true =>
        rw [hc] at hz
        simp only [Bool.and_eq_true] at hc
        exact ⟨eqN_eq hc.1, nbeq_true hc.2, hz⟩
    cases eb with
    | normal =>
      obtain ⟨hF, hN, hz⟩ := chk (z := (dec E T (onlyF F (unlab st3))).bind again) hk3
      refine ⟨_, _, run_endRound none hrec3, hrest _ _, by rw [hput]; omega, hos3, htp3, hot3, .inl ⟨rfl, ?_⟩⟩
      obtain ⟨conc4, _, hb4⟩ := hround .ready none hF hN
      cases hd : dec E T (onlyF F (unlab st3)) with
      | none => rw [hd] at hz; cases hz
      | some d' =>
        rw [hd] at hz
        obtain ⟨conc', g1, g2⟩ := dec_mod hE hb4.mod hd
        obtain ⟨conc5, h5⟩ := hb4.narrow g1 fun b ⟨i, v, c, k1, k2⟩ => g2 i v c b k1 k2
        exact ⟨conc5, d', h5, hz⟩
    | ret =>
      obtain ⟨hF, hN, hz⟩ := chk (z := leave E X (kOf K X) .ret (onlyF F (unlab st3))) hk3
      exact out .ret .ret rfl (fun c hc => by cases hc) hz hF hN
    | exit i =>
      obtain ⟨hF, hN, hz⟩ := chk (z := leave E X (kOf K X) (.exit i) (onlyF F (unlab st3))) hk3
      exact out (.exit i) (.exit i) rfl (fun c hc => by cases hc) hz hF hN
    | goto t =>
      obtain ⟨hF, hN, hz⟩ := chk (z := leave E X (kOf K X) (.goto t) (onlyF F (unlab st3))) hk3
      obtain ⟨conc4, _, hb4⟩ := hround .ready none hF hN
      obtain ⟨x, hx, d', conc', he, _⟩ := leave_mod hE hb4.mod X hz
      cases hw : x.1 <;> simp [hw, Way.exit'] at he
    | panic c =>
      obtain ⟨hF, hN, hz⟩ := chk (z := leave E X (kOf K X) (.panic c) (onlyF F (unlab st3))) hk3
      obtain ⟨conc4, _, hb4⟩ := hround .ready none hF hN
      obtain ⟨x, hx, d', conc', he, _⟩ := leave_mod hE hb4.mod X hz
      cases hw : x.1 <;> simp [hw, Way.exit'] at he
    | outgrown =>
      obtain ⟨hF, hN, hz⟩ := chk (z := leave E X (kOf K X) .outgrown (onlyF F (unlab st3))) hk3
      obtain ⟨conc4, _, hb4⟩ := hround .ready none hF hN
      obtain ⟨x, hx, d', conc', he, _⟩ := leave_mod hE hb4.mod X hz
      cases hw : x.1 <;> simp [hw, Way.exit'] at he
  | ret => cases hk1
  | exit i => cases hk1
  | goto i => cases hk1
  | panic c => cases hk1
  | outgrown => cases hk1

end Go.Abs

set_option linter.unusedSimpArgs false
set_option linter.unusedVariables false
namespace Go.Abs
open Go
variable {P : Program} {E : Env} {R : Type}

theorem Between.done {w0 : Start} {wb : World} {conc0 : Conc} {a : Act} {fn : FuncId} {ps : Array Tmp} {ca cb : Code} {A S : Nat → Prop} {conc : Conc} {st st0 : ASt} {W : World} {stt : LoopState} {pe : Option Code}
    (h0 : Mod P w0 conc0 st0 a wb) (h : Between P w0 wb (ownedB conc0) a fn ps ca cb stt pe A S conc st W) (hmk : ∀ d sl, Map.get st.slots d = some sl → sl.L = []) (hfx : st.fixed = []) (o : Obj) :
    ∃ s4, Models P s4 st { a with defers := [{ target := .collected wb.heap.size, args := #[] }] ++ a.defers } (W.putObj (wb.heap.size + 1) o) ∧ LinkR w0 s4 := by
  have hs := h.size
  have h4 : ∀ b, b ≠ wb.heap.size + 1 → (W.putObj (wb.heap.size + 1) o).heap[b]? = W.heap[b]? := fun b hb => World.putObj_heap_other hb
  have hsz : (W.putObj (wb.heap.size + 1) o).heap.size = W.heap.size := by simp
  have hcB : conc.B = fun b => (b < wb.heap.size ∧ w0.B b) ∨ (wb.heap.size + 2 ≤ b ∧ ¬ S b) := h.mod.cB
  have hinB : ∀ b, ownedB conc b → (b < wb.heap.size ∧ w0.B b) ∨ (wb.heap.size + 2 ≤ b ∧ ¬ S b) := fun b ⟨i, v, c, g1, g2⟩ => by
    have := h.mod.inB g1 g2
    exact this
  have h0o : ∀ b, ownedB conc0 b → w0.w.heap.size ≤ b ∨ w0.M b := fun b ⟨i, v, c, g1, g2⟩ => (h0.base i v c b g1 g2).1
  have hk := h0.keeps
  have hlo := h0.okS.lo
  have hsize := hk.size
  refine ⟨⟨W.putObj (wb.heap.size + 1) o, fun b => (b < wb.heap.size ∧ w0.B b) ∨ (wb.heap.size + 2 ≤ b ∧ ¬ S b), ownedB conc, [{ target := .collected wb.heap.size, args := #[] }] ++ a.defers, a.tmps, w0.yl, w0.lo⟩, ⟨_, h.mod.move _ rfl (fun d sl hd => ⟨hd, hmk d sl hd, rfl⟩) (fun _ => rfl) rfl rfl (fun d hd => absurd hd (by rw [hfx]; simp)) (by rw [hsz]; exact Nat.le_refl _) (fun b hlt hb => h4 b fun e => ?_) (fun b _ hb => by rw [hcB] at hb; exact hb) rfl rfl (fun b hb => hb) rfl ?_⟩, ?_⟩
  · rw [hcB] at hb
    rcases hb with hb | hb <;> omega
  · exact {
      up := fun b hb => .inr ⟨by
        have h1 : (W.putObj (wb.heap.size + 1) o).heap.size ≤ b := hb
        omega, fun hs => by
        have := (h.A2 b (h.SA b hs)).2
        have h1 : (W.putObj (wb.heap.size + 1) o).heap.size ≤ b := hb
        omega⟩
      mB := hinB
      ds := fun d hd => by
        rcases List.mem_append.1 hd with hd | hd
        · simp only [List.mem_singleton] at hd
          subst hd
          refine ⟨_, rfl, (h4 _ (by omega)).trans h.dfr, fun hb => ?_, by show w0.lo ≤ wb.heap.size; omega⟩
          rcases hb with ⟨g, _⟩ | ⟨g, _⟩ <;> omega
        · obtain ⟨D, e, h1, h2⟩ := h0.okS.ds d (by rw [← h0.defers]; exact hd)
          have hlt := (Array.getElem?_eq_some_iff.1 h1).1
          have hM : ¬ w0.M D := fun g => h2.1 (h0.okS.mB D g)
          have n0 : ¬ ownedB conc0 D := fun hb => by
            rcases h0o D hb with g | g
            · omega
            · exact hM g
          refine ⟨D, e, (h4 _ (by omega)).trans ((h.old D (by omega) n0).trans ((hk.block D hlt hM).trans h1)), fun hb => ?_, h2.2⟩
          rcases hb with ⟨_, g⟩ | ⟨g, _⟩
          · exact h2.1 g
          · omega
      dn := by
        show ([{ target := .collected wb.heap.size, args := #[] }] ++ a.defers : List Deferred).Nodup
        rw [List.singleton_append, List.nodup_cons]
        refine ⟨fun hm => ?_, by rw [h0.defers]; exact h0.okS.dn⟩
        obtain ⟨D, e, h1, _⟩ := h0.okS.ds _ (by rw [← h0.defers]; exact hm)
        have hlt := (Array.getElem?_eq_some_iff.1 h1).1
        cases e
        omega
      lo := by
        show w0.lo ≤ (W.putObj (wb.heap.size + 1) o).heap.size
        omega }
  · exact {
      os := h.os.trans hk.os
      tape := h.tape.trans hk.tape
      output := h.output.trans hk.output
      size := by
        show w0.w.heap.size ≤ (W.putObj (wb.heap.size + 1) o).heap.size
        omega
      block := fun b hb hM => by
        have n0 : ¬ ownedB conc0 b := fun ho => by
          rcases h0o b ho with g | g
          · omega
          · exact hM g
        exact (h4 b (by omega)).trans ((h.old b (by omega) n0).trans (hk.block b hb hM))
      M := fun b hb => by
        rcases h.own b hb with g | g
        · exact (h0o b g).symm
        · exact .inr (by omega)
      B1 := fun b hb h1 => .inl ⟨by omega, h1⟩
      B2 := fun b hb h1 => by
        rcases h1 with h1 | h1
        · exact h1.2
        · omega
      lo := rfl }

theorem range_sound (hE : EnvOK P E) {H : Hdl R} (hH : H.tys = []) {e : Ty} {p : Nat} {g : Operand} {ca cb : Code} {Oa Ob : List (Ev R)} {T : Templ} {F : List Nat} {X : List (Way × Templ)} {body : denU T.tys → e.den → (denU T.tys → Option R) → conts R X → Option R}
    (hR : RangeOK P E e p ca cb Oa Ob T F X body) : Sound P H false (.rangeFunc g #[p] ca cb) (rangeO E e g T X body) := by
  intro r hr Inv hI K ans st a w w0 h hm hinv
  have hr : r = none := by cases r <;> simp at hr ⊢
  subst hr
  unfold rangeO at h
  cases hd : dec E T st with
  | none => rw [hd] at h; cases h
  | some d =>
  rw [hd] at h
  simp only [Option.bind_some] at h
  obtain ⟨conc, hm⟩ := dec_models hE hm hd
  clear hd
  rw [RM.runK_eq] at h
  cases hx : ((rdA [] g).bind (seqOf e)).run (mk T d) with
  | none => rw [hx] at h; cases h
  | some xs =>
  rw [hx] at h
  simp only [Option.bind_some] at h
  obtain ⟨x, hx1, hx2⟩ := RM.bind_some hx
  have hv := rdA_rel hm (labs_nil _) hx1
  obtain ⟨so, ao, hso⟩ := hI.fnl rfl hH
  have hgv : ∃ vs, a.eval g = (Ty.seq e).val vs ∧ Rep P (.seq e) w (okOf conc) vs xs := by
    cases x <;> simp only [seqOf] at hx2 <;> try (cases hx2; done)
    rename_i u dd
    have hc : castTy (t := u) (t' := .seq e) dd = some xs := by
      cases hc : castTy (t := u) (t' := .seq e) dd with
      | none => rw [hc] at hx2; cases hx2
      | some z => rw [hc] at hx2; cases hx2; rfl
    obtain ⟨rfl, rfl⟩ := castTy_some hc
    exact hv
  obtain ⟨vs, hev, fid, lb, rfl, hbod, hseq⟩ := hgv
  have hev : a.eval g = .func (.func fid) #[] lb := hev
  let done : denU T.tys → Option R := fun d => K .normal (mk T d)
  refine wpIn_rangeFunc fun fn _ => ?_
  have hent := run_enterLoop_outer (P := P) (w := w) fn a.tmps #[p] ca cb
  generalize hW1 : (w.alloc (.deferred (some []))).alloc (.loop { state := .ready, pending := none, fn, tmps := a.tmps, params := #[p], assign := ca, body := cb, defers := w.heap.size }) = W1 at hent
  refine ⟨w.heap.size + 1, [{ target := .collected w.heap.size, args := #[] }], W1, { target := .fn (.func fid) lb, args := #[.func (.yield (w.heap.size + 1)) #[] #[]] }, W1, fid, #[.func (.yield (w.heap.size + 1)) #[] #[]] ++ lb, W1,
    hent, ?_, fun _ _ => trivial, ?_, fun _ => by decide, ?_⟩
  · show (Deferred.ofValue (a.eval g) _).run P W1 = _
    rw [hev]
    have he : (rangeCall g (w.heap.size + 1)).args.map a.eval = #[.func (.yield (w.heap.size + 1)) #[] #[]] := by simp [rangeCall, Act.eval]
    rw [he]
    simp [Deferred.ofValue]
  · simp only [invoke]
    exact callFunc_run hbod _
  have hsz1 : W1.heap.size = w.heap.size + 2 := by rw [← hW1]; simp
  have hold1 : ∀ b, b < w.heap.size → W1.heap[b]? = w.heap[b]? := fun b hb => by
    rw [← hW1]
    show ((w.heap.push _).push _)[b]? = _
    rw [Array.getElem?_push, Array.getElem?_push]
    simp only [Array.size_push]
    rw [if_neg (by omega), if_neg (by omega)]
  have hD1 : W1.heap[w.heap.size]? = some (.deferred (some [])) := by
    rw [← hW1]
    show ((w.heap.push _).push _)[w.heap.size]? = _
    rw [Array.getElem?_push, Array.getElem?_push]
    simp
  have hL1 : W1.heap[w.heap.size + 1]? = some (.loop { state := .ready, pending := none, fn, tmps := a.tmps, params := #[p], assign := ca, body := cb, defers := w.heap.size }) := by
    rw [← hW1]
    show ((w.heap.push _).push _)[w.heap.size + 1]? = _
    rw [Array.getElem?_push]
    simp
  have hmisc : W1.os = w.os ∧ W1.tape = w.tape ∧ W1.output = w.output := by rw [← hW1]; exact ⟨rfl, rfl, rfl⟩
  have hcB : conc.B = w0.B := hm.cB
  obtain ⟨_, _, hmf⟩ := mk_head d
  have hlab : ∀ (d' : denU T.tys), ∀ k sl, Map.get (mk T d').slots k = some sl → sl.L = [] := fun d' k sl hk => mk_labs d' hk
  have own0 : ∀ b, ownedB conc b → b < w.heap.size ∧ w0.B b := fun b ⟨i, v, c, g1, g2⟩ => ⟨(hm.base i v c b g1 g2).2, hm.inB g1 g2⟩
  have hds0 : ∀ dd ∈ a.defers, ∃ D, dd = { target := .collected D, args := #[] } ∧ w.heap[D]? = some (.deferred (some [])) ∧ ¬ ownedB conc D ∧ ¬ w0.B D ∧ w0.lo ≤ D := fun dd hd => by
    obtain ⟨D, e', h1, h2⟩ := hm.rebase.okS.ds dd hd
    exact ⟨D, e', h1, fun hb => h2.1 (hm.rebase.okS.mB D hb), h2⟩
  have b0 : ∃ conc1, Between P w0 w (ownedB conc) a fn #[p] ca cb .ready none (fun _ => False) (fun _ => False) conc1 (mk T d) W1 := by
    refine ⟨⟨conc.m, fun b => (b < w.heap.size ∧ w0.B b) ∨ (w.heap.size + 2 ≤ b ∧ ¬ False), conc.yl⟩, {
      mod := hm.rebase.move _ rfl (fun k sl hk => ⟨hk, hlab d k sl hk, rfl⟩) (fun _ => rfl) rfl rfl (fun k hk => absurd hk (by rw [hmf, hR.fx]; simp)) (by omega) (fun b hlt _ => hold1 b hlt) (fun b hlt hb => .inl ⟨hlt, by rw [← hcB]; exact hb⟩) rfl rfl (fun b hb => hb) rfl {
        up := fun b hb => .inr ⟨by have h1 : W1.heap.size ≤ b := hb
                                   omega, id⟩
        mB := fun b hb => .inl (own0 b hb)
        ds := fun dd hd => by
          obtain ⟨D, e', h1, _, h2⟩ := hds0 dd hd
          have hlt := (Array.getElem?_eq_some_iff.1 h1).1
          refine ⟨D, e', (hold1 D hlt).trans h1, fun hb => ?_, h2.2⟩
          rcases hb with ⟨_, g⟩ | ⟨g, _⟩
          · exact h2.1 g
          · omega
        dn := hm.rebase.okS.dn
        lo := by
          have h1 := hm.okS.lo
          have h2 := hm.keeps.size
          show w0.lo ≤ W1.heap.size
          omega }
      rec' := hL1
      dfr := hD1
      os := hmisc.1
      tape := hmisc.2.1
      output := hmisc.2.2
      size := by omega
      old := fun b hb _ => hold1 b hb
      own := fun b hb => .inl hb
      disj := fun _ _ h => h
      SA := fun _ h => h
      A2 := fun _ h => h.elim }⟩
  obtain ⟨conc1, b0⟩ := b0
  let ok1 : Nat → Prop := fun b => okOf conc b ∧ b < w.heap.size
  let J : Nat → (Nat → Prop) → (Nat → Prop) → World → Prop := fun k A S W => ∃ conc' d', Between P w0 w (ownedB conc) a fn #[p] ca cb .ready none A S conc' (mk T d') W ∧ rangeG body (kOf K X) done (xs.drop k) d' = some ans
  let Jx : (Nat → Prop) → (Nat → Prop) → World → Prop := fun A S W => ∃ conc', ∃ y ∈ X, ∃ d', Between P w0 w (ownedB conc) a fn #[p] ca cb .done (some (jumpOf y.1.exit')) A S conc' (mk y.2 d') W ∧ K y.1.exit' (mk y.2 d') = some ans
  have hcall := hseq W1 ok1 ⟨by omega, fun b _ hlt => hold1 b hlt⟩ (fun b hb hlt => ⟨hb, hlt⟩) (w.heap.size + 1) J Jx
    (fun k A S W A' S' W' ⟨conc', d', hb, hans⟩ hst => by
      obtain ⟨conc2, _, h2⟩ := hb.steps ⟨(mk_head d').2.1, hlab d'⟩ ((mk_head d').2.2.trans hR.fx) hst hds0
      exact ⟨conc2, d', h2, hans⟩)
    (fun A S W A' S' W' ⟨conc', y, hy, d', hb, hans⟩ hst => by
      obtain ⟨conc2, _, h2⟩ := hb.steps ⟨(mk_head d').2.1, fun k sl hk => mk_labs d' hk⟩ ((mk_head d').2.2.trans (hR.xfx y hy)) hst hds0
      exact ⟨conc2, y, hy, d', h2, hans⟩)
    (fun k x A S W vas ⟨conc', d', hb, hans⟩ hk hSA hA hsz ⟨cs, e1, hrep⟩ => by
      subst e1
      have hlt := (List.getElem?_eq_some_iff.1 hk).1
      rw [List.drop_eq_getElem_cons hlt] at hans
      have hxk : xs[k] = x := (List.getElem?_eq_some_iff.1 hk).2
      rw [hxk] at hans
      have hcB' : conc'.B = fun b => (b < w.heap.size ∧ w0.B b) ∨ (w.heap.size + 2 ≤ b ∧ ¬ S b) := hb.mod.cB
      have hsub : Sub W (fun b => (ok1 b ∧ b < W1.heap.size) ∨ (A b ∧ ¬ S b)) (okOf conc') := fun b hh hlt' => by
        have ho : ¬ ownedB conc' b → ∀ id ver c, conc' id = some (ver, c, true) → ¬ hasB c b := fun hn i v c g1 g2 => hn ⟨i, v, c, g1, g2⟩
        rcases hh with ⟨⟨g1, g2⟩, _⟩ | ⟨g1, g2⟩
        · refine ⟨by rw [hcB']; exact .inl ⟨g2, by rw [← hcB]; exact g1.1⟩, ho fun hh => ?_⟩
          rcases hb.own b hh with ⟨i, v, c, k1, k2⟩ | k1
          · exact g1.2 i v c k1 k2
          · omega
        · exact ⟨by rw [hcB']; exact .inr ⟨(hb.A2 b g1).1, g2⟩, ho fun hh => hb.disj b hh g1⟩
      obtain ⟨fn1, tm1, as1, bd1, y1, y2⟩ := round_ok hE hR (again := fun d => rangeG body (kOf K X) done (xs.drop (k + 1)) d) hb hds0 (hrep.mono e ⟨Nat.le_refl _, fun _ _ _ => rfl⟩ hsub) hans
      refine ⟨fn1, tm1, as1, bd1, y1, y2.mono ?_⟩
      rintro en W' ⟨q1, q2, q3, q4, q5, q6⟩
      refine ⟨{ os := q3, tape := q4, output := q5, size := q2, block := fun b hlt' hh => ?_ }, q6⟩
      rcases hh with ⟨⟨g1, g2⟩, _⟩ | g1
      · refine q1 b hlt' (fun hh => ?_) (by omega)
        rcases hb.own b hh with ⟨i, v, c, k1, k2⟩ | k1
        · exact g1.2 i v c k1 k2
        · omega
      · exact q1 b hlt' (fun hh => hb.disj b hh g1) (by have := (hb.A2 b g1).1; omega))
    ⟨conc1, d, b0, h⟩
  refine fr_calls (hcall.mono ?_)
  have fin : ∀ {A S : Nat → Prop} {conc' : Conc} {st' : ASt} {W' : World} {stt : LoopState} {pe : Option Code} (hb : Between P w0 w (ownedB conc) a fn #[p] ca cb stt pe A S conc' st' W') (ex : Exit) (hmk : ∀ d sl, Map.get st'.slots d = some sl → sl.L = []) (hfx : st'.fixed = []) (hk : K ex st' = some ans) (o : Obj),
      ∃ w0' ans' st'', Models P w0' st'' { a with defers := [{ target := .collected w.heap.size, args := #[] }] ++ a.defers } (W'.putObj (w.heap.size + 1) o) ∧ Inv w0' ans' ∧ K ex st'' = some ans' := by
    intro A S conc' st' W' stt pe hb ex hmk hfx hk o
    obtain ⟨s4, g1, g2⟩ := Between.done hm hb hmk hfx o
    exact ⟨s4, ans, st', g1, (hso _ _).2 ⟨((hso _ _).1 hinv).1, ((hso _ _).1 hinv).2.trans g2⟩, hk⟩
  rintro en W' ⟨⟨v, rfl⟩, hJ⟩
  rcases hJ with ⟨A, S, conc', d', hb, hans⟩ | ⟨A, S, conc', y, hy, d', hb, hans⟩
  · refine ⟨none, _, run_endLoop hb.rec' (by simp), ?_⟩
    rw [List.drop_length] at hans
    exact fin hb .normal (hlab d') ((mk_head d').2.2.trans hR.fx) hans _
  · refine ⟨some (jumpOf y.1.exit'), _, run_endLoop hb.rec' (by simp), ?_⟩
    have := fin hb y.1.exit' (fun k sl hk => mk_labs d' hk) ((mk_head d').2.2.trans (hR.xfx y hy)) hans
    cases hw : y.1 with
    | exit i =>
      rw [hw] at this
      exact wpIn_exit (this _)
    | ret =>
      rw [hw] at this
      exact wpIn_ret (this _)

end Go.Abs

set_option linter.unusedSimpArgs false
set_option linter.unusedVariables false
namespace Go.Abs
open Go
variable {P : Program} {E : Env} {w0 : Start} {w : World} {conc : Conc} {st : ASt} {a : Act}

theorem load_of_loadAt {T : Nat} {v u : Value} (h : (Instr.loadAt T v).run P w = .ok u w) : (do loadVar T (← asAddr v) : Sem Value).run P w = .ok u w := by
  cases v with
  | pointer p =>
    cases p with
    | none => simp [Instr.loadAt, Instr.sureAddr, stuck] at h
    | some q => exact h
  | _ => simp [Instr.loadAt, Instr.sureAddr, stuck] at h

def resVal (a : Act) : ResultVar → Sem Value
  | .tmp t => pure (a.tmps.getD t undef)
  | .cell c t => do loadVar t (← asAddr (a.tmps.getD c undef))

theorem resOf_spec (hE : EnvOK P E) (h : Mod P w0 conc st a w) : {rs : List ResultVar} → {l : List SVal} → (resOf E rs).run st = some l →
    ∃ vs, (rs.mapM (resVal a)).run P w = .ok vs w ∧ All2 (SRel P w conc (okOf conc)) l vs ∧ vs.length = rs.length
  | [], l, hr => by cases hr; exact ⟨[], by simp, trivial, rfl⟩
  | .tmp t :: r, l, hr => by
    obtain ⟨s, h1, h2⟩ := RM.bind_some hr
    obtain ⟨m, h3, h4⟩ := RM.bind_some h2
    cases h4
    have := rd_rel h (labs_nil _) h1
    obtain ⟨vs, e1, e2, e3⟩ := resOf_spec hE h h3
    refine ⟨a.eval (.tmp t) :: vs, ?_, ⟨this, e2⟩, by simp [e3]⟩
    have he : a.eval (.tmp t) = a.tmps.getD t undef := by simp [Act.eval]
    simp [List.mapM_cons, resVal, he, e1]
  | .cell c T :: r, l, hr => by
    simp only [resOf] at hr
    cases hT : E.ty T with
    | none => rw [hT] at hr; cases hr
    | some t =>
      rw [hT] at hr
      dsimp only at hr
      obtain ⟨b, h0, hr⟩ := RM.bind_some hr
      obtain ⟨s, h1, h2⟩ := RM.bind_some hr
      obtain ⟨m, h3, h4⟩ := RM.bind_some h2
      cases h4
      have hb := rdA_rel h (labs_nil _) h0
      obtain ⟨u, f1, f2⟩ := loadAt_sound hE h hT h1 hb
      have f3 := load_of_loadAt f1
      obtain ⟨vs, e1, e2, e3⟩ := resOf_spec hE h h3
      refine ⟨u :: vs, ?_, ⟨f2, e2⟩, by simp [e3]⟩
      have he : a.eval (.tmp c) = a.tmps.getD c undef := by simp [Act.eval]
      rw [he] at f3
      have : (resVal a (.cell c T)).run P w = .ok u w := f3
      simp [List.mapM_cons, this, e1]

theorem results_run {fn : Func} {vs : List Value} (h : (fn.results.toList.mapM (resVal a)).run P w = .ok vs w) : (results fn a.tmps).run P w = .ok (if vs.length = 1 then vs.headD undef else .tuple vs.toArray) w := by
  unfold results
  have e : ∀ g : ResultVar → Sem Value, (∀ r, g r = resVal a r) → fn.results.mapM g = Functor.map List.toArray (fn.results.toList.mapM (resVal a)) := by
    intro g hg
    rw [Array.mapM_eq_mapM_toList, show g = resVal a from funext hg]
  rw [e _ (fun r => by cases r <;> rfl)]
  simp only [map_eq_pure_bind, bind_assoc, pure_bind]
  rw [Sem.run_bind, h]
  simp only [Result.andThen_ok]
  match vs with
  | [] => rfl
  | [v] => rfl
  | v :: u :: r => simp

/-! A call's start. -/

theorem number_get : (l : List AVal) → (n d : Nat) → {sl : Slot} → Map.get (number n l) d = some sl → ∃ i x, d = n + i ∧ l[i]? = some x ∧ sl = ⟨[], true, .v x⟩
  | [], n, d, sl, h => by cases h
  | x :: r, n, d, sl, h => by
    simp only [number, Map.get, nbeq] at h
    by_cases hd : n = d
    · simp [hd] at h
      exact ⟨0, x, by omega, rfl, h.symm⟩
    · simp [hd] at h
      obtain ⟨i, y, h1, h2, h3⟩ := number_get r (n + 1) d h
      exact ⟨i + 1, y, by omega, by simpa using h2, h3⟩

theorem tupOf_len : (ts : List Ty) → (x : denL ts) → (tupOf ts x).length = ts.length
  | [], _ => rfl
  | [t], x => rfl
  | t :: u :: ts, (x, y) => by simp [tupOf, tupOf_len (u :: ts) y]

theorem ptrs_rel {ok : Nat → Prop} : (ts : List Ty) → {vs : List Value} → {x : denL ts} → CapsRep P w ok ts vs x → All2 (VRel P w conc ok) (ptrs (tupOf ts x)) vs
  | [], vs, x, h => by cases h; trivial
  | [t], vs, x, ⟨v, h1, h2⟩ => by subst h1; exact ⟨h2, trivial⟩
  | t :: u :: ts, vs, x, ⟨v, r, h1, h2, h3⟩ => by subst h1; exact ⟨h2, ptrs_rel (u :: ts) h3⟩

theorem ptrs_len : ∀ l : List AVal, (ptrs l).length = l.length
  | [] => rfl
  | a :: l => by cases a <;> simp [ptrs, ptrs_len l]

theorem start_ok (ok : Nat → Prop) (w : World) (tm : Array Value) (l : Nat) : StartOK ⟨w, newOk ok w, fun _ => False, [], tm, l, w.heap.size⟩ where
  up := fun b hb => .inr hb
  mB := fun b hb => hb.elim
  ds := (fun _ h => (by cases h))
  dn := List.nodup_nil
  lo := Nat.le_refl _

theorem entry_models {ok : Nat → Prop} {N : Nat} {ins caps : List Ty} {vs cs : List Value} {x : denL ins} {y : denL caps} (hN : ins.length + caps.length ≤ N) (hx : ArgsRep P w ok ins vs x) (hy : CapsRep P w ok caps cs y) (tm : Array Value) :
    Models P ⟨w, newOk ok w, fun _ => False, [], tm, 0, w.heap.size⟩ (entry N ins caps x y) { tmps := (vs ++ cs).toArray ++ Array.replicate (N - (vs ++ cs).toArray.size) undef, defers := [] } w := by
  let conc : Conc := ⟨fun _ => none, newOk ok w, 0⟩
  have hok : ∀ b, ok b → okOf conc b := fun b hb => ⟨.inl hb, (fun _ _ _ h => (by cases h))⟩
  have h1 : All2 (VRel P w conc (okOf conc)) (tupOf ins x) vs := (tup_rel (conc := conc) ins hx).imp fun a b h => VRel.mono ⟨Nat.le_refl _, fun _ _ _ => rfl⟩ (fun b hb _ => hok b hb) (CLe.refl _) a h
  have h2 : All2 (VRel P w conc (okOf conc)) (ptrs (tupOf caps y)) cs := (ptrs_rel (conc := conc) caps hy).imp fun a b h => VRel.mono ⟨Nat.le_refl _, fun _ _ _ => rfl⟩ (fun b hb _ => hok b hb) (CLe.refl _) a h
  have h3 := h1.append h2
  have hl1 := h1.length
  have hl2 := h2.length
  rw [tupOf_len] at hl1
  rw [ptrs_len, tupOf_len] at hl2
  refine ⟨conc, { defers := rfl, size := ?_, marks := ?_, slots := ?_, heap := (fun id ver o h => (by cases h)), dead := fun _ _ => rfl, inj := (fun _ _ _ _ _ _ _ h => (by cases h)), base := (fun _ _ _ _ h => (by cases h)), keeps := ⟨rfl, rfl, rfl, Nat.le_refl _, fun _ _ _ => rfl⟩, cB := rfl, cY := rfl, okS := start_ok ok w tm 0, fixed := (fun _ h => (by cases h)) }⟩
  · simp [entry]
    omega
  · intro d sl hd p hp
    obtain ⟨i, a, _, _, e⟩ := number_get _ _ _ hd
    rw [e] at hp
    cases hp
  · intro d sl hd
    obtain ⟨i, a, e1, e2, e3⟩ := number_get _ _ _ hd
    rw [Nat.zero_add] at e1
    subst e1
    obtain ⟨v, g1, g2⟩ := All2.get d a h3 e2
    refine ⟨v, ?_, ?_⟩
    · have hlt : d < (vs ++ cs).length := (List.getElem?_eq_some_iff.1 g1).1
      rw [Array.getElem?_append_left (by simpa using hlt)]
      simpa using g1
    · rw [e3]
      exact ⟨fun _ => ⟨rfl, g2⟩, fun hn => absurd (labs_nil _) hn⟩

/-- How an iterator starts: its first argument is the function to be called. -/
def entryY (N : Nat) (caps : List Ty) (y : denL caps) : ASt :=
  { N, marks := [], slots := (0, ⟨[], true, .v .yld⟩) :: number 1 (ptrs (tupOf caps y)), heap := [], fixed := [] }

theorem entryY_models {ok : Nat → Prop} {N : Nat} {caps : List Ty} {cs : List Value} {y : denL caps} (l : Nat) (hN : 1 + caps.length ≤ N) (hy : CapsRep P w ok caps cs y) (tm : Array Value) :
    Models P ⟨w, newOk ok w, fun _ => False, [], tm, l, w.heap.size⟩ (entryY N caps y) { tmps := (#[Value.func (.yield l) #[] #[]] ++ cs.toArray) ++ Array.replicate (N - (#[Value.func (.yield l) #[] #[]] ++ cs.toArray).size) undef, defers := [] } w := by
  let conc : Conc := ⟨fun _ => none, newOk ok w, l⟩
  have hok : ∀ b, ok b → okOf conc b := fun b hb => ⟨.inl hb, (fun _ _ _ h => (by cases h))⟩
  have h2 : All2 (VRel P w conc (okOf conc)) (ptrs (tupOf caps y)) cs := (ptrs_rel (conc := conc) caps hy).imp fun a b h => VRel.mono ⟨Nat.le_refl _, fun _ _ _ => rfl⟩ (fun b hb _ => hok b hb) (CLe.refl _) a h
  have hl2 := h2.length
  rw [ptrs_len, tupOf_len] at hl2
  have hget : ∀ d sl, Map.get (entryY N caps y).slots d = some sl → (d = 0 ∧ sl = ⟨[], true, .v .yld⟩) ∨ ∃ i a, d = 1 + i ∧ (ptrs (tupOf caps y))[i]? = some a ∧ sl = ⟨[], true, .v a⟩ := by
    intro d sl hd
    simp only [entryY, Map.get, nbeq] at hd
    by_cases h0 : 0 = d
    · simp [h0] at hd
      exact .inl ⟨h0.symm, hd.symm⟩
    · simp [h0] at hd
      exact .inr (number_get _ _ _ hd)
  refine ⟨conc, { defers := rfl, size := ?_, marks := ?_, slots := ?_, heap := (fun id ver o h => (by cases h)), dead := fun _ _ => rfl, inj := (fun _ _ _ _ _ _ _ h => (by cases h)), base := (fun _ _ _ _ h => (by cases h)), keeps := ⟨rfl, rfl, rfl, Nat.le_refl _, fun _ _ _ => rfl⟩, cB := rfl, cY := rfl, okS := start_ok ok w tm l, fixed := (fun _ h => (by cases h)) }⟩
  · simp [entryY]
    omega
  · intro d sl hd p hp
    rcases hget d sl hd with ⟨_, e⟩ | ⟨i, a, _, _, e⟩
    · rw [e] at hp; cases hp
    · rw [e] at hp; cases hp
  · intro d sl hd
    rcases hget d sl hd with ⟨e1, e⟩ | ⟨i, a, e1, e2, e3⟩
    · subst e1 e
      refine ⟨.func (.yield l) #[] #[], ?_, ⟨fun _ => ⟨rfl, rfl⟩, fun hn => absurd (labs_nil _) hn⟩⟩
      rw [Array.getElem?_append_left (by simp), Array.getElem?_append_left (by simp)]
      rfl
    · obtain ⟨v, g1, g2⟩ := All2.get i a h2 e2
      refine ⟨v, ?_, ?_⟩
      · have hlt : i < cs.length := (List.getElem?_eq_some_iff.1 g1).1
        subst e1
        rw [Array.getElem?_append_left (by simp; omega)]
        rw [Array.getElem?_append_right (by simp)]
        simpa using g1
      · rw [e3]
        exact ⟨fun _ => ⟨rfl, g2⟩, fun hn => absurd (labs_nil _) hn⟩

theorem args_len {ok : Nat → Prop} : (ts : List Ty) → {vs : List Value} → {x : denL ts} → ArgsRep P w ok ts vs x → vs.length = ts.length
  | [], vs, x, h => by cases h; rfl
  | [t], vs, x, ⟨cs, h1, h2⟩ => by subst h1; rfl
  | t :: u :: ts, vs, x, ⟨cs, r, h1, h2, h3⟩ => by subst h1; simp [args_len (u :: ts) h3]

theorem args_mono {ok ok' : Nat → Prop} (hs : Sub w ok ok') : (ts : List Ty) → {vs : List Value} → {x : denL ts} → ArgsRep P w ok ts vs x → ArgsRep P w ok' ts vs x
  | [], vs, x, h => h
  | [t], vs, x, ⟨cs, h1, h2⟩ => ⟨cs, h1, h2.re hs⟩
  | t :: u :: ts, vs, x, ⟨cs, r, h1, h2, h3⟩ => ⟨cs, r, h1, h2.re hs, args_mono hs (u :: ts) h3⟩

theorem res_of_args {ok : Nat → Prop} : (ts : List Ty) → {vs : List Value} → {x : denL ts} → ArgsRep P w ok ts vs x → ResRep P w ok ts (if vs.length = 1 then vs.headD undef else .tuple vs.toArray) x
  | [], vs, x, h => by cases h; rfl
  | [t], vs, x, ⟨cs, h1, h2⟩ => by subst h1; exact ⟨cs, rfl, h2⟩
  | t :: u :: ts, vs, x, h => by
    have hl := args_len _ h
    simp only [List.length_cons] at hl
    rw [if_neg (by omega)]
    exact ⟨vs, rfl, h⟩

theorem FreshT.sub {n : Nat} {ok ok' : Nat → Prop} (hs : Sub w ok ok') : (t : Ty) → {vs : List Value} → {d : t.den} → {bs : List Nat} → FreshT P n w ok t vs d bs → FreshT P n w ok' t vs d bs
  | .slice e, vs, d, bs, h => by
    rcases h with h | ⟨b, off, cap, cs, T, h1, h2, h3, h4, h5, h6, h7, h8⟩
    · exact .inl h
    · exact .inr ⟨b, off, cap, cs, T, h1, h2, h3, h4, h5, h6, h7, fun i x hi => (h8 i x hi).re hs⟩
  | .pair a b, vs, (x, y), bs, ⟨b1, b2, h1, h2, h3⟩ => ⟨b1, b2, h1, FreshT.sub hs a h2, FreshT.sub hs b h3⟩
  | .int k, vs, d, bs, ⟨h1, h2⟩ => ⟨h1, h2.re hs⟩
  | .bool, vs, d, bs, ⟨h1, h2⟩ => ⟨h1, h2.re hs⟩
  | .str, vs, d, bs, ⟨h1, h2⟩ => ⟨h1, h2.re hs⟩
  | .unit, vs, d, bs, ⟨h1, h2⟩ => ⟨h1, h2.re hs⟩
  | .fn1 _ _, vs, d, bs, ⟨h1, h2⟩ => ⟨h1, h2.re hs⟩
  | .fn2 _ _ _, vs, d, bs, ⟨h1, h2⟩ => ⟨h1, h2.re hs⟩
  | .seq _, vs, d, bs, ⟨h1, h2⟩ => ⟨h1, h2.re hs⟩
  | .seq2 _ _, vs, d, bs, ⟨h1, h2⟩ => ⟨h1, h2.re hs⟩
  | .map _ _, vs, d, bs, ⟨h1, h2⟩ => ⟨h1, h2.re hs⟩

/-- Fresh data are data. -/
theorem FreshT.rep {n : Nat} {ok ok' : Nat → Prop} (hs : Sub w ok ok') (hn : ∀ b, n ≤ b → ok' b) : (t : Ty) → {vs : List Value} → {d : t.den} → {bs : List Nat} → FreshT P n w ok t vs d bs → Rep P t w ok' vs d
  | .slice e, vs, l, bs, h => by
    rcases h with ⟨h1, h2, _⟩ | ⟨b, off, cap, cs, T, h1, h2, h3, h4, h5, h6, h7, h8⟩
    · refine ⟨none, 0, ?_, ?_, .inl h2⟩
      · rw [h1, h2]; rfl
      · rw [h2]; exact Nat.le_refl _
    · refine ⟨some ⟨b, off, none⟩, cap, h1, h5, .inr ⟨b, off, cs, T, _, rfl, hn b h3, h4, ?_, fun i y hi => ?_⟩⟩
      · exact Nat.le_trans (Nat.add_le_add_left (Nat.mul_le_mul_right _ h5) _) h7
      · exact (h8 i y hi).re hs
  | .pair a b, vs, (x, y), bs, ⟨b1, b2, h1, h2, h3⟩ => ⟨FreshT.rep hs hn a h2, FreshT.rep hs hn b h3⟩
  | .int k, vs, d, bs, ⟨h1, h2⟩ => h2.re hs
  | .bool, vs, d, bs, ⟨h1, h2⟩ => h2.re hs
  | .str, vs, d, bs, ⟨h1, h2⟩ => h2.re hs
  | .unit, vs, d, bs, ⟨h1, h2⟩ => h2.re hs
  | .fn1 _ _, vs, d, bs, ⟨h1, h2⟩ => h2.re hs
  | .fn2 _ _ _, vs, d, bs, ⟨h1, h2⟩ => h2.re hs
  | .seq _, vs, d, bs, ⟨h1, h2⟩ => h2.re hs
  | .seq2 _ _, vs, d, bs, ⟨h1, h2⟩ => h2.re hs
  | .map _ _, vs, d, bs, ⟨h1, h2⟩ => h2.re hs

def blk (conc : Conc) (id : Nat) : Option Nat := (conc id).bind fun p => blockOf p.2.1

theorem freshCells_one {n : Nat} {t : Ty} (ht : ∀ w ok vs d bs, FreshT P n w ok t vs d bs ↔ bs = [] ∧ Rep P t w ok vs d) {x : AVal} {r : List AVal} {us : List Value} {q : (t.den × List Nat) × List AVal}
    (hq : (freshOne t x r).run st = some q) (hs : t.sz = 1) (hp : t.isPair = false) (hv : All2 (VRel P w conc (okOf conc)) (x :: r) us) :
    ∃ vs ws bs, us = vs ++ ws ∧ All2 (VRel P w conc (okOf conc)) q.2 ws ∧ vs.length = t.sz ∧ FreshT P n w (okOf conc) t vs q.1.1 bs ∧ bs = q.1.2.filterMap (blk conc) ∧ ∀ id ∈ q.1.2, ∃ cv c, conc id = some (cv, c, true) := by
  unfold freshOne at hq
  split at hq
  · split at hq
    · rename_i y hy
      cases hq
      obtain ⟨e, he⟩ := castTy_some hy
      subst e
      subst he
      match us, hv with
      | v :: us, hv =>
        obtain ⟨zs, h1, h2⟩ := hv.1
        have hl := h2.len
        rw [hs] at hl
        match zs, hl with
        | [z], _ =>
          have : v = z := by rw [h1]; simp [Ty.val, hp]
          subst this
          exact ⟨[v], us, [], rfl, hv.2, by rw [hs]; rfl, (ht _ _ _ _ _).2 ⟨rfl, h2⟩, rfl, fun _ h => (by cases h)⟩
    · cases hq
  · cases hq

theorem freshCells_spec {n : Nat} (h : Mod P w0 conc st a w) (hn : ∀ b, ownedB conc b → n ≤ b) : (t : Ty) → {l : List AVal} → {us : List Value} → {q : (t.den × List Nat) × List AVal} → (freshCells t l).run st = some q → All2 (VRel P w conc (okOf conc)) l us →
    ∃ vs ws bs, us = vs ++ ws ∧ All2 (VRel P w conc (okOf conc)) q.2 ws ∧ vs.length = t.sz ∧ FreshT P n w (okOf conc) t vs q.1.1 bs ∧ bs = q.1.2.filterMap (blk conc) ∧ ∀ id ∈ q.1.2, ∃ cv c, conc id = some (cv, c, true)
  | .slice e, .hand id ver :: r, v :: us, q, hr, hv => by
    simp only [freshCells, RM.run] at hr
    split at hr
    · rename_i cv e' l ho
      obtain ⟨g1, g2⟩ := cond_some hr
      have := nbeq_true g1
      subst this
      split at g2
      · rename_i x hx
        cases g2
        obtain ⟨he, hx⟩ := castTy_some hx
        cases he
        subst hx
        obtain ⟨c, ow, k1, k2⟩ := obj_rel h ho
        obtain ⟨cv', c', ow', m1, m2, mo, m3⟩ := hv.1
        rw [k1] at m1; cases m1
        have hvc := m3 rfl
        subst hvc
        obtain ⟨rfl, k2⟩ := k2
        rcases k2 with ⟨q1, q2⟩ | ⟨b, off, cap, cs, T, q1, q2, q3, q4, q5, q6⟩
        · refine ⟨[v], us, [], rfl, hv.2, rfl, .inl ⟨by rw [q1], q2, rfl⟩, ?_, ?_⟩
          · simp [blk, k1, q1, blockOf]
          · intro j hj; rw [List.mem_singleton] at hj; subst hj; exact ⟨_, _, k1⟩
        · refine ⟨[v], us, [b], rfl, hv.2, rfl, .inr ⟨b, off, cap, cs, T, by rw [q1], rfl, hn b ⟨id, cv, v, k1, by rw [q1]; rfl⟩, q2, q3, q4, q5, q6⟩, ?_, ?_⟩
          · simp [blk, k1, q1, blockOf]
          · intro j hj; rw [List.mem_singleton] at hj; subst hj; exact ⟨_, _, k1⟩
      · cases g2
    · cases hr
  | .slice e, .nils :: r, v :: us, q, hr, hv => by
    cases hr
    have hvn : v = .slice none 0 0 := hv.1
    subst hvn
    exact ⟨[_], us, [], rfl, hv.2, rfl, .inl ⟨rfl, rfl, rfl⟩, rfl, fun _ h => (by cases h)⟩
  | .pair x y, l, us, q, hr, hv => by
    simp only [freshCells] at hr
    obtain ⟨p1, g1, hr⟩ := RM.bind_some hr
    obtain ⟨p2, g2, hr⟩ := RM.bind_some hr
    cases hr
    obtain ⟨vs1, ws1, bs1, e1, e2, e3, e4, e5, e6⟩ := freshCells_spec h hn x g1 hv
    obtain ⟨vs2, ws2, bs2, f1, f2, f3, f4, f5, f6⟩ := freshCells_spec h hn y g2 e2
    refine ⟨vs1 ++ vs2, ws2, bs1 ++ bs2, by rw [e1, f1, List.append_assoc], f2, by simp [Ty.sz, e3, f3], ⟨bs1, bs2, rfl, ?_, ?_⟩, by simp [e5, f5], ?_⟩
    · rw [List.take_left' e3]; exact e4
    · rw [List.drop_left' e3]; exact f4
    · intro id hid
      rcases List.mem_append.1 hid with hid | hid
      · exact e6 id hid
      · exact f6 id hid
  | .int k, x :: r, us, q, hr, hv => freshCells_one (fun _ _ _ _ _ => Iff.rfl) hr rfl rfl hv
  | .bool, x :: r, us, q, hr, hv => freshCells_one (fun _ _ _ _ _ => Iff.rfl) hr rfl rfl hv
  | .str, x :: r, us, q, hr, hv => freshCells_one (fun _ _ _ _ _ => Iff.rfl) hr rfl rfl hv
  | .int k, [], us, q, hr, hv => by cases hr
  | .bool, [], us, q, hr, hv => by cases hr
  | .str, [], us, q, hr, hv => by cases hr
  | .slice e, .hand id ver :: r, [], q, hr, hv => hv.elim
  | .slice e, .nils :: r, [], q, hr, hv => hv.elim
  | .slice e, [], us, q, hr, hv => by cases hr
  | .slice e, .pure _ _ :: r, us, q, hr, hv => by cases hr
  | .slice e, .bptr _ _ _ :: r, us, q, hr, hv => by cases hr
  | .slice e, .pptr _ _ :: r, us, q, hr, hv => by cases hr
  | .slice e, .eptr _ _ _ _ :: r, us, q, hr, hv => by cases hr
  | .slice e, .epart _ _ _ _ _ :: r, us, q, hr, hv => by cases hr
  | .slice e, .fref _ :: r, us, q, hr, hv => by cases hr
  | .slice e, .flt _ :: r, us, q, hr, hv => by cases hr
  | .slice e, .nhand _ _ :: r, us, q, hr, hv => by cases hr
  | .slice e, .nptr _ _ _ _ :: r, us, q, hr, hv => by cases hr
  | .slice e, .nel _ _ _ _ :: r, us, q, hr, hv => by cases hr
  | .slice e, .nelp _ _ _ _ _ :: r, us, q, hr, hv => by cases hr
  | .slice e, .junk :: r, us, q, hr, hv => by cases hr
  | .slice e, .yld :: r, us, q, hr, hv => by cases hr
  | .unit, l, us, q, hr, hv => by cases l <;> first | cases hr | (rename_i x r; cases x <;> cases hr)
  | .fn1 _ _, l, us, q, hr, hv => by cases l <;> first | cases hr | (rename_i x r; cases x <;> cases hr)
  | .fn2 _ _ _, l, us, q, hr, hv => by cases l <;> first | cases hr | (rename_i x r; cases x <;> cases hr)
  | .seq _, l, us, q, hr, hv => by cases l <;> first | cases hr | (rename_i x r; cases x <;> cases hr)
  | .seq2 _ _, l, us, q, hr, hv => by cases l <;> first | cases hr | (rename_i x r; cases x <;> cases hr)
  | .map _ _, l, us, q, hr, hv => by cases l <;> first | cases hr | (rename_i x r; cases x <;> cases hr)

theorem nodupN_ok : {l : List Nat} → nodupN l = true → l.Nodup
  | [], _ => List.nodup_nil
  | i :: r, h => by
    simp only [nodupN, Bool.and_eq_true, Bool.not_eq_true', List.any_eq_false] at h
    refine List.nodup_cons.2 ⟨fun hm => h.1 i hm (by simp [nbeq]), nodupN_ok h.2⟩

theorem blks_nodup (h : Mod P w0 conc st a w) : {l : List Nat} → l.Nodup → (∀ id ∈ l, ∃ cv c, conc id = some (cv, c, true)) → (l.filterMap (blk conc)).Nodup
  | [], _, _ => List.nodup_nil
  | i :: r, hn, ho => by
    rw [List.nodup_cons] at hn
    have ih := blks_nodup h hn.2 fun id hid => ho id (List.mem_cons_of_mem _ hid)
    rw [List.filterMap_cons]
    split
    · exact ih
    · rename_i b hb
      refine List.nodup_cons.2 ⟨fun hm => ?_, ih⟩
      obtain ⟨j, hj, hbj⟩ := List.mem_filterMap.1 hm
      obtain ⟨cv, c, hc⟩ := ho i List.mem_cons_self
      obtain ⟨cv', c', hc'⟩ := ho j (List.mem_cons_of_mem _ hj)
      simp only [blk, hc, Option.bind_some] at hb
      simp only [blk, hc', Option.bind_some] at hbj
      have := h.inj i j _ _ _ _ b hc hc' (hasB_of hb) (hasB_of hbj)
      subst this
      exact hn.1 hj

theorem freshOf_spec {n : Nat} {ok : Nat → Prop} (h : Mod P w0 conc st a w) (hn : ∀ b, ownedB conc b → n ≤ b) (hnB : ∀ b, n ≤ b → ok b) (hsB : ∀ b, conc.B b → ok b) : (outs : List Ty) → {l : List SVal} → {vs : List Value} → {r : denL outs} → (freshOf outs l).run st = some r → All2 (SRel P w conc (okOf conc)) l vs →
    ∃ v, vs = [v] ∧ ResRep P w ok outs v r ∧ FreshC P n w conc.B outs v r := by
  intro outs l vs r hr hv
  unfold freshOf at hr
  split at hr
  · rename_i e id ver
    match vs, hv with
    | [v], hv =>
      simp only [RM.run] at hr
      split at hr
      · rename_i cv e' l ho
        obtain ⟨g1, g2⟩ := cond_some hr
        have := nbeq_true g1
        subst this
        split at g2
        · rename_i x hx
          cases g2
          obtain ⟨he, hx⟩ := castTy_some hx
          obtain ⟨c, ow, k1, k2⟩ := obj_rel h ho
          obtain ⟨cv', c', ow', m1, m2, mo, m3⟩ := hv.1
          rw [k1] at m1; cases m1
          have hvc := m3 rfl
          subst hvc
          cases he
          subst hx
          obtain ⟨rfl, k2⟩ := k2
          refine ⟨v, rfl, ?_, ?_⟩
          · refine ⟨[v], rfl, ?_⟩
            rcases k2 with ⟨q1, q2⟩ | ⟨b, off, cap, cs, T, q1, q2, q3, q4, q5, q6⟩
            · refine ⟨none, 0, ?_, ?_, .inl q2⟩
              · rw [q1, q2]; rfl
              · rw [q2]; exact Nat.le_refl _
            · refine ⟨some ⟨b, off, none⟩, cap, by rw [q1], q3, .inr ⟨b, off, cs, T, _, rfl, ?_, q2, ?_, fun i y hi => ?_⟩⟩
              · exact hnB b (hn b ⟨id, cv, v, k1, by rw [q1]; rfl⟩)
              · exact Nat.le_trans (Nat.add_le_add_left (Nat.mul_le_mul_right _ q3) _) q5
              · exact (q6 i y hi).re fun b hb _ => hsB b hb.1
          · rcases k2 with q | ⟨b, off, cap, cs, T, q1, q2, q3, q4, q5, q6⟩
            · exact .inl q
            · refine .inr ⟨b, off, cap, cs, T, q1, hn b ⟨id, cv, v, k1, by rw [q1]; rfl⟩, q2, q3, q4, q5, fun i y hi => (q6 i y hi).re fun b' hb' _ => ⟨hb'.1, fun e => ?_⟩⟩
              subst e
              exact hb'.2 id cv v k1 (by rw [q1]; rfl)
        · cases g2
      · cases hr
    | [], hv => exact hv.elim
    | _ :: _ :: _, hv => exact hv.2.elim
  · rename_i e
    match vs, hv with
    | [v], hv =>
      cases hr
      have hvn : v = .slice none 0 0 := hv.1
      subst hvn
      exact ⟨_, rfl, ⟨[_], rfl, Rep.nilS⟩, .inl ⟨rfl, rfl⟩⟩
    | [], hv => exact hv.elim
    | _ :: _ :: _, hv => exact hv.2.elim
  · rename_i x y l
    match vs, hv with
    | [v], hv =>
      obtain ⟨q, g1, g2⟩ := RM.bind_some hr
      obtain ⟨us, hu1, hu2, hu3⟩ := hv.1
      obtain ⟨cs, ws, bs, e1, e2, e3, e4, e5, e6⟩ := freshCells_spec h hn _ g1 hu3
      split at g2
      · rename_i hnil
        obtain ⟨hnd, g3⟩ := cond_some g2
        cases g3
        rw [hnil] at e2
        match ws, e2 with
        | [], _ =>
          rw [List.append_nil] at e1
          subst e1
          have hval : v = (Ty.pair x y).val us := by rw [hu1]; simp [Ty.val, Ty.isPair]
          refine ⟨v, rfl, ⟨us, hval, e4.rep (fun b hb _ => hsB b hb.1) hnB⟩, us, bs, hval, hu2, ?_, e3, e4.sub fun b hb _ => ⟨hb.1, fun hm => ?_⟩⟩
          · rw [e5]; exact blks_nodup h (nodupN_ok hnd) e6
          · rw [e5] at hm
            obtain ⟨id, hid, hbl⟩ := List.mem_filterMap.1 hm
            obtain ⟨cv, c, hc⟩ := e6 id hid
            simp only [blk, hc, Option.bind_some] at hbl
            exact hb.2 id cv c hc (hasB_of hbl)
        | _ :: _, e2 => exact e2.elim
      · cases g2
    | [], hv => exact hv.elim
    | _ :: _ :: _, hv => exact hv.2.elim
  · cases hr

theorem FreshC.sub {n : Nat} {ok ok' : Nat → Prop} (hs : Sub w ok ok') {ts : List Ty} {v : Value} {r : denL ts} (h : FreshC P n w ok ts v r) : FreshC P n w ok' ts v r := by
  unfold FreshC at h ⊢
  split at h
  · rcases h with h | ⟨b, off, cap, cs, T, h1, h2, h3, h4, h5, h6, h7⟩
    · exact .inl h
    · exact .inr ⟨b, off, cap, cs, T, h1, h2, h3, h4, h5, h6, fun i x hi => (h7 i x hi).re fun b' hb' hl => ⟨hs b' hb'.1 hl, hb'.2⟩⟩
  · obtain ⟨vs, bs, h1, h2, h3, h4, h5⟩ := h
    exact ⟨vs, bs, h1, h2, h3, h4, h5.sub fun b' hb' hl => ⟨hs b' hb'.1 hl, hb'.2⟩⟩
  · trivial

theorem resRep_sub {ok ok' : Nat → Prop} (hs : Sub w ok ok') {ts : List Ty} {v : Value} {r : denL ts} (h : ResRep P w ok ts v r) : ResRep P w ok' ts v r := ResRep.mono ⟨Nat.le_refl _, fun _ _ _ => rfl⟩ hs ts h

/-- The deferred calls are fewer. -/
theorem Mod.fewer {s : Start} (h : Mod P s conc st a w) (r : List Deferred) (hS : StartOK { s with ds := r }) : Mod P { s with ds := r } conc st { a with defers := r } w :=
  { defers := rfl, size := h.size, marks := h.marks, slots := h.slots, heap := h.heap, dead := h.dead, inj := h.inj, base := h.base, keeps := ⟨h.keeps.os, h.keeps.tape, h.keeps.output, h.keeps.size, h.keeps.block⟩, cB := h.cB, cY := h.cY, okS := hS, fixed := h.fixed }

/-- A mark is come to. -/
theorem mark_step {s0 s : Start} (hl : LinkR s0 s) (hlo : s0.lo = s0.w.heap.size) (h : Mod P s conc st a w) {d : Deferred} {r : List Deferred} (hd : a.defers = d :: r) :
    ∃ D, d = { target := .collected D, args := #[] } ∧ (Instr.takeDeferred D).run P w = .ok [] (w.putObj D (.deferred none)) ∧ ∃ s', LinkR s0 s' ∧ Models P s' st { a with defers := r } (w.putObj D (.deferred none)) := by
  have hds : s.ds = d :: r := h.defers.symm.trans hd
  obtain ⟨D, e, h1, h2, h3⟩ := h.okS.ds d (by rw [hds]; exact List.mem_cons_self)
  have hlt := (Array.getElem?_eq_some_iff.1 h1).1
  have hD : w.heap[D]? = some (.deferred (some [])) := (h.keeps.block D hlt fun g => h2 (h.okS.mB D g)).trans h1
  have hdn := h.okS.dn
  rw [hds, List.nodup_cons] at hdn
  have hot : ∀ b, b ≠ D → (w.putObj D (.deferred none)).heap[b]? = w.heap[b]? := fun b hb => World.putObj_heap_other hb
  have hsz : (w.putObj D (.deferred none)).heap.size = w.heap.size := by simp
  have hk := h.keeps.size
  refine ⟨D, e, run_takeDeferred hD, ⟨w.putObj D (.deferred none), s.B, ownedB conc, r, s.tmps, s.yl, s.lo⟩, ?_, ?_⟩
  · have l1 := hl.trans h.link.toR
    exact {
      os := l1.os
      tape := l1.tape
      output := l1.output
      size := by
        have := l1.size
        show s0.w.heap.size ≤ (w.putObj D (.deferred none)).heap.size
        have h2 : s0.w.heap.size ≤ w.heap.size := this
        omega
      block := fun b hb hm => (hot b fun g => by
        have := hl.lo
        omega).trans (l1.block b hb hm)
      M := l1.M
      B1 := l1.B1
      B2 := l1.B2
      lo := l1.lo }
  · have hr : Mod P { s with ds := r } conc st { a with defers := r } w := h.fewer r {
      up := h.okS.up
      mB := h.okS.mB
      ds := fun d' hd' => h.okS.ds d' (by rw [hds]; exact List.mem_cons_of_mem _ hd')
      dn := hdn.2
      lo := h.okS.lo }
    refine ⟨_, Mod.move' hr s.B (by omega) (fun b _ hb => hot b fun g => h2 (by rw [← g, ← h.cB]; exact hb)) (fun b _ hb => by rw [← h.cB]; exact hb) rfl rfl (fun b hb => hb) rfl rfl rfl {
      up := fun b hb => h.okS.up b (by
        have h1 : (w.putObj D (.deferred none)).heap.size ≤ b := hb
        omega)
      mB := fun b ⟨i, v, c, g1, g2⟩ => h.inB g1 g2
      ds := fun d' hd' => by
        obtain ⟨D', e', k1, k2, k3⟩ := h.okS.ds d' (by rw [hds]; exact List.mem_cons_of_mem _ hd')
        have hlt' := (Array.getElem?_eq_some_iff.1 k1).1
        refine ⟨D', e', (hot D' fun g => ?_).trans ((h.keeps.block D' hlt' fun g => k2 (h.okS.mB D' g)).trans k1), k2, k3⟩
        subst g
        exact hdn.1 (by rw [e, ← e']; exact hd')
      dn := hdn.2
      lo := by
        have := h.okS.lo
        show s.lo ≤ (w.putObj D (.deferred none)).heap.size
        omega }⟩

theorem fin_sound (hE : EnvOK P E) {fn : Func} {outs : List Ty} {fresh : Bool} {ex : Exit} {ans : denL outs} {ok : Nat → Prop} {w1 : World} {tm : Array Value} {n : Nat} : ∀ (ds : List Deferred) {s : Start} {a : Act} {w : World}, a.defers = ds →
    LinkR ⟨w1, newOk ok w1, fun _ => False, [], tm, 0, w1.heap.size⟩ s → Models P s st a w → finR E fresh fn.results.toList outs ex st = some ans →
    LeavesInM Fence.wide n P fn a.tmps (fun e w' => ∃ v, e = .returned v ∧ Keeps w1 w' ∧ ResRep P w' (newOk ok w1) outs v ans ∧ (fresh = true → FreshC P w1.heap.size w' (newOk ok w1) outs v ans)) ds .returning w
  | d :: r, s, a, w, hd, hl, ⟨conc, hm⟩, h => by
    obtain ⟨D, e, hrun, s', hl', hm'⟩ := mark_step hl rfl hm hd
    subst e
    exact ⟨by simp, .inl ⟨D, _, rfl, hrun, fin_sound hE r (a := { a with defers := r }) rfl hl' hm' h⟩⟩
  | [], s, a, w, hd, hl, ⟨conc, hm⟩, h => by
    have l1 := hl.trans hm.link.toR
    have hk : Keeps w1 w := ⟨l1.os, l1.tape, l1.output, l1.size, fun b hb => l1.block b hb id⟩
    have hsub : Sub w conc.B (newOk ok w1) := fun b hb _ => by
      rw [hm.cB] at hb
      by_cases hlt : b < w1.heap.size
      · exact hl.B2 b hlt hb
      · exact .inr (by omega)
    have hn : ∀ b, ownedB conc b → w1.heap.size ≤ b := fun b hb => by
      rcases l1.M b hb with g | g
      · exact g.elim
      · exact g
    have key : (bif fresh then ((resOf E fn.results.toList).bind fun l => freshOf outs l).runK st some
      else ((resOf E fn.results.toList).bind fun l => packArgs E outs l).runK st fun x => some x.1) = some ans → ∃ v, (results fn a.tmps).run P w = .ok v w ∧
        ∃ v', Ending.returned v = .returned v' ∧ Keeps w1 w ∧ ResRep P w (newOk ok w1) outs v' ans ∧ (fresh = true → FreshC P w1.heap.size w (newOk ok w1) outs v' ans) := by
      intro h
      cases fresh with
      | true =>
        simp only [cond_true] at h
        rw [RM.runK_eq] at h
        cases hr : ((resOf E fn.results.toList).bind fun l => freshOf outs l).run st with
        | none => rw [hr] at h; cases h
        | some x =>
          rw [hr] at h
          cases h
          obtain ⟨l, g1, g2⟩ := RM.bind_some hr
          obtain ⟨vs, e1, e2, e3⟩ := resOf_spec hE hm g1
          obtain ⟨v, f1, f2, f3⟩ := freshOf_spec (ok := fun b => conc.B b ∨ w1.heap.size ≤ b) hm hn (fun b hb => .inr hb) (fun b hb => .inl hb) outs g2 e2
          refine ⟨_, results_run e1, v, ?_, hk, resRep_sub (fun b hb hlt => ?_) f2, fun _ => f3.sub hsub⟩
          · rw [f1]; rfl
          · rcases hb with hb | hb
            · exact hsub b hb hlt
            · exact .inr hb
      | false =>
        simp only [cond_false] at h
        rw [RM.runK_eq] at h
        cases hr : ((resOf E fn.results.toList).bind fun l => packArgs E outs l).run st with
        | none => rw [hr] at h; cases h
        | some x =>
          rw [hr] at h
          cases h
          obtain ⟨l, g1, g2⟩ := RM.bind_some hr
          obtain ⟨vs, e1, e2, e3⟩ := resOf_spec hE hm g1
          have hp := (packArgs_spec hE hm outs g2 e2 (ids x.2) fun _ h => h).2
          have hp' : ArgsRep P w (newOk ok w1) outs vs x.1 := args_mono (fun b hb hlt => hsub b hb.1 hlt) outs hp
          exact ⟨_, results_run e1, _, rfl, hk, res_of_args outs hp', (fun h => (by cases h))⟩
    cases ex <;> simp only [finR] at h <;> first | exact key h | cases h

/-- What a function's body comes to. -/
def funR (E : Env) (fn : Func) (ins caps outs : List Ty) (fresh : Bool) (O : List (Ev (denL outs))) (x : denL ins) (y : denL caps) : Option (denL outs) :=
  match fn.body with
  | some c => bif Nat.ble (ins.length + caps.length) fn.ntmps then codeR E Hdl.no c O (entry fn.ntmps ins caps x y) (finR E fresh fn.results.toList outs) else none
  | none => none

theorem fun_ok (hE : EnvOK P E) (hP : P.follows .mixedOrders = true) {f : FuncId} {fn : Func} (hf : P.funcs[f]? = some fn) (hn : (fn.name == "runtime.NumGoroutine") = false)
    {ins caps outs : List Ty} {g : denL ins → denL caps → Option (denL outs)} {fresh : Bool} {O : List (Ev (denL outs))} (hO : ∀ c, fn.body = some c → OsOK P (Hdl.no (R := denL outs)) false c O)
    (heq : ∀ x y, funR E fn ins caps outs fresh O x y = g x y) (hb : fn.body.isSome = true) : ConOK P f ⟨ins, caps, outs, g, fresh⟩ := by
  obtain ⟨c, hc⟩ := Option.isSome_iff_exists.1 hb
  refine ⟨⟨fn, hf, hn, by rw [hc]; rfl⟩, ?_⟩
  intro w ok vs cs x y r hx hy hr
  dsimp only at hx hy hr
  rw [← heq] at hr
  unfold funR at hr
  rw [hc] at hr
  dsimp only at hr
  cases hle : Nat.ble (ins.length + caps.length) fn.ntmps with
  | false => rw [hle] at hr; cases hr
  | true =>
    rw [hle] at hr
    simp only [cond_true] at hr
    let s0 : Start := ⟨w, newOk ok w, fun _ => False, [], #[], 0, w.heap.size⟩
    have hI : InvOK P (Hdl.no (R := denL outs)) false (fun s b => b = r ∧ LinkR s0 s) := {
      link := fun s s' b hb hl => ⟨hb.1, hb.2.trans hl.toR⟩
      nods := fun h => absurd rfl h
      fnl := fun _ _ => ⟨s0, r, fun _ _ => Iff.rfl⟩
      yld := fun h => absurd rfl h }
    refine callsIn_wide.1 (callsIn_of_wp_marks (n := 7) hf hc trivial (wpIn_mono (codeR_sound hE hP c O (hO c hc) none rfl _ hI _ _ _ _ _ _ hr (entry_models (Nat.le_of_ble_eq_true hle) hx hy #[]) ⟨rfl, LinkR.refl _⟩) ?_))
    rintro e a' w' ⟨s', ans', st', hm, ⟨rfl, hl⟩, h'⟩
    cases e with
    | normal => exact fin_sound hE a'.defers rfl hl hm h'
    | ret => exact fin_sound (ex := .ret) hE a'.defers rfl hl hm h'
    | exit i => cases h'
    | goto i => cases h'
    | panic c => cases h'
    | outgrown => cases h'

/-! Iterators. -/
def finI {α : Type} : Exit → ASt → Option (List α)
  | .normal, _ => some []
  | .ret, _ => some []
  | _, _ => none

def hdlL (tys : List Ty) : Hdl (List (denL tys)) := ⟨tys, fun x A B => emitL x A B⟩

def iterR (E : Env) (fn : Func) (tys caps : List Ty) (O : List (Ev (List (denL tys)))) (y : denL caps) : Option (List (denL tys)) :=
  match fn.body with
  | some c => bif fn.results.toList.isEmpty && Nat.ble (1 + caps.length) fn.ntmps then codeR E (hdlL tys) c O (entryY fn.ntmps caps y) finI else none
  | none => none

def InvIt {α : Type} (l : Nat) (w1 : World) (ok : Nat → Prop) (xs : List α) (J : Nat → (Nat → Prop) → (Nat → Prop) → World → Prop) (Jx : (Nat → Prop) → (Nat → Prop) → World → Prop) (s : Start) (ans : List α) : Prop :=
  s.ds = [] ∧ s.yl = l ∧ w1.heap.size ≤ s.w.heap.size ∧ ∃ A : Nat → Prop, (∀ b, A b → w1.heap.size ≤ b ∧ b < s.w.heap.size) ∧ (∀ b, s.M b → A b) ∧ (∀ b, b < s.w.heap.size → s.B b → (ok b ∧ b < w1.heap.size) ∨ A b) ∧
    ((∃ k, k ≤ xs.length ∧ xs.drop k = ans ∧ J k A s.M s.w) ∨ (ans = [] ∧ Jx A s.M s.w))

theorem InvIt.link {α : Type} {l : Nat} {w1 : World} {ok : Nat → Prop} {xs : List α} {J : Nat → (Nat → Prop) → (Nat → Prop) → World → Prop} {Jx : (Nat → Prop) → (Nat → Prop) → World → Prop}
    (hJ : ∀ k A S W A' S' W', J k A S W → Steps A S W A' S' W' → J k A' S' W') (hJx : ∀ A S W A' S' W', Jx A S W → Steps A S W A' S' W' → Jx A' S' W')
    {s s' : Start} {ans : List α} (h : InvIt l w1 ok xs J Jx s ans) (hl : Link s s') : InvIt l w1 ok xs J Jx s' ans := by
  obtain ⟨h1, h2, h3, A, h4, h5, h6, h7⟩ := h
  have hsz := hl.size
  have hst : Steps A s.M s.w (fun b => A b ∨ (s.w.heap.size ≤ b ∧ b < s'.w.heap.size)) s'.M s'.w := {
    os := hl.os
    tape := hl.tape
    output := hl.output
    size := hsz
    block := hl.block
    A1 := fun b hb => .inl hb
    A2 := fun b hb => hb.imp id fun g => g.1
    A3 := fun b hb => by
      rcases hb with g | g
      · have := (h4 b g).2; omega
      · exact g.2
    S2 := fun b hb => (hl.M b hb).imp id fun g => g.1
    SA := fun b hb => (hl.M b hb).imp (h5 b) id }
  refine ⟨hl.ds.trans h1, hl.yl.trans h2, by omega, _, fun b hb => ?_, hst.SA, fun b hb hB => ?_, ?_⟩
  · rcases hb with g | g
    · have := h4 b g; omega
    · omega
  · by_cases hlt : b < s.w.heap.size
    · exact (h6 b hlt ((hl.B b).1 hB)).imp id .inl
    · exact .inr (.inr ⟨by omega, hb⟩)
  · rcases h7 with ⟨k, g1, g2, g3⟩ | ⟨g1, g2⟩
    · exact .inl ⟨k, g1, g2, hJ _ _ _ _ _ _ _ g3 hst⟩
    · exact .inr ⟨g1, hJx _ _ _ _ _ _ g2 hst⟩

theorem opt_cond {α : Type} {b : Bool} {x : Option α} {y : α} (h : (bif b then x else none) = some y) : b = true ∧ x = some y := by
  cases b with
  | true => exact ⟨rfl, h⟩
  | false => cases h

theorem emitL_some {α : Type} {x : α} {A B : Option (List α)} {ans : List α} (h : emitL x A B = some ans) : ∃ ys, A = some ys ∧ B = some [] ∧ ans = x :: ys := by
  unfold emitL at h
  cases A with
  | none => cases h
  | some ys =>
    cases B with
    | none => cases h
    | some zs =>
      cases zs with
      | nil => cases h; exact ⟨ys, rfl, rfl, rfl⟩
      | cons _ _ => cases h

theorem iter_seq (hE : EnvOK P E) (hP : P.follows .mixedOrders = true) {tys : List Ty} (hne : tys ≠ []) {AR : World → (Nat → Prop) → Array Value → denL tys → Prop} (hAR : ∀ W o vas x, ArgsRep P W o tys vas x → AR W o vas.toArray x)
    {f : FuncId} {fn : Func} (hf : P.funcs[f]? = some fn) {caps : List Ty} {O : List (Ev (List (denL tys)))} {c : Code} (hc : fn.body = some c) (hO : OsOK P (hdlL tys) false c O)
    {w1 : World} {ok : Nat → Prop} {cs : List Value} {y : denL caps} {xs : List (denL tys)} (hy : CapsRep P w1 ok caps cs y) (hr : iterR E fn tys caps O y = some xs) : SeqOK P AR f cs.toArray w1 ok xs := by
  intro l J Jx hJ hJx hY h0
  unfold iterR at hr
  rw [hc] at hr
  dsimp only at hr
  obtain ⟨g, hr⟩ := opt_cond hr
  simp only [Bool.and_eq_true] at g
  have hres : fn.results.toList = [] := by simpa using g.1
  have hI : InvOK P (hdlL tys) false (InvIt l w1 ok xs J Jx) := {
    link := fun s s' ans h hl => h.link hJ hJx hl
    nods := fun _ s ans h => h.1
    fnl := fun _ h => absurd h hne
    yld := fun _ s ans x A B vas hinv hS he hargs => by
      obtain ⟨ys, rfl, rfl, rfl⟩ := emitL_some he
      obtain ⟨h1, h2, h3, A, h4, h5, h6, h7⟩ := hinv
      rcases h7 with ⟨k, q1, q2, q3⟩ | ⟨q1, _⟩
      · have hlt : k < xs.length := by
          rcases Nat.lt_or_ge k xs.length with q | q
          · exact q
          · rw [List.drop_eq_nil_of_le q] at q2
            cases q2
        rw [List.drop_eq_getElem_cons hlt] at q2
        have q2 := List.cons.inj q2
        have hk : xs[k]? = some x := by rw [List.getElem?_eq_getElem hlt]; exact congrArg some q2.1
        have hAR' : AR s.w (fun b => (ok b ∧ b < w1.heap.size) ∨ (A b ∧ ¬ s.M b)) vas.toArray x := hAR _ _ _ _ (args_mono (fun b hb hlt => (h6 b hlt hb.1).imp id fun g => ⟨g, hb.2⟩) tys hargs)
        obtain ⟨fn1, tm1, as1, bd1, y1, y2⟩ := hY k x A s.M s.w vas.toArray q3 hk h5 h4 h3 hAR'
        rw [h2]
        refine ⟨fn1, tm1, as1, bd1, y1, y2.mono ?_⟩
        rintro e W' ⟨k1, k2⟩
        have hsz := k1.size
        have hA' : ∀ b, A b → w1.heap.size ≤ b ∧ b < W'.heap.size := fun b hb => ⟨(h4 b hb).1, Nat.lt_of_lt_of_le (h4 b hb).2 hsz⟩
        have hB' : ∀ b, b < W'.heap.size → (s.after W').B b → (ok b ∧ b < w1.heap.size) ∨ A b := fun b hb hB => by
          rcases hB with ⟨g1, g2⟩ | g
          · exact h6 b g1 g2
          · omega
        refine ⟨⟨k1.os, k1.tape, k1.output, k1.size, fun b hb hB => k1.block b hb (h6 b hb hB)⟩, ?_⟩
        rcases k2 with ⟨rfl, k2⟩ | ⟨rfl, k2⟩
        · exact ⟨true, rfl, ys, rfl, h1, h2, Nat.le_trans h3 hsz, A, hA', h5, hB', .inl ⟨k + 1, hlt, q2.2, k2⟩⟩
        · exact ⟨false, rfl, [], rfl, h1, h2, Nat.le_trans h3 hsz, A, hA', h5, hB', .inr ⟨rfl, k2⟩⟩
      · cases q1 }
  have hent := entryY_models (P := P) (w := w1) (ok := ok) (N := fn.ntmps) l (Nat.le_of_ble_eq_true g.2) hy #[]
  refine callsIn_wide.1 (callsIn_of_wp (n := 7) hf hc trivial (wpIn_mono (codeR_sound hE hP c O hO none rfl _ hI _ _ _ _ _ _ hr hent
    ⟨rfl, rfl, Nat.le_refl _, fun _ => False, (fun _ h => h.elim), (fun _ h => h.elim), fun b hb hB => ?_, .inl ⟨0, Nat.zero_le _, rfl, h0⟩⟩) ?_))
  · rcases hB with hB | hB
    · exact .inl ⟨hB, hb⟩
    · exact absurd hb (Nat.not_lt.2 hB)
  rintro e a' w' ⟨s', ans', st', ⟨conc, hm⟩, hinv, h'⟩
  have hd : a'.defers = [] := hm.defers.trans hinv.1
  have hfin : InvIt l w1 ok xs J Jx (s'.now conc a' w') ans' := hinv.link hJ hJx hm.link
  have key : ans' = [] → a'.defers = [] ∧ ∃ v, (results fn a'.tmps).run P w' = .ok v w' ∧ ((∃ u, Ending.returned v = .returned u) ∧ ((∃ A S, J xs.length A S w') ∨ ∃ A S, Jx A S w')) := by
    intro ha
    subst ha
    refine ⟨hd, _, results_run (a := a') (vs := []) (by rw [hres]; simp), ⟨_, rfl⟩, ?_⟩
    obtain ⟨h1, h2, h3, A, h4, h5, h6, h7⟩ := hfin
    rcases h7 with ⟨k, q1, q2, q3⟩ | ⟨_, q2⟩
    · have : k = xs.length := by
        have := List.drop_eq_nil_iff.1 q2
        omega
      subst this
      exact .inl ⟨_, _, q3⟩
    · exact .inr ⟨_, _, q2⟩
  cases e with
  | normal => exact key (by cases h'; rfl)
  | ret => exact key (by cases h'; rfl)
  | exit i => cases h'
  | goto i => cases h'
  | panic c => cases h'
  | outgrown => cases h'

theorem iter1_ok (hE : EnvOK P E) (hP : P.follows .mixedOrders = true) {f : FuncId} {fn : Func} (hf : P.funcs[f]? = some fn) (hn : (fn.name == "runtime.NumGoroutine") = false) {e : Ty} {caps : List Ty} {g : denL caps → Option (List e.den)}
    {O : List (Ev (List (denL [e])))} (hO : ∀ c, fn.body = some c → OsOK P (hdlL [e]) false c O) (heq : ∀ y, iterR E fn [e] caps O y = g y) (hb : fn.body.isSome = true) : IConOK P f ⟨caps, .seq e, g⟩ := by
  obtain ⟨c, hc⟩ := Option.isSome_iff_exists.1 hb
  refine ⟨rfl, fun w ok cs y xs hy hx => ?_⟩
  dsimp only at hy hx
  refine ⟨f, cs.toArray, rfl, ⟨fn, hf, hn, by rw [hc]; rfl⟩, fun w' ok' hext hsub => ?_⟩
  exact iter_seq hE hP (tys := [e]) (by simp) (fun W o vas x ⟨us, h1, h2⟩ => ⟨us, by rw [h1], h2⟩) hf hc (hO c hc) (hy.mono hext hsub caps) ((heq y).trans hx)

theorem iter2_ok (hE : EnvOK P E) (hP : P.follows .mixedOrders = true) {f : FuncId} {fn : Func} (hf : P.funcs[f]? = some fn) (hn : (fn.name == "runtime.NumGoroutine") = false) {a b : Ty} {caps : List Ty} {g : denL caps → Option (List (a.den × b.den))}
    {O : List (Ev (List (denL [a, b])))} (hO : ∀ c, fn.body = some c → OsOK P (hdlL [a, b]) false c O) (heq : ∀ y, iterR E fn [a, b] caps O y = g y) (hb : fn.body.isSome = true) : IConOK P f ⟨caps, .seq2 a b, g⟩ := by
  obtain ⟨c, hc⟩ := Option.isSome_iff_exists.1 hb
  refine ⟨rfl, fun w ok cs y xs hy hx => ?_⟩
  dsimp only at hy hx
  refine ⟨f, cs.toArray, rfl, ⟨fn, hf, hn, by rw [hc]; rfl⟩, fun w' ok' hext hsub => ?_⟩
  refine iter_seq hE hP (tys := [a, b]) (by simp) (fun W o vas x hx => ?_) hf hc (hO c hc) (hy.mono hext hsub caps) ((heq y).trans hx)
  obtain ⟨us, r, h1, h2, us', h3, h4⟩ := hx
  exact ⟨us, us', by rw [h1, h3], h2, h4⟩

end Go.Abs

set_option linter.unusedSimpArgs false
set_option linter.unusedVariables false
namespace Go.Abs
open Go
variable {P : Program} {w : World}

def partOK (P : Program) (T : Nat) (t : Ty) : Bool :=
  bif t.isPair then (match P.underlying T with
    | some (.struct _) => true
    | some (.array _ _) => true
    | _ => false) && (match P.info? T with
    | some i => Nat.beq i.size t.sz
    | none => false)
  else P.plainKey T && !t.isUnit

theorem chunk_take {l : List Value} {off a b : Nat} : (chunk l off (a + b)).take a = chunk l off a := by
  unfold chunk
  rw [List.take_take, Nat.min_eq_left (by omega)]
theorem chunk_drop {l : List Value} {off a b : Nat} : (chunk l off (a + b)).drop a = chunk l (off + a) b := by
  unfold chunk
  rw [List.drop_take, List.drop_drop, show a + b - a = b by omega]

theorem part_run {T : Nat} {t : Ty} (h : partOK P T t = true) {ok : Nat → Prop} {xs : Array Value} {off : Nat} {d : t.den} (hr : Rep P t w ok (chunk xs.toList off t.sz) d) :
    (Go.part T xs off).run P w = .ok (t.val (chunk xs.toList off t.sz)) w := by
  unfold partOK at h
  cases hp : t.isPair
  · rw [hp] at h
    simp only [cond_false, Bool.and_eq_true, Bool.not_eq_true'] at h
    have hu : t ≠ .unit := fun e => by rw [e] at h; cases h.2
    have hl := hr.len
    have h1 := sz_one hp hu
    rw [h1] at hl ⊢
    match hc : chunk xs.toList off 1, hl with
    | [v], _ =>
      have hg : (chunk xs.toList off 1)[0]? = some v := by rw [hc]; rfl
      obtain ⟨_, hx⟩ := chunk_get hg
      rw [Nat.add_zero, Array.getElem?_toList] at hx
      have : t.val [v] = v := by unfold Ty.val; rw [hp]; rfl
      rw [this]
      exact run_part_plain w h.1 hx
  · rw [hp] at h
    simp only [cond_true, Bool.and_eq_true] at h
    obtain ⟨h1, h2⟩ := h
    cases hi : P.info? T with
    | none => rw [hi] at h2; cases h2
    | some i =>
      rw [hi] at h2
      have hs := nbeq_true h2
      have hsz : (sizeOf T).run P w = .ok t.sz w := by simp [sizeOf, typeInfo, hi, hs]
      have hagg : (isAgg T).run P w = .ok true w := by
        unfold isAgg
        split at h1
        · rename_i fs hu
          rw [Sem.run_bind, run_underlying hu]; rfl
        · rename_i n e hu
          rw [Sem.run_bind, run_underlying hu]; rfl
        · cases h1
      have : t.val (chunk xs.toList off t.sz) = .agg (xs.extract off (off + t.sz)) := by
        unfold Ty.val
        rw [hp]
        simp only [if_true]
        congr 1
        apply Array.ext'
        rw [Array.toList_extract]
        simp [List.extract, chunk]
      rw [this]
      simp [Go.part, hagg, hsz]

/-- Two pieces of data of a type, compared. -/
def EqT (P : Program) (dd T : Nat) (t : Ty) : Prop :=
  ∀ (w : World) ok vs us x y, Rep P t w ok vs x → Rep P t w ok us y → (Op.equalIn dd T (t.val vs) (t.val us)).run P w = .ok (t.beq x y) w

/-- A key of a map is looked at. -/
def ChkT (P : Program) (dd T : Nat) (t : Ty) : Prop :=
  ∀ (w : World) ok vs x b, Rep P t w ok vs x → (Instr.checkKey b dd T (t.val vs)).run P w = .ok () w

def chkF (rec : Nat → Ty → Bool) (P : Program) : List Field → Nat → Ty → Bool
  | [f], off, t => f.name != "_" && Nat.beq f.offset off && partOK P f.type t && rec f.type t
  | f :: g :: r, off, .pair a b => f.name != "_" && Nat.beq f.offset off && partOK P f.type a && rec f.type a && chkF rec P (g :: r) (off + a.sz) b
  | _, _, _ => false

def chkEq (P : Program) : Nat → Nat → Ty → Bool
  | 0, _, _ => false
  | d + 1, T, t => match P.underlying T with
    | some (.int k) => decide (t = .int k)
    | some .bool => decide (t = .bool)
    | some .string => decide (t = .str)
    | some (.struct fs) => t.isPair && !P.stoodInHeld T && chkF (chkEq P d) P fs.toList 0 t
    | some (.array n T') => match t with
      | .pair e _ => decide (t = Ty.arr e n) && partOK P T' e && chkEq P d T' e && (match P.info? T' with
        | some i => Nat.beq i.size e.sz
        | none => false)
      | _ => false
    | _ => false

theorem beq_bytes (x y : List UInt8) : ((⟨⟨x⟩⟩ : ByteArray) == ⟨⟨y⟩⟩) = (x == y) := by
  rw [beq_toListBytes, ByteArray.toList_eq, ByteArray.toList_eq]

section
variable {dd : Nat}

theorem eqFields_run {rec : Nat → Ty → Bool} (hrec : ∀ T t, rec T t = true → EqT P dd T t) (w : World) {ok : Nat → Prop} {xs ys : Array Value} : ∀ (fs : List Field) (off : Nat) (t : Ty) {x y : t.den}, chkF rec P fs off t = true →
    Rep P t w ok (chunk xs.toList off t.sz) x → Rep P t w ok (chunk ys.toList off t.sz) y → (Op.eqFields dd xs ys fs).run P w = .ok (t.beq x y) w
  | [], _, _, _, _, h, _, _ => by simp [chkF] at h
  | [f], off, t, x, y, h, hx, hy => by
    simp only [chkF, Bool.and_eq_true, bne_iff_ne, ne_eq] at h
    obtain ⟨⟨⟨hn, ho⟩, hp⟩, hr⟩ := h
    have ho := nbeq_true ho
    rw [← ho] at hx hy
    simp only [Op.eqFields, hn, ne_eq, not_false_eq_true, if_true, Sem.run_bind, part_run hp hx, part_run hp hy, Result.andThen_ok, hrec _ _ hr w ok _ _ x y hx hy]
    cases t.beq x y <;> simp
  | f :: g :: r, off, .pair a b, (x, x'), (y, y'), h, hx, hy => by
    simp only [chkF, Bool.and_eq_true, bne_iff_ne, ne_eq] at h
    obtain ⟨⟨⟨⟨hn, ho⟩, hp⟩, hr⟩, hrest⟩ := h
    have ho := nbeq_true ho
    obtain ⟨hx1, hx2⟩ := hx
    obtain ⟨hy1, hy2⟩ := hy
    simp only [Ty.sz] at hx1 hx2 hy1 hy2
    rw [chunk_take] at hx1 hy1
    rw [chunk_drop] at hx2 hy2
    rw [← ho] at hx1 hy1
    have ih := eqFields_run hrec w (g :: r) (off + a.sz) b hrest hx2 hy2
    rw [Op.eqFields]
    simp only [hn, ne_eq, not_false_eq_true, if_true, Sem.run_bind, part_run hp hx1, part_run hp hy1, Result.andThen_ok, hrec _ _ hr w ok _ _ x y hx1 hy1, Ty.beq]
    cases a.beq x y
    · simp
    · simpa using ih
  | _ :: _ :: _, _, .int _, _, _, h, _, _ => by simp [chkF] at h
  | _ :: _ :: _, _, .bool, _, _, h, _, _ => by simp [chkF] at h
  | _ :: _ :: _, _, .str, _, _, h, _, _ => by simp [chkF] at h
  | _ :: _ :: _, _, .unit, _, _, h, _, _ => by simp [chkF] at h
  | _ :: _ :: _, _, .slice _, _, _, h, _, _ => by simp [chkF] at h
  | _ :: _ :: _, _, .fn1 _ _, _, _, h, _, _ => by simp [chkF] at h
  | _ :: _ :: _, _, .fn2 _ _ _, _, _, h, _, _ => by simp [chkF] at h
  | _ :: _ :: _, _, .seq _, _, _, h, _, _ => by simp [chkF] at h
  | _ :: _ :: _, _, .seq2 _ _, _, _, h, _, _ => by simp [chkF] at h
  | _ :: _ :: _, _, .map _ _, _, _, h, _, _ => by simp [chkF] at h

theorem chkFields_run {rec : Nat → Ty → Bool} (hrec : ∀ T t, rec T t = true → ChkT P dd T t) (em : Bool) (w : World) {ok : Nat → Prop} {xs : Array Value} : ∀ (fs : List Field) (off : Nat) (t : Ty) {x : t.den}, chkF rec P fs off t = true →
    Rep P t w ok (chunk xs.toList off t.sz) x → (forIn (m := Sem) fs PUnit.unit fun f _ => if f.name ≠ "_" then (do Instr.checkKey em dd f.type (← Go.part f.type xs f.offset); pure (ForInStep.yield PUnit.unit)) else pure (ForInStep.yield PUnit.unit)).run P w = .ok PUnit.unit w
  | [], _, _, _, h, _ => by simp [chkF] at h
  | [f], off, t, x, h, hx => by
    simp only [chkF, Bool.and_eq_true, bne_iff_ne, ne_eq] at h
    obtain ⟨⟨⟨hn, ho⟩, hp⟩, hr⟩ := h
    have ho := nbeq_true ho
    rw [← ho] at hx
    simp only [List.forIn_cons, hn, ne_eq, not_false_eq_true, if_true, Sem.run_bind, part_run hp hx, Result.andThen_ok, hrec _ _ hr w ok _ x em hx, Sem.run_pure, List.forIn_nil]
  | f :: g :: r, off, .pair a b, (x, x'), h, hx => by
    simp only [chkF, Bool.and_eq_true, bne_iff_ne, ne_eq] at h
    obtain ⟨⟨⟨⟨hn, ho⟩, hp⟩, hr⟩, hrest⟩ := h
    have ho := nbeq_true ho
    obtain ⟨hx1, hx2⟩ := hx
    simp only [Ty.sz] at hx1 hx2
    rw [chunk_take] at hx1
    rw [chunk_drop] at hx2
    rw [← ho] at hx1
    have ih := chkFields_run hrec em w (g :: r) (off + a.sz) b hrest hx2
    rw [List.forIn_cons]
    simp only [hn, ne_eq, not_false_eq_true, if_true, Sem.run_bind, part_run hp hx1, Result.andThen_ok, hrec _ _ hr w ok _ x em hx1, Sem.run_pure]
    exact ih
  | _ :: _ :: _, _, .int _, _, h, _ => by simp [chkF] at h
  | _ :: _ :: _, _, .bool, _, h, _ => by simp [chkF] at h
  | _ :: _ :: _, _, .str, _, h, _ => by simp [chkF] at h
  | _ :: _ :: _, _, .unit, _, h, _ => by simp [chkF] at h
  | _ :: _ :: _, _, .slice _, _, h, _ => by simp [chkF] at h
  | _ :: _ :: _, _, .fn1 _ _, _, h, _ => by simp [chkF] at h
  | _ :: _ :: _, _, .fn2 _ _ _, _, h, _ => by simp [chkF] at h
  | _ :: _ :: _, _, .seq _, _, h, _ => by simp [chkF] at h
  | _ :: _ :: _, _, .seq2 _ _, _, h, _ => by simp [chkF] at h
  | _ :: _ :: _, _, .map _ _, _, h, _ => by simp [chkF] at h

theorem arr_sz (e : Ty) : ∀ n, (Ty.arr e n).sz = n * e.sz
  | 0 => by simp [Ty.arr, Ty.sz]
  | 1 => by simp [Ty.arr]
  | n + 2 => by
    simp only [Ty.arr, Ty.sz, arr_sz e (n + 1)]
    rw [Nat.succ_mul (n + 1)]; omega

theorem eqItems_run {T' : Nat} {e : Ty} (hp : partOK P T' e = true) (hr : EqT P dd T' e) (w : World) {ok : Nat → Prop} {xs ys : Array Value} : ∀ (k i : Nat) {x y : (Ty.arr e (k + 1)).den},
    Rep P (Ty.arr e (k + 1)) w ok (chunk xs.toList (i * e.sz) (Ty.arr e (k + 1)).sz) x → Rep P (Ty.arr e (k + 1)) w ok (chunk ys.toList (i * e.sz) (Ty.arr e (k + 1)).sz) y →
    (Op.eqItems dd T' e.sz xs ys (List.range' i (k + 1))).run P w = .ok ((Ty.arr e (k + 1)).beq x y) w
  | 0, i, x, y, hx, hy => by
    have hx : Rep P e w ok (chunk xs.toList (i * e.sz) e.sz) x := hx
    have hy : Rep P e w ok (chunk ys.toList (i * e.sz) e.sz) y := hy
    simp only [List.range'_succ, List.range'_zero, Op.eqItems, Sem.run_bind, part_run hp hx, part_run hp hy, Result.andThen_ok, hr w ok _ _ x y hx hy]
    show _ = Result.ok (e.beq x y) w
    cases e.beq x y <;> simp
  | k + 1, i, (x, x'), (y, y'), hx, hy => by
    obtain ⟨hx1, hx2⟩ := hx
    obtain ⟨hy1, hy2⟩ := hy
    simp only [Ty.arr, Ty.sz] at hx1 hx2 hy1 hy2
    rw [chunk_take] at hx1 hy1
    rw [chunk_drop] at hx2 hy2
    rw [← Nat.succ_mul] at hx2 hy2
    have ih := eqItems_run hp hr w k (i + 1) hx2 hy2
    rw [List.range'_succ, Op.eqItems]
    simp only [Sem.run_bind, part_run hp hx1, part_run hp hy1, Result.andThen_ok, hr w ok _ _ x y hx1 hy1]
    show _ = Result.ok (e.beq x y && (Ty.arr e (k + 1)).beq x' y') w
    cases e.beq x y
    · simp
    · simpa using ih

theorem chkItems_run {T' : Nat} {e : Ty} (hp : partOK P T' e = true) (hr : ChkT P dd T' e) (hs : ∀ w : World, (sizeOf T').run P w = .ok e.sz w) (em : Bool) (w : World) {ok : Nat → Prop} {xs : Array Value} : ∀ (k i : Nat) {x : (Ty.arr e (k + 1)).den},
    Rep P (Ty.arr e (k + 1)) w ok (chunk xs.toList (i * e.sz) (Ty.arr e (k + 1)).sz) x →
    (forIn (m := Sem) (List.range' i (k + 1)) PUnit.unit fun i _ => do Instr.checkKey em dd T' (← Go.part T' xs (i * (← sizeOf T'))); pure (ForInStep.yield PUnit.unit)).run P w = .ok PUnit.unit w
  | 0, i, x, hx => by
    have hx : Rep P e w ok (chunk xs.toList (i * e.sz) e.sz) x := hx
    simp only [List.range'_succ, List.range'_zero, List.forIn_cons, Sem.run_bind, hs, part_run hp hx, Result.andThen_ok, hr w ok _ x em hx, Sem.run_pure, List.forIn_nil]
  | k + 1, i, (x, x'), hx => by
    obtain ⟨hx1, hx2⟩ := hx
    simp only [Ty.arr, Ty.sz] at hx1 hx2
    rw [chunk_take] at hx1
    rw [chunk_drop] at hx2
    rw [← Nat.succ_mul] at hx2
    have ih := chkItems_run hp hr hs em w k (i + 1) hx2
    rw [List.range'_succ, List.forIn_cons]
    simp only [Sem.run_bind, hs, part_run hp hx1, Result.andThen_ok, hr w ok _ x em hx1, Sem.run_pure]
    exact ih
end

theorem chunk_all (vs : Array Value) (t : Ty) {ok : Nat → Prop} {x : t.den} (h : Rep P t w ok vs.toList x) : chunk vs.toList 0 t.sz = vs.toList := by
  unfold chunk
  rw [List.drop_zero, List.take_of_length_le]
  have := h.len
  omega

theorem pair_val {t : Ty} (hp : t.isPair = true) (vs : List Value) : t.val vs = .agg vs.toArray := by
  unfold Ty.val; rw [hp]; rfl

theorem arr_ne {a b e : Ty} {n : Nat} (h : Ty.pair a b = Ty.arr e n) (hn : e.sz ≠ 0 ∨ True) : 1 ≤ n := by
  cases n with
  | zero => cases h
  | succ n => omega

theorem chkEq_ok : ∀ (d : Nat) (T : Nat) (t : Ty), chkEq P d T t = true → ∀ m, EqT P (m + d) T t ∧ ChkT P (m + d) T t
  | 0, _, _, h, _ => by simp [chkEq] at h
  | d + 1, T, t, h, m => by
    unfold chkEq at h
    split at h
    · rename_i k hu
      have ht := of_decide_eq_true h
      subst ht
      refine ⟨fun w ok vs us x y hx hy => ?_, fun w ok vs x b hx => ?_⟩
      · simp only [Rep] at hx hy
        subst hx
        subst hy
        show (Op.equalIn (m + d + 1) T (.int k x) (.int k y)).run P w = .ok (x == y) w
        simp [Op.equalIn, run_underlying hu]
      · simp only [Rep] at hx
        subst hx
        show (Instr.checkKey b (m + d + 1) T (.int k x)).run P w = _
        simp only [Instr.checkKey, Sem.run_bind, run_underlying hu, Result.andThen_ok]
        rfl
    · rename_i hu
      have ht := of_decide_eq_true h
      subst ht
      refine ⟨fun w ok vs us x y hx hy => ?_, fun w ok vs x b hx => ?_⟩
      · simp only [Rep] at hx hy
        subst hx
        subst hy
        show (Op.equalIn (m + d + 1) T (.bool x) (.bool y)).run P w = .ok (x == y) w
        simp [Op.equalIn, run_underlying hu]
      · simp only [Rep] at hx
        subst hx
        show (Instr.checkKey b (m + d + 1) T (.bool x)).run P w = _
        simp only [Instr.checkKey, Sem.run_bind, run_underlying hu, Result.andThen_ok]
        rfl
    · rename_i hu
      have ht := of_decide_eq_true h
      subst ht
      refine ⟨fun w ok vs us x y hx hy => ?_, fun w ok vs x b hx => ?_⟩
      · simp only [Rep] at hx hy
        subst hx
        subst hy
        show (Op.equalIn (m + d + 1) T (.string ⟨⟨x⟩⟩) (.string ⟨⟨y⟩⟩)).run P w = .ok (x == y) w
        simp only [Op.equalIn, Sem.run_bind, run_underlying hu, Result.andThen_ok, beq_bytes, Sem.run_pure]
      · simp only [Rep] at hx
        subst hx
        show (Instr.checkKey b (m + d + 1) T (.string ⟨⟨x⟩⟩)).run P w = _
        simp only [Instr.checkKey, Sem.run_bind, run_underlying hu, Result.andThen_ok]
        rfl
    · rename_i fs hu
      simp only [Bool.and_eq_true, Bool.not_eq_true'] at h
      obtain ⟨⟨hp, hst⟩, hF⟩ := h
      have hfs : P.fieldsOf T = fs := by simp [Program.fieldsOf, hu]
      refine ⟨fun w ok vs us x y hx hy => ?_, fun w ok vs x b hx => ?_⟩
      · rw [pair_val hp, pair_val hp, show m + (d + 1) = (m + d) + 1 from rfl, run_equalIn_struct w (m + d) T _ _ (by rw [hfs]; exact hu) hst, hfs]
        refine eqFields_run (ok := ok) (fun T t ht => (chkEq_ok d T t ht m).1) w fs.toList 0 t hF ?_ ?_
        · rw [chunk_all (ok := ok) (x := x) vs.toArray t hx]; exact hx
        · rw [chunk_all (ok := ok) (x := y) us.toArray t hy]; exact hy
      · rw [pair_val hp, show m + (d + 1) = (m + d) + 1 from rfl, Instr.checkKey]
        simp only [Sem.run_bind, run_underlying hu, Result.andThen_ok]
        rw [← Array.forIn_toList]
        have := chkFields_run (ok := ok) (dd := m + d) (xs := vs.toArray) (fun T t ht => (chkEq_ok d T t ht m).2) b w fs.toList 0 t hF (by rw [chunk_all (ok := ok) (x := x) vs.toArray t hx]; exact hx)
        rw [this]
        rfl
    · rename_i n T' hu
      split at h
      · rename_i e r
        simp only [Bool.and_eq_true] at h
        obtain ⟨⟨⟨ht, hpt⟩, hrec⟩, hsz⟩ := h
        have ht := of_decide_eq_true ht
        have hn : 1 ≤ n := arr_ne ht (.inr trivial)
        obtain ⟨k, rfl⟩ : ∃ k, n = k + 1 := ⟨n - 1, by omega⟩
        cases hi : P.info? T' with
        | none => rw [hi] at hsz; cases hsz
        | some i =>
          rw [hi] at hsz
          have hsi := nbeq_true hsz
          have hc : P.cellsOf T' = e.sz := by simp [Program.cellsOf, hi, hsi]
          obtain ⟨ih1, ih2⟩ := chkEq_ok d T' e hrec m
          refine ⟨fun w ok vs us x y hx hy => ?_, fun w ok vs x b hx => ?_⟩
          · rw [pair_val rfl, pair_val rfl, show m + (d + 1) = (m + d) + 1 from rfl, run_equalIn_array w (m + d) _ _ hu hi, hc, List.range_eq_range']
            revert x y
            rw [ht]
            intro x y hx hy
            refine eqItems_run (ok := ok) hpt ih1 w k 0 ?_ ?_
            · rw [Nat.zero_mul, chunk_all (ok := ok) (x := x) vs.toArray _ hx]; exact hx
            · rw [Nat.zero_mul, chunk_all (ok := ok) (x := y) us.toArray _ hy]; exact hy
          · rw [pair_val rfl, show m + (d + 1) = (m + d) + 1 from rfl, Instr.checkKey]
            simp only [Sem.run_bind, run_underlying hu, Result.andThen_ok]
            simp only [Std.Legacy.Range.forIn_eq_forIn_range', Std.Legacy.Range.size, Nat.sub_zero, Nat.add_one_sub_one, Nat.div_one]
            revert x
            rw [ht]
            intro x hx
            have := chkItems_run (ok := ok) (dd := m + d) (xs := vs.toArray) hpt ih2 (fun w => by simp [sizeOf, typeInfo, hi, hsi]) b w k 0 (by rw [Nat.zero_mul, chunk_all (ok := ok) (x := x) vs.toArray _ hx]; exact hx)
            rw [this]
            rfl
      · cases h
    · cases h

theorem chkEq_eqs : ∀ (d : Nat) (T : Nat) (t : Ty), chkEq P d T t = true → t.eqs = true
  | 0, _, _, h => by simp [chkEq] at h
  | d + 1, T, t, h => by
    have arr : ∀ (e : Ty) (n : Nat), e.eqs = true → (Ty.arr e (n + 1)).eqs = true := by
      intro e n he
      induction n with
      | zero => exact he
      | succ n ih => simp only [Ty.arr, Ty.eqs, he, ih, Bool.and_self]
    have fld : ∀ (fs : List Field) (off : Nat) (t : Ty), chkF (chkEq P d) P fs off t = true → t.eqs = true := by
      intro fs
      induction fs with
      | nil => intro off t h; simp [chkF] at h
      | cons f fs ih =>
        intro off t h
        cases fs with
        | nil =>
          simp only [chkF, Bool.and_eq_true] at h
          exact chkEq_eqs d f.type t h.2
        | cons g r =>
          cases t <;> simp only [chkF, Bool.and_eq_true, Bool.false_eq_true] at h <;> try (exact h.elim)
          rename_i a b
          simp only [Ty.eqs, Bool.and_eq_true]
          exact ⟨chkEq_eqs d f.type a h.1.2, ih _ b h.2⟩
    unfold chkEq at h
    split at h
    · rw [of_decide_eq_true h]; rfl
    · rw [of_decide_eq_true h]; rfl
    · rw [of_decide_eq_true h]; rfl
    · simp only [Bool.and_eq_true] at h
      exact fld _ _ _ h.2
    · rename_i n T' hu
      split at h
      · rename_i e r
        simp only [Bool.and_eq_true] at h
        have ht := of_decide_eq_true h.1.1.1
        have hn := arr_ne ht (.inr trivial)
        obtain ⟨k, rfl⟩ : ∃ k, n = k + 1 := ⟨n - 1, by omega⟩
        rw [ht]
        exact arr e k (chkEq_eqs d T' e h.1.2)
      · cases h
    · cases h

theorem beq_symm : (t : Ty) → t.eqs = true → (x y : t.den) → t.beq x y = t.beq y x
  | .int _, _, x, y => (BEq.comm : ((x : Int) == y) = (y == x))
  | .bool, _, x, y => (BEq.comm : ((x : Bool) == y) = (y == x))
  | .str, _, x, y => (BEq.comm : ((x : List UInt8) == y) = (y == x))
  | .pair a b, h, (x, x'), (y, y') => by
    simp only [Ty.eqs, Bool.and_eq_true] at h
    simp only [Ty.beq, beq_symm a h.1 x y, beq_symm b h.2 x' y']
  | .unit, h, _, _ => by cases h
  | .slice _, h, _, _ => by cases h
  | .fn1 _ _, h, _, _ => by cases h
  | .fn2 _ _ _, h, _, _ => by cases h
  | .seq _, h, _, _ => by cases h
  | .seq2 _ _, h, _, _ => by cases h
  | .map _ _, h, _, _ => by cases h

theorem findAsking_run {K : Nat} {k : Ty} (he : EqT P 10000 K k) (hq : k.eqs = true) (w : World) {ok : Nat → Prop} {ks : List Value} {x : k.den} (hx : Rep P k w ok ks x) : ∀ (ys : List k.den) (es : List MapEntry) (j : Nat), es.length = ys.length →
    (∀ (i : Nat) y e, ys[i]? = some y → es[i]? = some e → ∃ us, e.key = k.val us ∧ Rep P k w ok us y) → (Instr.findAsking K (k.val ks) es j).run P w = .ok (findR k x ys es j) w
  | [], [], j, _, _ => by simp [Instr.findAsking, findR]
  | [], _ :: _, _, h, _ => by simp at h
  | _ :: _, [], _, h, _ => by simp at h
  | y :: ys, e :: es, j, h, hr => by
    obtain ⟨us, h1, h2⟩ := hr 0 y e rfl rfl
    have ih := findAsking_run he hq w hx ys es (j + 1) (by simpa using h) (fun i z f hz hf => hr (i + 1) z f (by simpa using hz) (by simpa using hf))
    have hb : (Op.equal K (k.val ks) e.key).run P w = .ok (k.beq y x) w := by
      rw [h1, beq_symm k hq]
      exact he w ok ks us x y hx h2
    simp only [Instr.findAsking, Sem.run_bind, hb, Result.andThen_ok, findR]
    cases k.beq y x
    · simpa using ih
    · simp

theorem keyOK_gen {K : Nat} {k : Ty} {d : Nat} (hd : d ≤ 10000) (h : chkEq P d K k = true) : KeyOK P K k := by
  obtain ⟨h1, h2⟩ := chkEq_ok d K k h (10000 - d)
  rw [show 10000 - d + d = 10000 by omega] at h1 h2
  have hq := chkEq_eqs d K k h
  refine ⟨hq, h2' h2, fun w ok ks x ys es hx hl hr => ?_⟩
  have hask := findAsking_run h1 hq w hx ys es 0 hl hr
  have now : ∀ (D : TypeDesc) (ys : List k.den) (es : List MapEntry) (j : Nat) r, es.length = ys.length → (∀ (i : Nat) y e, ys[i]? = some y → es[i]? = some e → ∃ us, e.key = k.val us ∧ Rep P k w ok us y) →
      Instr.findNow D (k.val ks) es j = some r → r = findR k x ys es j := by
    intro D ys
    induction ys with
    | nil =>
      intro es j r hl _ hf
      match es, hl with
      | [], _ => simp [Instr.findNow] at hf; simp [findR, hf]
    | cons y ys ih =>
      intro es j r hl hr hf
      match es, hl with
      | e :: es, hl =>
        obtain ⟨us, g1, g2⟩ := hr 0 y e rfl rfl
        have hs : ∀ b, Instr.sameNow D (k.val ks) e.key = some b → b = k.beq y x := by
          intro b hb
          rw [g1] at hb
          cases k <;> try (cases hq; done)
          · simp only [Rep] at hx g2
            subst hx
            subst g2
            simp only [Ty.val, Ty.isPair, Bool.false_eq_true, if_false, List.headD_cons] at hb
            unfold Instr.sameNow at hb
            split at hb
            · rename_i q k1 a k2 b' e1 e2
              cases e1
              cases e2
              simp at hb
              rw [← hb]
              exact BEq.comm
            · rename_i e1 _; cases e1
            · rename_i e1 _; cases e1
            · cases hb
          · simp only [Rep] at hx g2
            subst hx
            subst g2
            simp only [Ty.val, Ty.isPair, Bool.false_eq_true, if_false, List.headD_cons] at hb
            unfold Instr.sameNow at hb
            split at hb
            · rename_i e1 _; cases e1
            · rename_i e1 _; cases e1
            · rename_i e1 e2
              cases e1
              cases e2
              simp at hb
              rw [← hb]
              exact BEq.comm
            · cases hb
          · simp only [Rep] at hx g2
            subst hx
            subst g2
            simp only [Ty.val, Ty.isPair, Bool.false_eq_true, if_false, List.headD_cons] at hb
            unfold Instr.sameNow at hb
            split at hb
            · rename_i e1 _; cases e1
            · rename_i e1 e2
              cases e1
              cases e2
              simp only [Option.some.injEq] at hb
              rw [← hb, beq_bytes]
              exact BEq.comm
            · rename_i e1 _; cases e1
            · cases hb
          · rw [pair_val rfl, pair_val rfl] at hb
            unfold Instr.sameNow at hb
            split at hb
            · rename_i e1 _; cases e1
            · rename_i e1 _; cases e1
            · rename_i e1 _; cases e1
            · cases hb
        unfold Instr.findNow at hf
        cases hb : Instr.sameNow D (k.val ks) e.key with
        | none => rw [hb] at hf; cases hf
        | some b =>
          rw [hb] at hf
          have hbb := hs b hb
          unfold findR
          rw [← hbb]
          cases b
          · exact ih es (j + 1) r (by simpa using hl) (fun i z f hz hf => hr (i + 1) z f (by simpa using hz) (by simpa using hf)) hf
          · cases hf; rfl
  cases hu : P.underlying K with
  | none =>
    have : chkEq P d K k = false := by
      cases d with
      | zero => rfl
      | succ d => simp [chkEq, hu]
    rw [this] at h
    cases h
  | some D =>
    simp only [Instr.findKey, Sem.run_bind, run_underlying hu, Result.andThen_ok]
    cases hf : Instr.findNow D (k.val ks) es 0 with
    | none => exact hask
    | some r =>
      rw [now D ys es 0 r hl hr hf]
      rfl
where
  h2' {K : Nat} {k : Ty} (h : ChkT P 10000 K k) (w : World) (ok : Nat → Prop) (ks : List Value) (x : k.den) (b : Bool) (hr : Rep P k w ok ks x) : (Instr.checkKey b 10000 K (k.val ks)).run P w = .ok () w := h w ok ks x b hr

theorem beqTy_eqs : (t : Ty) → {x y : t.den} → {r : Bool} → beqTy t x y = some r → r = t.beq x y
  | .int _, _, _, _, h => by cases h; rfl
  | .bool, _, _, _, h => by cases h; rfl
  | .str, _, _, _, h => by cases h; rfl
  | .pair a b, (x, x'), (y, y'), r, h => by
    simp only [beqTy] at h
    cases h1 : beqTy a x y with
    | none => rw [h1] at h; cases h
    | some p =>
      cases h2 : beqTy b x' y' with
      | none => rw [h1, h2] at h; cases h
      | some q =>
        rw [h1, h2] at h
        cases h
        rw [beqTy_eqs a h1, beqTy_eqs b h2]
        rfl
  | .unit, _, _, _, h => by cases h
  | .slice _, _, _, _, h => by cases h
  | .fn1 _ _, _, _, _, h => by cases h
  | .fn2 _ _ _, _, _, _, h => by cases h
  | .seq _, _, _, _, h => by cases h
  | .seq2 _ _, _, _, _, h => by cases h
  | .map _ _, _, _, _, h => by cases h

/-- What is asked of a type that is compared. -/
def EqOK (P : Program) (T : Nat) (t : Ty) : Prop :=
  ∀ w ok vs vs' d d' r, Rep P t w ok vs d → Rep P t w ok vs' d' → beqTy t d d' = some r → ∀ (x y : Operand),
    (do eqGuard .eql T x y (t.val vs) (t.val vs'); Go.binOp .eql T (t.val vs) (t.val vs')).run P w = .ok (.bool r) w ∧
    (do eqGuard .neq T x y (t.val vs) (t.val vs'); Go.binOp .neq T (t.val vs) (t.val vs')).run P w = .ok (.bool (!r)) w

theorem eqOK_gen {T : Nat} {t : Ty} {d : Nat} (hd : d ≤ 10000) (h : chkEq P d T t = true) (hp : t.isPair = true) (hg : P.eqGuardType P.depth T = false) : EqOK P T t := by
  obtain ⟨h1, _⟩ := chkEq_ok d T t h (10000 - d)
  rw [show 10000 - d + d = 10000 by omega] at h1
  intro w ok vs vs' x y r hv hv' hr a b
  have hr := beqTy_eqs t hr
  have run := h1 w ok vs vs' x y hv hv'
  rw [pair_val hp, pair_val hp] at run ⊢
  constructor
  · rw [Sem.run_bind, run_eqGuard_agg w .eql T a b _ _ hg, Result.andThen_ok, run_eql_struct, run, hr]; rfl
  · rw [Sem.run_bind, run_eqGuard_agg w .neq T a b _ _ hg, Result.andThen_ok, run_neq_struct, run, hr]; rfl

end Go.Abs

set_option linter.unusedSimpArgs false
set_option linter.unusedVariables false
namespace Go.Abs
open Go
variable {P : Program}

def veq1 : Value → Value → Bool
  | .bool a, .bool b => a == b
  | .int k n, .int j m => decide (k = j) && decide (n = m)
  | .string a, .string b => decide (a.data.toList = b.data.toList)
  | .slice none a b, .slice none c d => Nat.beq a c && Nat.beq b d
  | .nilFunc, .nilFunc => true
  | .map none, .map none => true
  | _, _ => false

theorem veq1_eq {a b : Value} (h : veq1 a b = true) : a = b := by
  unfold veq1 at h
  split at h
  · have := eq_of_beq h; rw [this]
  · simp only [Bool.and_eq_true, decide_eq_true_eq] at h; rw [h.1, h.2]
  · rename_i a b
    have : a.data.toList = b.data.toList := of_decide_eq_true h
    obtain ⟨⟨a⟩⟩ := a
    obtain ⟨⟨b⟩⟩ := b
    simp at this
    rw [this]
  · simp only [Bool.and_eq_true] at h
    rw [nbeq_true h.1, nbeq_true h.2]
  · rfl
  · rfl
  · cases h

def veqL : List Value → List Value → Bool
  | [], [] => true
  | a :: l, b :: m => veq1 a b && veqL l m
  | _, _ => false

theorem veqL_eq : {l m : List Value} → veqL l m = true → l = m
  | [], [], _ => rfl
  | a :: l, b :: m, h => by
    simp only [veqL, Bool.and_eq_true] at h
    rw [veq1_eq h.1, veqL_eq h.2]
  | [], _ :: _, h => by cases h
  | _ :: _, [], h => by cases h

def veq : Value → Value → Bool
  | .agg a, .agg b => veqL a.toList b.toList
  | a, b => veq1 a b

theorem veq_eq {a b : Value} (h : veq a b = true) : a = b := by
  unfold veq at h
  split at h
  · rename_i a b
    have := veqL_eq h
    rw [show a = b from Array.toList_inj.1 this]
  · exact veq1_eq h

def chkEl (P : Program) (T : Nat) (t : Ty) : Bool :=
  match P.info? T with
  | some i => Nat.beq i.size t.sz && Nat.ble i.bytes 32768 && (match i.zero with | some z => veq z (t.val (zeroVals t)) | none => false) && Nat.blt 0 t.sz
  | none => false

theorem chkEl_ok {T : Nat} {t : Ty} (h : chkEl P T t = true) : ElOK P T t := by
  unfold chkEl at h
  split at h
  · rename_i i hi
    simp only [Bool.and_eq_true] at h
    obtain ⟨⟨⟨h1, h2⟩, h3⟩, h4⟩ := h
    refine ⟨i, hi, nbeq_true h1, Nat.le_of_ble_eq_true h2, ?_, Nat.le_of_ble_eq_true h4⟩
    split at h3
    · rename_i z hz
      rw [hz, veq_eq h3]
    · cases h3
  · cases h

def chkFields (P : Program) (te : TyE) : Nat → List Field → Bool
  | _, [] => true
  | i, f :: r => (match offOf te.nf i te.ty with | some o => Nat.beq o f.offset | none => false) && (match P.info? f.type with | some inf => !Nat.beq inf.size 0 | none => false) && chkFields P te (i + 1) r

theorem chkFields_ok {te : TyE} : (l : List Field) → (i : Nat) → chkFields P te i l = true → ∀ k f, l[k]? = some f → offOf te.nf (i + k) te.ty = some f.offset ∧ ∃ inf, P.info? f.type = some inf ∧ inf.size ≠ 0
  | [], i, h, k, f, hf => by simp at hf
  | g :: r, i, h, k, f, hf => by
    simp only [chkFields, Bool.and_eq_true] at h
    cases k with
    | zero =>
      simp only [List.getElem?_cons_zero, Option.some.injEq] at hf
      subst hf
      obtain ⟨⟨h1, h2⟩, _⟩ := h
      refine ⟨?_, ?_⟩
      · split at h1
        · rename_i o ho
          rw [Nat.add_zero, ho, nbeq_true h1]
        · cases h1
      · split at h2
        · rename_i inf hinf
          refine ⟨inf, hinf, fun e => ?_⟩
          rw [e] at h2
          cases h2
        · cases h2
    | succ k =>
      have := chkFields_ok r (i + 1) h.2 k f (by simpa using hf)
      rw [show i + 1 + k = i + (k + 1) from by omega] at this
      exact this

def chkPlaces (P : Program) : List Field → List (Nat × Nat) → Bool
  | [], [] => true
  | f :: r, (o, n) :: q => (match P.info? f.type with | some i => Nat.beq f.offset o && Nat.beq i.size n | none => false) && chkPlaces P r q
  | _, _ => false

theorem chkPlaces_ok : (l : List Field) → (q : List (Nat × Nat)) → chkPlaces P l q = true → l.mapM (fun f => (P.info? f.type).map fun i => (f.offset, i.size)) = some q
  | [], [], _ => rfl
  | f :: r, (o, n) :: q, h => by
    simp only [chkPlaces, Bool.and_eq_true] at h
    obtain ⟨h1, h2⟩ := h
    split at h1
    · rename_i i hi
      simp only [Bool.and_eq_true] at h1
      rw [List.mapM_cons, hi, chkPlaces_ok r q h2]
      have e1 := nbeq_true h1.1
      have e2 := nbeq_true h1.2
      subst e1
      subst e2
      rfl
    · cases h1
  | [], _ :: _, h => by cases h
  | _ :: _, [], h => by simp [chkPlaces] at h

def chkBytes (P : Program) (T : Nat) : Ty → Bool
  | .slice (.int .u8) => match P.underlying T with
    | some (.slice T') => match P.underlying T' with
      | some (.int .u8) => true
      | _ => false
    | _ => false
  | _ => true

theorem chkBytes_ok {T : Nat} {t : Ty} (h : chkBytes P T t = true) (ht : t = .slice (.int .u8)) : ∃ T', P.underlying T = some (.slice T') ∧ P.underlying T' = some (.int .u8) := by
  subst ht
  simp only [chkBytes] at h
  split at h
  · rename_i T' hT
    split at h
    · rename_i hu
      exact ⟨T', hT, hu⟩
    · cases h
  · cases h

def chkKey (P : Program) (K : Nat) (k : Ty) : Bool := chkEq P 40 K k

theorem chkKey_ok {K : Nat} {t : Ty} (h : chkKey P K t = true) : KeyOK P K t := keyOK_gen (by decide) h

def chkAgg (P : Program) (te : TyE) : Nat → List Field → Bool
  | _, [] => true
  | i, f :: r => (match typAt te.nf i te.ty, aggB P f.type, P.info? f.type with | some u, some b, some inf => (bif b then u.isPair else !u.isPair) && Nat.beq inf.size u.sz | _, _, _ => false) && chkAgg P te (i + 1) r

theorem chkAgg_ok {te : TyE} : (l : List Field) → (i : Nat) → chkAgg P te i l = true → ∀ k f u, l[k]? = some f → typAt te.nf (i + k) te.ty = some u → aggB P f.type = some u.isPair ∧ ∃ inf, P.info? f.type = some inf ∧ inf.size = u.sz
  | [], i, h, k, f, u, hf, hu => by simp at hf
  | g :: r, i, h, k, f, u, hf, hu => by
    simp only [chkAgg, Bool.and_eq_true] at h
    cases k with
    | zero =>
      simp only [List.getElem?_cons_zero, Option.some.injEq] at hf
      subst hf
      have h1 := h.1
      rw [Nat.add_zero] at hu
      rw [hu] at h1
      split at h1
      · rename_i u' b inf e1 e2 e3
        cases e1
        simp only [Bool.and_eq_true] at h1
        refine ⟨?_, inf, e3, nbeq_true h1.2⟩
        rw [e2]
        have h1 := h1.1
        cases b <;> simp at h1 <;> simp [h1]
      · cases h1
    | succ k =>
      exact chkAgg_ok r (i + 1) h.2 k f u (by simpa using hf) (by rw [show i + 1 + k = i + (k + 1) from by omega]; exact hu)

def chkAggs (P : Program) (T : Nat) (te : TyE) : Bool :=
  match P.underlying T with
  | some (.struct fs) => chkAgg P te 0 fs.toList
  | _ => true

theorem chkAggs_ok {T : Nat} {te : TyE} (h : chkAggs P T te = true) : ∀ fs, P.underlying T = some (.struct fs) → ∀ (i : Nat) (f : Field) (u : Ty), fs[i]? = some f → typAt te.nf i te.ty = some u → aggB P f.type = some u.isPair ∧ ∃ inf, P.info? f.type = some inf ∧ inf.size = u.sz := by
  intro fs hfs i f u hf hu
  unfold chkAggs at h
  rw [hfs] at h
  exact chkAgg_ok fs.toList 0 h i f u (by simpa using hf) (by rw [Nat.zero_add]; exact hu)

def chkTy (P : Program) (T : Nat) (te : TyE) : Bool :=
  chkEl P T te.ty && chkBytes P T te.ty && chkAggs P T te && (!te.arr || te.ty.isPair) && match P.underlying T, te.ty with
    | some (.int k), .int k' => decide (k = k')
    | some .bool, .bool => true
    | some .string, .str => true
    | some (.slice T'), .slice e => chkEl P T' e
    | some (.array n T'), .pair e _ => te.arr && decide (te.ty = Ty.arr e n) && Nat.beq te.nf n && chkEl P T' e
    | some (.struct fs), .pair _ _ => !te.arr && Nat.beq fs.size te.nf && chkFields P te 0 fs.toList && chkPlaces P fs.toList (placesOf te.nf te.ty)
    | some (.func _ _ _), .fn1 _ _ => true
    | some (.func _ _ _), .fn2 _ _ _ => true
    | some (.func _ _ _), .seq _ => true
    | some (.func _ _ _), .seq2 _ _ => true
    | some (.map K V), .map k v => chkKey P K k && chkEl P V v
    | _, _ => false

theorem chkTy_ok {T : Nat} {te : TyE} (h : chkTy P T te = true) : TyOK P T te := by
  unfold chkTy at h
  simp only [Bool.and_eq_true] at h
  obtain ⟨⟨⟨⟨h1, hby⟩, hag⟩, har⟩, h2⟩ := h
  have hag := chkAggs_ok hag
  have har : te.arr = true → te.ty.isPair = true := fun h => by rw [h] at har; simpa using har
  have hi := chkEl_ok h1
  have hby := chkBytes_ok hby
  have no : ∀ {d : TypeDesc}, P.underlying T = some d → (∀ fs, d ≠ .struct fs) → ∀ fs, P.underlying T = some (.struct fs) → (∀ i f, fs[i]? = some f → offOf te.nf i te.ty = some f.offset ∧ ∃ inf, P.info? f.type = some inf ∧ inf.size ≠ 0) ∧
      fs.toList.mapM (fun f => (P.info? f.type).map fun i => (f.offset, i.size)) = some (placesOf te.nf te.ty) := by
    intro d hd hn fs hfs
    rw [hd] at hfs
    cases hfs
    exact absurd rfl (hn fs)
  split at h2
  · rename_i k k' hu ht
    have hk : k = k' := of_decide_eq_true h2
    subst hk
    exact ⟨hi, by rw [ht]; exact hu, no hu (fun _ e => (by cases e)), har, hag, hby⟩
  · rename_i hu ht
    exact ⟨hi, by rw [ht]; exact hu, no hu (fun _ e => (by cases e)), har, hag, hby⟩
  · rename_i hu ht
    exact ⟨hi, by rw [ht]; exact hu, no hu (fun _ e => (by cases e)), har, hag, hby⟩
  · rename_i T' e hu ht
    exact ⟨hi, by rw [ht]; exact ⟨T', hu, chkEl_ok h2⟩, no hu (fun _ e => (by cases e)), har, hag, hby⟩
  · rename_i n T' e r hu ht
    simp only [Bool.and_eq_true] at h2
    obtain ⟨⟨⟨g0, g1⟩, g2⟩, g3⟩ := h2
    refine ⟨hi, ?_, no hu (fun _ e => (by cases e)), har, hag, hby⟩
    have g1 := of_decide_eq_true g1
    rw [ht]
    dsimp only
    rw [g0]
    exact ⟨n, T', e, hu, by rw [← g1, ht], nbeq_true g2, chkEl_ok g3⟩
  · rename_i fs a b hu ht
    simp only [Bool.and_eq_true, Bool.not_eq_true'] at h2
    obtain ⟨⟨⟨g0, g1⟩, g2⟩, g3⟩ := h2
    refine ⟨hi, by rw [ht]; dsimp only; rw [g0]; exact ⟨fs, hu, nbeq_true g1⟩, fun fs' hfs => ?_, har, hag, hby⟩
    rw [hu] at hfs
    cases hfs
    refine ⟨fun i f hf => ?_, chkPlaces_ok _ _ g3⟩
    have := chkFields_ok fs.toList 0 g2 i f (by simpa using hf)
    rwa [Nat.zero_add] at this
  · rename_i p q r a b hu ht
    exact ⟨hi, by rw [ht]; exact ⟨p, q, r, hu⟩, no hu (fun _ e => (by cases e)), har, hag, hby⟩
  · rename_i p q r a b c hu ht
    exact ⟨hi, by rw [ht]; exact ⟨p, q, r, hu⟩, no hu (fun _ e => (by cases e)), har, hag, hby⟩
  · rename_i p q r a hu ht
    exact ⟨hi, by rw [ht]; exact ⟨p, q, r, hu⟩, no hu (fun _ e => (by cases e)), har, hag, hby⟩
  · rename_i p q r a b hu ht
    exact ⟨hi, by rw [ht]; exact ⟨p, q, r, hu⟩, no hu (fun _ e => (by cases e)), har, hag, hby⟩
  · rename_i K V k v hu ht
    simp only [Bool.and_eq_true] at h2
    exact ⟨hi, by rw [ht]; exact ⟨K, V, hu, chkKey_ok h2.1, chkEl_ok h2.2⟩, no hu (fun _ e => (by cases e)), har, hag, hby⟩
  · cases h2

def chkG (P : Program) (G : List (Nat × TyE)) : Bool := G.all fun p => chkTy P p.1 p.2

theorem env_nil {G : List (Nat × TyE)} (h : chkG P G = true) : EnvOK P ⟨G, [], [], [], [], [], [], []⟩ where
  rt := (fun f h => (by cases h))
  fl := (fun f h => (by cases h))
  ty := fun T te hT => chkTy_ok (List.all_eq_true.1 h _ (Map.get_mem hT))
  con := (fun f c h => (by cases h))
  it := (fun f c h => (by cases h))
  mu := (fun f c h => (by cases h))
  eq := (fun f c h => (by cases h))

/-- Slots that hold slices of slices of the call's own. -/
theorem env_n {E : Env} (h : EnvOK P E) (l : List Nat) : EnvOK P ⟨E.G, E.C, E.Q, E.I, E.M, E.S, E.D, l⟩ where
  rt := h.rt
  fl := h.fl
  ty := h.ty
  con := h.con
  it := h.it
  mu := h.mu
  eq := h.eq

theorem env_add {G : List (Nat × TyE)} {C : List (Nat × Con)} {Q : List (Nat × Ty)} {I : List (Nat × ICon)} {M : List (Nat × MCon)} {S D : List Nat} (h : EnvOK P ⟨G, C, Q, I, M, S, D, []⟩) {f : Nat} {c : Con} (hc : ConOK P f c) : EnvOK P ⟨G, (f, c) :: C, Q, I, M, S, D, []⟩ where
  rt := h.rt
  fl := h.fl
  ty := h.ty
  con := fun g d hg => by
    simp only [Map.get, nbeq] at hg
    by_cases e : f = g
    · subst e
      simp at hg
      subst hg
      exact hc
    · simp [e] at hg
      exact h.con g d hg
  it := h.it
  mu := h.mu
  eq := h.eq

theorem env_it {G : List (Nat × TyE)} {C : List (Nat × Con)} {Q : List (Nat × Ty)} {I : List (Nat × ICon)} {M : List (Nat × MCon)} {S D : List Nat} (h : EnvOK P ⟨G, C, Q, I, M, S, D, []⟩) {f : Nat} {c : ICon} (hc : IConOK P f c) : EnvOK P ⟨G, C, Q, (f, c) :: I, M, S, D, []⟩ where
  rt := h.rt
  fl := h.fl
  ty := h.ty
  con := h.con
  it := fun g d hg => by
    simp only [Map.get, nbeq] at hg
    by_cases e : f = g
    · subst e
      simp at hg
      subst hg
      exact hc
    · simp [e] at hg
      exact h.it g d hg
  mu := h.mu
  eq := h.eq

theorem env_mu {G : List (Nat × TyE)} {C : List (Nat × Con)} {Q : List (Nat × Ty)} {I : List (Nat × ICon)} {M : List (Nat × MCon)} {S D : List Nat} (h : EnvOK P ⟨G, C, Q, I, M, S, D, []⟩) {f : Nat} {c : MCon} (hc : MConOK P f c) : EnvOK P ⟨G, C, Q, I, (f, c) :: M, S, D, []⟩ where
  rt := h.rt
  fl := h.fl
  ty := h.ty
  con := h.con
  it := h.it
  mu := fun g d hg => by
    simp only [Map.get, nbeq] at hg
    by_cases e : f = g
    · subst e
      simp at hg
      subst hg
      exact hc
    · simp [e] at hg
      exact h.mu g d hg
  eq := h.eq

theorem env_eq {G : List (Nat × TyE)} {C : List (Nat × Con)} {Q : List (Nat × Ty)} {I : List (Nat × ICon)} {M : List (Nat × MCon)} {S D : List Nat} (h : EnvOK P ⟨G, C, Q, I, M, S, D, []⟩) {T : Nat} {t : Ty} (hq : EqOK P T t) : EnvOK P ⟨G, C, (T, t) :: Q, I, M, S, D, []⟩ where
  rt := h.rt
  fl := h.fl
  ty := h.ty
  con := h.con
  it := h.it
  mu := h.mu
  eq := fun U u hu => by
    simp only [Map.get, nbeq] at hu
    by_cases e : T = U
    · subst e
      simp at hu
      subst hu
      exact hq
    · simp [e] at hu
      exact h.eq U u hu

theorem env_fl {G : List (Nat × TyE)} {C : List (Nat × Con)} {Q : List (Nat × Ty)} {I : List (Nat × ICon)} {M : List (Nat × MCon)} {S D : List Nat} (h : EnvOK P ⟨G, C, Q, I, M, S, D, []⟩) {f T : Nat} (hf : SqrtOK P f) (hT : P.underlying T = some (.float .f64)) : EnvOK P ⟨G, C, Q, I, M, f :: S, T :: D, []⟩ where
  rt := fun g hg => by
    rcases List.mem_cons.1 hg with rfl | hg
    · exact hf
    · exact h.rt g hg
  fl := fun U hU => by
    rcases List.mem_cons.1 hU with rfl | hU
    · exact hT
    · exact h.fl U hU
  ty := h.ty
  con := h.con
  it := h.it
  mu := h.mu
  eq := h.eq

end Go.Abs

set_option linter.unusedSimpArgs false
set_option linter.unusedVariables false
namespace Go.Abs
open Go
variable {P : Program} {E : Env} {R : Type} {H : Hdl R} {i : Bool}

def bd (f : Func) : Code := match f.body with
  | some c => c
  | none => .skip

/-- The outer loops. -/
def loopsOf : Code → List Code
  | .seq a b => loopsOf a ++ loopsOf b
  | .cond _ a b => loopsOf a ++ loopsOf b
  | .block _ c => loopsOf c
  | .loop c => [.loop c]
  | .rangeFunc g ps a b => [.rangeFunc g ps a b]
  | _ => []

def nth : List Code → Nat → Code
  | [], _ => .skip
  | c :: _, 0 => c
  | _ :: r, n + 1 => nth r n

def lp (c : Code) (i : Nat) : Code := nth (loopsOf c) i

/-- What is looped. -/
def inn : Code → Code
  | .loop c => c
  | _ => .skip

def isLoop : Code → Bool
  | .loop _ => true
  | _ => false

def rgG : Code → Operand
  | .rangeFunc g _ _ _ => g
  | _ => .func 0
def rgA : Code → Code
  | .rangeFunc _ _ a _ => a
  | _ => .skip
def rgB : Code → Code
  | .rangeFunc _ _ _ b => b
  | _ => .skip

def isRange (p : Nat) : Code → Bool
  | .rangeFunc _ ps _ _ => match ps.toList with
    | [q] => Nat.beq q p
    | _ => false
  | _ => false

theorem isLoop_eq {w : Code} (h : isLoop w = true) : w = .loop (inn w) := by
  cases w <;> first | rfl | cases h

theorem isRange_eq {p : Nat} {w : Code} (h : isRange p w = true) : w = .rangeFunc (rgG w) #[p] (rgA w) (rgB w) := by
  cases w <;> try (cases h; done)
  rename_i g ps a b
  simp only [isRange] at h
  split at h
  · rename_i q hq
    have := nbeq_true h
    subst this
    have : ps = #[q] := by rw [← Array.toArray_toList (xs := ps), hq]
    subst this
    rfl
  · cases h

def SndL (P : Program) (H : Hdl R) (i : Bool) (l : List Code) : Nat → List (Ev R) → Prop
  | _, [] => True
  | n, f :: r => Sound P H i (nth l n) f ∧ SndL P H i l (n + 1) r

theorem loopsOf_len : (c : Code) → (loopsOf c).length = loops c
  | .seq a b => by simp [loopsOf, loops, loopsOf_len a, loopsOf_len b]
  | .cond _ a b => by simp [loopsOf, loops, loopsOf_len a, loopsOf_len b]
  | .block _ c => by simp [loopsOf, loops, loopsOf_len c]
  | .loop c => rfl
  | .skip => rfl
  | .region .. => rfl
  | .exit _ => rfl
  | .ret => rfl
  | .rangeFunc _ _ _ _ => rfl
  | .scope _ => rfl
  | .label _ => rfl
  | .goto _ => rfl
  | .refuse _ => rfl

theorem SndL.get {l : List Code} : {O : List (Ev R)} → {n : Nat} → SndL P H i l n O → ∀ k f, O[k]? = some f → Sound P H i (nth l (n + k)) f
  | [], n, h, k, f, hf => by simp at hf
  | g :: r, n, ⟨h1, h2⟩, 0, f, hf => by
    simp at hf
    subst hf
    exact h1
  | g :: r, n, ⟨h1, h2⟩, k + 1, f, hf => by
    have := SndL.get h2 k f (by simpa using hf)
    rwa [show n + 1 + k = n + (k + 1) from by omega] at this

theorem nth_append_left {l m : List Code} : {i : Nat} → i < l.length → nth (l ++ m) i = nth l i := by
  induction l with
  | nil => intro i h; simp at h
  | cons c l ih =>
    intro i h
    cases i with
    | zero => rfl
    | succ i => exact ih (by simpa using h)

theorem nth_append_right {l m : List Code} (i : Nat) : nth (l ++ m) (l.length + i) = nth m i := by
  induction l with
  | nil => simp
  | cons c l ih =>
    rw [List.length_cons, show l.length + 1 + i = (l.length + i) + 1 from by omega]
    exact ih

theorem osOK_aux : (c : Code) → (O : List (Ev R)) → (∀ k f, k < loops c → O[k]? = some f → Sound P H i (nth (loopsOf c) k) f) → OsOK P H i c O
  | .seq a b, O, h => by
    refine ⟨osOK_aux a _ fun i f hi hf => ?_, osOK_aux b _ fun i f hi hf => ?_⟩
    · rw [List.getElem?_take_of_lt hi] at hf
      have := h i f (by simp [loops]; omega) hf
      rw [loopsOf, nth_append_left (by rw [loopsOf_len]; exact hi)] at this
      exact this
    · rw [List.getElem?_drop] at hf
      have := h _ f (by simp [loops]; omega) hf
      rw [loopsOf, ← loopsOf_len a, nth_append_right] at this
      exact this
  | .cond _ a b, O, h => by
    refine ⟨osOK_aux a _ fun i f hi hf => ?_, osOK_aux b _ fun i f hi hf => ?_⟩
    · rw [List.getElem?_take_of_lt hi] at hf
      have := h i f (by simp [loops]; omega) hf
      rw [loopsOf, nth_append_left (by rw [loopsOf_len]; exact hi)] at this
      exact this
    · rw [List.getElem?_drop] at hf
      have := h _ f (by simp [loops]; omega) hf
      rw [loopsOf, ← loopsOf_len a, nth_append_right] at this
      exact this
  | .block _ c, O, h => osOK_aux c O h
  | .loop c, O, h => fun f hf => by
    subst hf
    exact h 0 f (by simp [loops]) rfl
  | .skip, _, _ => trivial
  | .region .., _, _ => trivial
  | .exit _, _, _ => trivial
  | .ret, _, _ => trivial
  | .rangeFunc g ps x y, O, h => fun f hf => by
    subst hf
    exact h 0 f (by simp [loops]) rfl
  | .scope _, _, _ => trivial
  | .label _, _, _ => trivial
  | .goto _, _, _ => trivial
  | .refuse _, _, _ => trivial

theorem osOK_of {c : Code} {O : List (Ev R)} (h : SndL P H i (loopsOf c) 0 O) : OsOK P H i c O :=
  osOK_aux c O fun i f _ hf => by simpa using h.get i f hf

theorem loop_ok {n : Nat} (hE : EnvOK P E) (hP : P.follows .mixedOrders = true) {w : Code} (hw : isLoop w = true) {O : List (Ev R)} {T : Templ} {X : List (Way × Templ)} {body : denU T.tys → (denU T.tys → Option R) → conts R X → Option R}
    (hi : SndL P H i (loopsOf (inn w)) 0 O) (hb : ∀ d again k, codeR E H (inn w) O (mk T d) (turnR E T X again k) = body d again k) : Sound P H i w (loopO n E T X body) := by
  rw [isLoop_eq hw]
  exact loop_sound hE (codeR_sound hE hP (inn w) O (osOK_of hi)) hb

theorem range_ok (hE : EnvOK P E) (hP : P.follows .mixedOrders = true) {w : Code} {e : Ty} {p : Nat} {Oa Ob : List (Ev R)} {T : Templ} {F : List Nat} {X : List (Way × Templ)} {body : denU T.tys → e.den → (denU T.tys → Option R) → conts R X → Option R}
    (hw : isRange p w = true) (hfx : T.fx = []) (hpN : p < T.N) (hpF : p ∉ F) (hX : (X.all fun x => x.2.fx.isEmpty) = true)
    (ha : SndL P (Hdl.no (R := R)) true (loopsOf (rgA w)) 0 Oa) (hb : SndL P (Hdl.no (R := R)) true (loopsOf (rgB w)) 0 Ob)
    (heq : ∀ d x again k, codeR E Hdl.no (rgA w) Oa (mkB T F p e d x) (thenB fun st => codeR E Hdl.no (rgB w) Ob st (turnB E T F X again k)) = body d x again k) :
    Sound P (Hdl.no (R := R)) false w (rangeO E e (rgG w) T X body) := by
  have := isRange_eq hw
  rw [this]
  simp only [rgG]
  exact range_sound hE rfl {
    fx := hfx
    pN := hpN
    pF := hpF
    xfx := fun x hx => by simpa using List.all_eq_true.1 hX x hx
    a := codeR_sound hE hP _ _ (osOK_of ha)
    b := codeR_sound hE hP _ _ (osOK_of hb)
    eq := heq }

theorem func_ok (hE : EnvOK P E) (hP : P.follows .mixedOrders = true) {f : FuncId} {fn : Func} (hf : P.funcs[f]? = some fn) (hn : (fn.name == "runtime.NumGoroutine") = false) (hb : fn.body.isSome = true)
    {ins caps outs : List Ty} {g : denL ins → denL caps → Option (denL outs)} {fresh : Bool} {O : List (Ev (denL outs))} (hO : SndL P (Hdl.no (R := denL outs)) false (loopsOf (bd fn)) 0 O)
    (heq : ∀ x y, funR E fn ins caps outs fresh O x y = g x y) : ConOK P f ⟨ins, caps, outs, g, fresh⟩ :=
  fun_ok hE hP hf hn (fun c hc => osOK_of (by have := hO; unfold bd at this; rw [hc] at this; exact this)) heq hb

theorem itf1_ok (hE : EnvOK P E) (hP : P.follows .mixedOrders = true) {f : FuncId} {fn : Func} (hf : P.funcs[f]? = some fn) (hn : (fn.name == "runtime.NumGoroutine") = false) (hb : fn.body.isSome = true)
    {e : Ty} {caps : List Ty} {g : denL caps → Option (List e.den)} {O : List (Ev (List (denL [e])))} (hO : SndL P (hdlL [e]) false (loopsOf (bd fn)) 0 O)
    (heq : ∀ y, iterR E fn [e] caps O y = g y) : IConOK P f ⟨caps, .seq e, g⟩ :=
  iter1_ok hE hP hf hn (fun c hc => osOK_of (by have := hO; unfold bd at this; rw [hc] at this; exact this)) heq hb

theorem itf2_ok (hE : EnvOK P E) (hP : P.follows .mixedOrders = true) {f : FuncId} {fn : Func} (hf : P.funcs[f]? = some fn) (hn : (fn.name == "runtime.NumGoroutine") = false) (hb : fn.body.isSome = true)
    {a b : Ty} {caps : List Ty} {g : denL caps → Option (List (a.den × b.den))} {O : List (Ev (List (denL [a, b])))} (hO : SndL P (hdlL [a, b]) false (loopsOf (bd fn)) 0 O)
    (heq : ∀ y, iterR E fn [a, b] caps O y = g y) : IConOK P f ⟨caps, .seq2 a b, g⟩ :=
  iter2_ok hE hP hf hn (fun c hc => osOK_of (by have := hO; unfold bd at this; rw [hc] at this; exact this)) heq hb

end Go.Abs

namespace Go.Proofs
open Go.Shelf
def Try.lays219_ren : Go.Shelf.Ren := ⟨fun | 219 => 157 | 217 => 164 | 225 => 165 | 224 => 166 | 267 => 167 | 266 => 169 | 314 => 170 | n => n, fun | 9 => 9 | 3 => 3 | 4 => 4 | 5 => 5 | 46 => 182 | 146 => 206 | 51 => 193 | n => n, fun | 1 => 0 | n => n⟩
theorem Try.lays219 : Go.Proofs.Lays.n219 Try.prog Try.lays219_ren := {
  mixed := by kernel_rfl
  f217 := Try.func164.trans (congrArg some (by kernel_rfl))
  f219 := Try.func157.trans (congrArg some (by kernel_rfl))
  f224 := Try.func166.trans (congrArg some (by kernel_rfl))
  f225 := Try.func165.trans (congrArg some (by kernel_rfl))
  f266 := Try.func169.trans (congrArg some (by kernel_rfl))
  f267 := Try.func167.trans (congrArg some (by kernel_rfl))
  f314 := Try.func170.trans (congrArg some (by kernel_rfl))
  t3 := Try.underlying3
  a3 := Try.isAgg3
  z3 := Try.sizeOf3
  v3 := Try.zeroValue3
  t4 := Try.underlying4
  a4 := Try.isAgg4
  z4 := Try.sizeOf4
  v4 := Try.zeroValue4
  t5 := Try.underlying5
  a5 := Try.isAgg5
  z5 := Try.sizeOf5
  v5 := Try.zeroValue5
  t9 := Try.underlying9
  a9 := Try.isAgg9
  z9 := Try.sizeOf9
  v9 := Try.zeroValue9
  t46 := Try.underlying182
  a46 := Try.isAgg182
  z46 := Try.sizeOf182
  v46 := Try.zeroValue182
  t51 := Try.underlying193
  a51 := Try.isAgg193
  z51 := Try.sizeOf193
  v51 := Try.zeroValue193
  t146 := Try.underlying206
  a146 := Try.isAgg206
  z146 := Try.sizeOf206
  v146 := Try.zeroValue206
  g1 := by kernel_rfl }
open Go.RowKit Go.Lib in
/-- internal/stringslite.Index (what strings.Index calls) AT A substr OF ONE BYTE c: IT RETURNS 'Lib.indexByte s c'; the world is as it was. (LAID: no walk: one application.) -/
theorem Try.stringslite_Index_one (s : ByteArray) (c : UInt8) (w : World) :
    Calls Try.prog 157 #[.string s, .string ⟨#[c]⟩] w fun e w' => e = .returned (.int .i64 (Lib.indexByte s.data.toList c)) ∧ w' = w := Any.stringslite_Index_one Try.lays219 s c w
def Try.lays189_ren : Go.Shelf.Ren := ⟨fun | 189 => 123 | 125 => 142 | 257 => 141 | 128 => 155 | 129 => 156 | 294 => 146 | 295 => 147 | 296 => 148 | 297 => 149 | 298 => 150 | 299 => 151 | 216 => 152 | 300 => 153 | 301 => 154 | 328 => 158 | 329 => 159 | 330 => 160 | 331 => 161 | 332 => 162 | 215 => 163 | 343 => 168 | n => n, fun | 28 => 26 | 3 => 3 | 46 => 182 | 0 => 0 | 51 => 193 | 53 => 195 | 4 => 4 | 183 => 187 | 182 => 186 | 131 => 158 | 5 => 5 | 9 => 9 | 218 => 197 | 222 => 201 | 228 => 204 | 229 => 61 | n => n, fun | n => n⟩
theorem Try.lays189 : Go.Proofs.Lays.n189 Try.prog Try.lays189_ren := {
  mixed := by kernel_rfl
  f125 := Try.func142.trans (congrArg some (by kernel_rfl))
  f128 := Try.func155.trans (congrArg some (by kernel_rfl))
  f129 := Try.func156.trans (congrArg some (by kernel_rfl))
  f189 := Try.func123.trans (congrArg some (by kernel_rfl))
  f215 := Try.func163.trans (congrArg some (by kernel_rfl))
  f216 := Try.func152.trans (congrArg some (by kernel_rfl))
  f257 := Try.func141.trans (congrArg some (by kernel_rfl))
  f294 := Try.func146.trans (congrArg some (by kernel_rfl))
  f295 := Try.func147.trans (congrArg some (by kernel_rfl))
  f296 := Try.func148.trans (congrArg some (by kernel_rfl))
  f297 := Try.func149.trans (congrArg some (by kernel_rfl))
  f298 := Try.func150.trans (congrArg some (by kernel_rfl))
  f299 := Try.func151.trans (congrArg some (by kernel_rfl))
  f300 := Try.func153.trans (congrArg some (by kernel_rfl))
  f301 := Try.func154.trans (congrArg some (by kernel_rfl))
  f328 := Try.func158.trans (congrArg some (by kernel_rfl))
  f329 := Try.func159.trans (congrArg some (by kernel_rfl))
  f330 := Try.func160.trans (congrArg some (by kernel_rfl))
  f331 := Try.func161.trans (congrArg some (by kernel_rfl))
  f332 := Try.func162.trans (congrArg some (by kernel_rfl))
  f343 := Try.func168.trans (congrArg some (by kernel_rfl))
  t0 := Try.underlying0
  a0 := Try.isAgg0
  z0 := Try.sizeOf0
  v0 := Try.zeroValue0
  t3 := Try.underlying3
  a3 := Try.isAgg3
  z3 := Try.sizeOf3
  v3 := Try.zeroValue3
  t4 := Try.underlying4
  a4 := Try.isAgg4
  z4 := Try.sizeOf4
  v4 := Try.zeroValue4
  t5 := Try.underlying5
  a5 := Try.isAgg5
  z5 := Try.sizeOf5
  v5 := Try.zeroValue5
  t9 := Try.underlying9
  a9 := Try.isAgg9
  z9 := Try.sizeOf9
  v9 := Try.zeroValue9
  t28 := Try.underlying26
  a28 := Try.isAgg26
  z28 := Try.sizeOf26
  v28 := Try.zeroValue26
  t46 := Try.underlying182
  a46 := Try.isAgg182
  z46 := Try.sizeOf182
  v46 := Try.zeroValue182
  t51 := Try.underlying193
  a51 := Try.isAgg193
  z51 := Try.sizeOf193
  v51 := Try.zeroValue193
  t53 := Try.underlying195
  a53 := Try.isAgg195
  z53 := Try.sizeOf195
  v53 := Try.zeroValue195
  t131 := Try.underlying158
  a131 := Try.isAgg158
  z131 := Try.sizeOf158
  v131 := Try.zeroValue158
  t182 := Try.underlying186
  a182 := Try.isAgg186
  z182 := Try.sizeOf186
  v182 := Try.zeroValue186
  t183 := Try.underlying187
  a183 := Try.isAgg187
  z183 := Try.sizeOf187
  v183 := Try.zeroValue187
  t218 := Try.underlying197
  a218 := Try.isAgg197
  z218 := Try.sizeOf197
  v218 := Try.zeroValue197
  t222 := Try.underlying201
  a222 := Try.isAgg201
  z222 := Try.sizeOf201
  v222 := Try.zeroValue201
  t228 := Try.underlying204
  a228 := Try.isAgg204
  z228 := Try.sizeOf204
  v228 := Try.zeroValue204
  t229 := Try.underlying61
  a229 := Try.isAgg61
  z229 := Try.sizeOf61
  v229 := Try.zeroValue61 }
open Go.Sort Go.RowKit in
theorem Try.slices_Sort_int (blk off cap : Nat) (zs : List Int) (w : World) (hH : Holds (Value.int .i64) w blk off zs.toArray) (hblk : blk < w.heap.size) (hsz : zs.length < 4611686018427387904) :
    Calls Try.prog 123 #[.slice (some ⟨blk, off, none⟩) zs.length cap] w fun e w' =>
      e = .returned (.tuple #[]) ∧ ∃ n os, w' = grow (putRow (Value.int .i64) (Sort.ahead w n) blk off (zs.mergeSort fun x y => decide (x ≤ y)).toArray) os := Any.slices_Sort_int Try.lays189 blk off cap zs w hH hblk hsz
def Try.laysNm216_ren : Go.Shelf.Ren := ⟨fun | 16 => 120 | n => n, fun | 24 => 22 | 9 => 9 | 4 => 4 | n => n, fun | n => n⟩
theorem Try.laysNm216 : Go.Proofs.Lays2.n16 Try.prog Try.laysNm216_ren := {
  mixed := by kernel_rfl
  f16 := Try.func120.trans (congrArg some (by kernel_rfl))
  t4 := Try.underlying4
  a4 := Try.isAgg4
  z4 := Try.sizeOf4
  v4 := Try.zeroValue4
  t9 := Try.underlying9
  a9 := Try.isAgg9
  z9 := Try.sizeOf9
  v9 := Try.zeroValue9
  t24 := Try.underlying22
  a24 := Try.isAgg22
  z24 := Try.sizeOf22
  v24 := Try.zeroValue22
  i9 := by kernel_rfl }
open Go.RowKit Go.Lib in
/-- slices.Clone at []string: "Clone returns a copy of the slice. The elements are copied using assignment, so this is a shallow clone. The result may have additional unused capacity. The result preserves the nilness of s.": OF A SLICE THAT IS NOT nil IT RETURNS A SLICE THAT IS NOT nil, OF THE SAME ELEMENTS, IN MEMORY OF THE CALL's OWN: in the how-to's words (6f): 'w'.ownsRow B e 1 v' n cells': v' begins at the head of a row among the blocks from B on (B: the heap's size at the call), not frozen, whose first cells are the elements · 'Below B w w'': below B all is as it was. The capacity is whatever the run-time gives. 'zs': what the cells behind the slice's address hold; 'zs.take n': its elements. (LAID: no walk: one application.) -/
theorem Try.slices_Clone_string (b off n c : Nat) (zs : List ByteArray) (w : World) (hz : n ≤ zs.length) (hbig : n * 16 ≤ 140737488355328) (hc : ∀ j, j < zs.length → w.cell? ⟨b, off + j, none⟩ = some (.string (zs.getD j ByteArray.empty))) :
    Calls Try.prog 120 #[.slice (some ⟨b, off, none⟩) n c] w fun e w' => ∃ v', e = .returned v' ∧ w'.ownsRow w.heap.size 9 1 v' n ((zs.take n).map (Value.string)) ∧ v' ≠ .slice none 0 0 ∧ Below w.heap.size w w' := Any.slices_Clone_string Try.laysNm216 b off n c zs w hz hbig hc
open Go.RowKit Go.Lib in
/-- The same at nil: nil comes back; the world is as it was. (LAID: no walk: one application.) -/
theorem Try.slices_Clone_string_nil (n c : Nat) (w : World) :
    Calls Try.prog 120 #[.slice none n c] w fun e w' => e = .returned (.slice none 0 0) ∧ w' = w := Any.slices_Clone_string_nil Try.laysNm216 n c w
open Go.RowKit Go.Lib in
/-- The same at a slice of length 0 that is not nil, WHATEVER ITS ADDRESS (no cell is asked for): a slice that is not nil and owns nothing comes back. (LAID: no walk: one application.) -/
theorem Try.slices_Clone_string_zero (a : Addr) (c : Nat) (w : World) :
    Calls Try.prog 120 #[.slice (some a) 0 c] w fun e w' => ∃ v', e = .returned v' ∧ w'.ownsRow w.heap.size 9 1 v' 0 [] ∧ v' ≠ .slice none 0 0 ∧ Below w.heap.size w w' := Any.slices_Clone_string_zero Try.laysNm216 a c w
end Go.Proofs

set_option linter.unusedVariables false
namespace Go.Abs
open Go

def clRen : Go.Shelf.Ren := ⟨fun _ => 135, fun x => bif Nat.beq x 22 then 26 else x, fun x => x⟩

theorem clLays : Go.Proofs.Lays2.n15 Go.Proofs.Try.prog clRen where
  mixed := by kernel_rfl
  f15 := by kernel_rfl
  t3 := by kernel_rfl
  a3 := fun w => by kernel_rfl
  z3 := fun w => by kernel_rfl
  v3 := fun w => by kernel_rfl
  i3 := by kernel_rfl
  t4 := by kernel_rfl
  a4 := fun w => by kernel_rfl
  z4 := fun w => by kernel_rfl
  v4 := fun w => by kernel_rfl
  t22 := by kernel_rfl
  a22 := fun w => by kernel_rfl
  z22 := fun w => by kernel_rfl
  v22 := fun w => by kernel_rfl

/-- slices.Clone, at elements of one cell: what its contract says, as a contract of this make. -/
theorem clone_call {f T : Nat} {t : Ty} {enc : t.den → Value} (h1 : t.sz = 1) (hrep : ∀ w ok vs x, Rep Go.Proofs.Try.prog t w ok vs x ↔ vs = [enc x])
    (hnil : ∀ cap w, Calls Go.Proofs.Try.prog f #[.slice none 0 cap] w fun e w' => e = .returned (.slice none 0 0) ∧ w' = w)
    (hzero : ∀ ad cap w, Calls Go.Proofs.Try.prog f #[.slice (some ad) 0 cap] w fun e w' => ∃ v', e = .returned v' ∧ w'.ownsRow w.heap.size T 1 v' 0 [] ∧ v' ≠ .slice none 0 0 ∧ Go.RowKit.Below w.heap.size w w')
    (hall : ∀ b off (r : List t.den) cap w, r.length ≤ 4294967296 → (∀ j (hj : j < r.length), w.cell? ⟨b, off + j, none⟩ = some (enc r[j])) →
      Calls Go.Proofs.Try.prog f #[.slice (some ⟨b, off, none⟩) r.length cap] w fun e w' => ∃ v', e = .returned v' ∧ w'.ownsRow w.heap.size T 1 v' r.length (r.map enc) ∧ v' ≠ .slice none 0 0 ∧ Go.RowKit.Below w.heap.size w w')
    (r : List t.den) (w : World) (ok : Nat → Prop) (ad : Option Addr) (cap : Nat) (hmost : r.length ≤ most)
    (hr : r = [] ∨ ∃ b off cs T fr, ad = some ⟨b, off, none⟩ ∧ ok b ∧ w.heap[b]? = some (.cells cs T fr) ∧ off + r.length * t.sz ≤ cs.size ∧ ∀ i x, r[i]? = some x → Rep Go.Proofs.Try.prog t w ok (chunk cs.toList (off + i * t.sz) t.sz) x) :
    Calls Go.Proofs.Try.prog f #[.slice ad r.length cap] w fun e w' => ∃ v, e = .returned v ∧ Keeps w w' ∧ ResRep Go.Proofs.Try.prog w' (newOk ok w) [.slice t] v r ∧ (true = true → FreshC Go.Proofs.Try.prog w.heap.size w' (newOk ok w) [.slice t] v r) := by
  have fin : ∀ (w' : World) (v' : Value), w'.ownsRow w.heap.size T 1 v' r.length (r.map enc) → Go.RowKit.Below w.heap.size w w' →
      ∃ v, Ending.returned v' = .returned v ∧ Keeps w w' ∧ ResRep Go.Proofs.Try.prog w' (newOk ok w) [.slice t] v r ∧ (true = true → FreshC Go.Proofs.Try.prog w.heap.size w' (newOk ok w) [.slice t] v r) := by
    intro w' v' ho hb
    have hf : FreshRep Go.Proofs.Try.prog w.heap.size w' (newOk ok w) t v' r := by
      obtain ⟨_, ⟨g1, g2⟩ | ⟨g, c, cur, g1, g2, g3, g4, g5, g6, g7⟩⟩ := ho
      · exact .inl ⟨g1, List.length_eq_zero_iff.1 g2⟩
      · refine .inr ⟨g, 0, c, cur, T, g1, g2, g3, g4, g5, by simp [h1, g6], fun i z hi => ?_⟩
        have hlt : i < r.length := (List.getElem?_eq_some_iff.1 hi).1
        have hz : cur.toList[i]? = some (enc z) := by
          have : (cur.toList.take (r.length * 1))[i]? = some (enc z) := by rw [g7, List.getElem?_map, hi]; rfl
          rw [List.getElem?_take] at this
          split at this
          · exact this
          · cases this
        rw [hrep, h1, Nat.zero_add, Nat.mul_one]
        have hl2 : i < cur.toList.length := (List.getElem?_eq_some_iff.1 hz).1
        unfold chunk
        rw [List.drop_eq_getElem_cons hl2]
        have := (List.getElem?_eq_some_iff.1 hz).2
        simp [this]
    refine ⟨v', rfl, ⟨hb.os, hb.tape, hb.output, hb.size, hb.block⟩, ⟨[v'], rfl, ?_⟩, fun _ => hf⟩
    rcases hf with ⟨g1, g2⟩ | ⟨g, off, c, cur, T', g1, g2, g3, g4, g5, g6, g7⟩
    · refine ⟨none, 0, by rw [g1, g2]; rfl, by rw [g2]; exact Nat.le_refl _, .inl g2⟩
    · refine ⟨_, c, by rw [g1], g4, .inr ⟨g, off, cur, T', _, rfl, .inr g2, g3, ?_, fun i z hi => ?_⟩⟩
      · exact Nat.le_trans (Nat.add_le_add_left (Nat.mul_le_mul_right _ g4) _) g6
      · exact (g7 i z hi).re fun b hb _ => hb.1
  cases ad with
  | none =>
    have hn : r = [] := by
      rcases hr with h | ⟨b, off, cs, T, fr, h, _⟩
      · exact h
      · cases h
    subst hn
    refine (hnil cap w).mono ?_
    rintro e w' ⟨rfl, rfl⟩
    exact fin w' _ ⟨by simp, .inl ⟨rfl, rfl⟩⟩ (Go.RowKit.Below.refl _ _)
  | some ad =>
    by_cases hne : r = []
    · subst hne
      refine (hzero ad cap w).mono ?_
      rintro e w' ⟨v', rfl, g1, _, g2⟩
      exact fin w' v' g1 g2
    · rcases hr with h | ⟨b, off, cs, T', fr, h, hok, hheap, hsz, hel⟩
      · exact absurd h hne
      · cases h
        refine (hall b off r cap w (by unfold most at hmost; exact hmost) (fun j hj => ?_)).mono ?_
        · rw [cell_of_row w b (off + j) cs T' fr hheap]
          have g1 := (hrep w ok _ _).1 (hel j _ (List.getElem?_eq_getElem hj))
          rw [h1, Nat.mul_one] at g1
          have g2 : (chunk cs.toList (off + j) 1)[0]? = some (enc (r[j]'hj)) := by rw [g1]; rfl
          obtain ⟨_, g3⟩ := chunk_get g2
          simpa using g3
        · rintro e w' ⟨v', rfl, g1, _, g2⟩
          exact fin w' v' g1 g2

/-- slices.Clone at []int. -/
def s135 (n : Nat) (s : List Int) : Option (List Int) := (chk (List.length s)).bind fun _ => some s

def s135_c (n : Nat) : Con := ⟨[.slice (.int .i64)], [], [.slice (.int .i64)], fun x y => s135 n x, true⟩

theorem s135_ok (n : Nat) : ConOK Go.Proofs.Try.prog 135 (s135_c n) := by
  refine ⟨⟨_, Go.Proofs.Try.func135, by kernel_rfl, by kernel_rfl⟩, ?_⟩
  intro w ok vs cs x y r hx hy hr
  obtain ⟨us, rfl, ad, cap, rfl, hcap, hrep⟩ := hx
  have hcs : cs = [] := hy
  subst hcs
  have hr : (chk (List.length (α := Int) x)).bind (fun _ => some x) = some r := hr
  have hmost : List.length (α := Int) x ≤ most ∧ r = x := by
    unfold chk at hr
    split at hr
    · rename_i h; cases hr; exact ⟨h, rfl⟩
    · cases hr
  obtain ⟨hmost, rfl⟩ := hmost
  refine clone_call (t := .int .i64) (enc := fun (z : Int) => .int .i64 z) rfl (fun _ _ _ _ => Iff.rfl) (Go.Proofs.Any.slices_Clone_int_nil clLays 0) (Go.Proofs.Any.slices_Clone_int_zero clLays) ?_ r w ok ad cap hmost hrep
  intro b off r cap w hl hc
  refine (Go.Proofs.Any.slices_Clone_int clLays b off (List.length (α := Int) r) cap r w (Nat.le_refl _) (by omega) (fun j hj => ?_)).mono ?_
  · rw [hc j hj, List.getD_eq_getElem?_getD, List.getElem?_eq_getElem hj]; rfl
  · rintro e w' ⟨v', h1, h2, h3⟩
    rw [List.take_length] at h2
    exact ⟨v', h1, h2, h3⟩

/-- slices.Clone at []string. -/
def s120 (n : Nat) (s : List (List UInt8)) : Option (List (List UInt8)) := (chk (List.length s)).bind fun _ => some s

def s120_c (n : Nat) : Con := ⟨[.slice .str], [], [.slice .str], fun x y => s120 n x, true⟩

theorem s120_ok (n : Nat) : ConOK Go.Proofs.Try.prog 120 (s120_c n) := by
  refine ⟨⟨_, Go.Proofs.Try.func120, by kernel_rfl, by kernel_rfl⟩, ?_⟩
  intro w ok vs cs x y r hx hy hr
  obtain ⟨us, rfl, ad, cap, rfl, hcap, hrep⟩ := hx
  have hcs : cs = [] := hy
  subst hcs
  have hr : (chk (List.length (α := List UInt8) x)).bind (fun _ => some x) = some r := hr
  have hmost : List.length (α := List UInt8) x ≤ most ∧ r = x := by
    unfold chk at hr
    split at hr
    · rename_i h; cases hr; exact ⟨h, rfl⟩
    · cases hr
  obtain ⟨hmost, rfl⟩ := hmost
  refine clone_call (t := .str) (enc := fun (z : List UInt8) => .string ⟨⟨z⟩⟩) rfl (fun _ _ _ _ => Iff.rfl) (Go.Proofs.Try.slices_Clone_string_nil 0) (Go.Proofs.Try.slices_Clone_string_zero) ?_ r w ok ad cap hmost hrep
  intro b off r cap w hl hc
  have hlen : (List.map (fun z => (⟨⟨z⟩⟩ : ByteArray)) r).length = List.length (α := List UInt8) r := by simp
  have := Go.Proofs.Try.slices_Clone_string b off (List.length (α := List UInt8) r) cap (List.map (fun z => (⟨⟨z⟩⟩ : ByteArray)) r) w (by rw [hlen]; exact Nat.le_refl _) (by omega) (fun j hj => ?_)
  · refine this.mono ?_
    rintro e w' ⟨v', h1, h2, h3⟩
    rw [List.take_of_length_le (by rw [hlen]; exact Nat.le_refl _), List.map_map] at h2
    exact ⟨v', h1, h2, h3⟩
  · have hj' : j < List.length (α := List UInt8) r := by rw [← hlen]; exact hj
    rw [hc j hj', List.getD_eq_getElem?_getD, List.getElem?_map, List.getElem?_eq_getElem hj']; rfl

end Go.Abs

set_option linter.unusedVariables false
set_option linter.unusedSimpArgs false
namespace Go.Abs
open Go Go.Sort

/-- slices.Sort at []int (of one that is not nil). -/
def s123 (n : Nat) (l : List Int) : Option (List Int) := bif l.isEmpty then none else (chk (List.length l)).bind fun _ => some (l.mergeSort fun x y => decide (x ≤ y))

def s123_c (n : Nat) : MCon := ⟨.int .i64, [], fun l _ => s123 n l, false⟩

theorem sort_call {w : World} {ok : Nat → Prop} {v : Value} {l l' : List Int} (ho : OwnBuf Go.Proofs.Try.prog w ok (.int .i64) v l) (hr : s123 0 l = some l') :
    Calls Go.Proofs.Try.prog 123 #[v] w fun e w' => ∃ r, e = .returned r ∧ KeepsBut v w w' ∧ r = .tuple #[] ∧ OwnBuf Go.Proofs.Try.prog w' (newOk ok w) (.int .i64) v l' := by
  have hne : l ≠ [] ∧ List.length l ≤ most ∧ l' = l.mergeSort fun x y => decide (x ≤ y) := by
    unfold s123 at hr
    cases l with
    | nil => simp at hr
    | cons a l =>
      simp only [List.isEmpty_cons, cond_false] at hr
      unfold chk at hr
      split at hr
      · rename_i h
        simp only [Option.bind_some, Option.some.injEq] at hr
        exact ⟨by simp, h, hr.symm⟩
      · cases hr
  obtain ⟨hne, hmost, rfl⟩ := hne
  rcases ho with ⟨_, h⟩ | ⟨b, off, cap, cs, T, rfl, h2, h3, h4, h5, h6⟩
  · exact absurd h hne
  · have hlen : off + l.length ≤ cs.size := by
      simp only [Ty.sz, Nat.mul_one] at h5
      omega
    have hc : ∀ j (hj : j < l.length), cs[off + j]? = some (.int .i64 l[j]) := by
      intro j hj
      have h1 : chunk cs.toList (off + j * 1) 1 = [.int .i64 (l[j]'hj)] := h6 j _ (List.getElem?_eq_getElem hj)
      rw [Nat.mul_one] at h1
      have h2 : (chunk cs.toList (off + j) 1)[0]? = some (.int .i64 (l[j]'hj)) := by rw [h1]; rfl
      obtain ⟨_, h3⟩ := chunk_get h2
      simpa using h3
    have hH : Holds (Value.int .i64) w b off l.toArray := by
      intro j hj
      have hj' : j < l.length := by simpa using hj
      have e : l.toArray[j]! = l[j] := by rw [getElem!_pos _ j hj]; simp
      rw [e]
      refine ⟨?_, ?_⟩
      · unfold World.cell?
        simp only [h2]
        simpa using hc j hj'
      · unfold World.frozen?
        simp only [h2]
        simp
    have hb : b < w.heap.size := (Array.getElem?_eq_some_iff.1 h2).1
    have hl4 : l.length < 4611686018427387904 := by unfold most at hmost; omega
    refine (Go.Proofs.Try.slices_Sort_int b off cap l w hH hb hl4).mono ?_
    rintro e w' ⟨rfl, n, os, rfl⟩
    generalize hm : (l.mergeSort fun x y => decide (x ≤ y)) = m
    have hml : m.length = l.length := by rw [← hm]; exact List.length_mergeSort l
    have hheap : (grow (putRow (Value.int .i64) (Sort.ahead w n) b off m.toArray) os).heap = (w.heap.modify b (onCells (putCells (Value.int .i64) off m.toArray))) ++ os := rfl
    have hsz : (w.heap.modify b (onCells (putCells (Value.int .i64) off m.toArray))).size = w.heap.size := by simp
    have hget : ∀ k, k < w.heap.size → (grow (putRow (Value.int .i64) (Sort.ahead w n) b off m.toArray) os).heap[k]? = if b = k then (w.heap[k]?).map (onCells (putCells (Value.int .i64) off m.toArray)) else w.heap[k]? := by
      intro k hk
      rw [hheap, Array.getElem?_append_left (by rw [hsz]; exact hk), Array.getElem?_modify]
    refine ⟨_, rfl, ⟨rfl, rfl, rfl, ?_, fun k hk hne => ?_⟩, rfl, .inr ⟨b, off, cap, putCells (Value.int .i64) off m.toArray cs, T, by rw [hml], ?_, by rw [hml]; exact h3, h4, ?_, fun i x hi => ?_⟩⟩
    · rw [hheap, Array.size_append, hsz]; omega
    · rw [hget k hk, if_neg fun e => hne (by rw [e]; rfl)]
    · rw [hget b hb, if_pos rfl, h2]; rfl
    · simpa [putCells] using h5
    · have hil : i < m.length := (List.getElem?_eq_some_iff.1 hi).1
      have hlt : off + i < cs.size := by omega
      have hp : (putCells (Value.int .i64) off m.toArray cs)[off + i]? = some (.int .i64 x) := by
        unfold putCells
        rw [Array.getElem?_mapIdx, Array.getElem?_eq_getElem hlt]
        simp only [Option.map_some, Option.some.injEq]
        rw [if_pos ⟨by omega, by simp; omega⟩, show off + i - off = i by omega, getElem!_pos _ i (by simpa using hil)]
        have := (List.getElem?_eq_some_iff.1 hi).2
        simp [this]
      show chunk _ (off + i * 1) 1 = [.int .i64 x]
      rw [Nat.mul_one]
      have hl2 : off + i < (putCells (Value.int .i64) off m.toArray cs).toList.length := by simpa [putCells] using hlt
      rw [chunk_one hl2]
      rw [Array.getElem?_eq_getElem (by simpa using hl2)] at hp
      simpa using hp

theorem s123_ok (n : Nat) : MConOK Go.Proofs.Try.prog 123 (s123_c n) := by
  refine ⟨⟨_, Go.Proofs.Try.func123, by kernel_rfl, by kernel_rfl⟩, ?_⟩
  intro w ok v vs l y l' ho hy _ hr
  have : vs = [] := hy
  subst this
  refine (sort_call ho hr).mono ?_
  rintro e w' ⟨r, h1, h2, h3, h4⟩
  exact ⟨r, h1, h2, .inr ⟨rfl, h3, h4⟩⟩

/-- internal/stringslite.Index at a text of one byte. -/
def s157 (n : Nat) (s : List UInt8) (t : List UInt8) : Option Int := match t with
  | [c] => some (Lib.indexByte s c)
  | _ => none

def s157_c (n : Nat) : Con := ⟨[.str, .str], [], [.int .i64], fun x y => s157 n x.1 x.2, false⟩

theorem s157_ok (n : Nat) : ConOK Go.Proofs.Try.prog 157 (s157_c n) := by
  refine ⟨⟨_, Go.Proofs.Try.func157, by kernel_rfl, by kernel_rfl⟩, ?_⟩
  intro w ok vs cs x y r hx hy hr
  obtain ⟨s, t⟩ := x
  obtain ⟨us, rest, rfl, h1, us2, h2, h3⟩ := hx
  have hcs : cs = [] := hy
  subst hcs
  have hr : s157 n s t = some r := hr
  unfold s157 at hr
  split at hr
  · rename_i c _
    cases hr
    have e1 : us = [.string ⟨⟨s⟩⟩] := h1
    have e2 : us2 = [.string ⟨⟨[c]⟩⟩] := h3
    subst e1 e2
    rw [h2]
    refine (Go.Proofs.Try.stringslite_Index_one ⟨⟨s⟩⟩ c w).mono ?_
    rintro e w' ⟨rfl, rfl⟩
    exact ⟨_, rfl, Keeps.refl _, ⟨[_], rfl, rfl⟩, fun h => by cases h⟩
  · cases hr

end Go.Abs

set_option linter.unusedSimpArgs false
set_option linter.unusedVariables false
namespace Go.Abs
open Go
variable {P : Program}

/-- The bounds of numbers and lengths. -/
def Ty.wf : (t : Ty) → t.den → Prop
  | .int k, n => k.min ≤ n ∧ (n : Int) ≤ k.max
  | .bool, _ => True
  | .str, l => List.length (α := UInt8) l ≤ maxLen
  | .unit, _ => True
  | .slice e, l => List.length l ≤ maxLen ∧ ∀ x ∈ (l : List e.den), e.wf x
  | .pair a b, (x, y) => a.wf x ∧ b.wf y
  | .fn1 _ _, _ => True
  | .fn2 _ _ _, _ => True
  | .seq _, _ => True
  | .seq2 _ _, _ => True
  | .map _ _, _ => True

mutual
def shp (P : Program) : Nat → Nat → Ty → Bool
  | 0, _, _ => false
  | n + 1, T, t => match P.underlying T, t with
    | some (.int k), .int k' => decide (k = k')
    | some .bool, .bool => true
    | some .string, .str => true
    | some (.slice T'), .slice e => Nat.beq (P.cellsOf T') e.sz && Nat.blt 0 e.sz && shp P n T' e
    | some (.struct fs), .pair a b => Nat.beq (P.cellsOf T) (Ty.pair a b).sz && shpF P n fs.toList 0 (.pair a b)
    | some (.array m T'), .pair a b => Nat.beq (P.cellsOf T) (Ty.pair a b).sz && decide (Ty.pair a b = Ty.arr a m) && Nat.beq (P.cellsOf T') a.sz && shp P n T' a
    | _, _ => false

def shpF (P : Program) : Nat → List Field → Nat → Ty → Bool
  | 0, _, _, _ => false
  | n + 1, [f], off, t => Nat.beq f.offset off && Nat.beq (P.cellsOf f.type) t.sz && shp P n f.type t
  | n + 1, f :: g :: r, off, .pair a b => Nat.beq f.offset off && Nat.beq (P.cellsOf f.type) a.sz && shp P n f.type a && shpF P n (g :: r) (off + a.sz) b
  | _ + 1, _, _, _ => false
end

theorem mapM_cons_some {α β : Type} {f : α → Option β} {x : α} {l : List α} {ys : List β} (h : (x :: l).mapM f = some ys) : ∃ y r, f x = some y ∧ l.mapM f = some r ∧ ys = y :: r := by
  rw [List.mapM_cons] at h
  cases hx : f x with
  | none => rw [hx] at h; cases h
  | some y =>
    rw [hx] at h
    cases hl : l.mapM f with
    | none => rw [hl] at h; cases h
    | some r => rw [hl] at h; cases h; exact ⟨y, r, rfl, rfl, rfl⟩

theorem mapM_get {α β : Type} {f : α → Option β} : {l : List α} → {ys : List β} → l.mapM f = some ys → ∀ (i : Nat) x, l[i]? = some x → ∃ y, f x = some y
  | [], ys, h, i, x, hx => by simp at hx
  | a :: l, ys, h, i, x, hx => by
    obtain ⟨y, r, h1, h2, h3⟩ := mapM_cons_some h
    cases i with
    | zero => simp at hx; subst hx; exact ⟨y, h1⟩
    | succ i => exact mapM_get h2 i x (by simpa using hx)

theorem mapM_len {α β : Type} {f : α → Option β} : {l : List α} → {ys : List β} → l.mapM f = some ys → ys.length = l.length
  | [], ys, h => by cases h; rfl
  | a :: l, ys, h => by
    obtain ⟨y, r, h1, h2, h3⟩ := mapM_cons_some h
    subst h3
    simp [mapM_len h2]

theorem mapM_at {α β : Type} {f : α → Option β} : {l : List α} → {ys : List β} → l.mapM f = some ys → ∀ (i : Nat) x y, l[i]? = some x → ys[i]? = some y → f x = some y
  | [], ys, h, i, x, y, hx, hy => by simp at hx
  | a :: l, ys, h, i, x, y, hx, hy => by
    obtain ⟨y', r, h1, h2, h3⟩ := mapM_cons_some h
    subst h3
    cases i with
    | zero => simp at hx hy; subst hx; subst hy; exact h1
    | succ i => exact mapM_at h2 i x y (by simpa using hx) (by simpa using hy)

/-- Cells that are read one by one. -/
theorem cells_read {W : World} {b off n : Nat} {sp : Option Nat} {cs : List Value} (h : W.cells? 0 ⟨b, off, sp⟩ n = some cs) (hn : 0 < n) : sp = none ∨ True := .inr trivial

theorem exists_choice {α : Type} {n : Nat} {Q : Nat → α → Prop} (h : ∀ i, i < n → ∃ x, Q i x) : ∃ l : List α, l.length = n ∧ ∀ (i : Nat) x, l[i]? = some x → Q i x := by
  induction n with
  | zero => exact ⟨[], rfl, fun i x hx => by simp at hx⟩
  | succ n ih =>
    obtain ⟨l, h1, h2⟩ := ih fun i hi => h i (by omega)
    obtain ⟨x, hx⟩ := h n (by omega)
    refine ⟨l ++ [x], by simp [h1], fun i y hy => ?_⟩
    by_cases hi : i < l.length
    · rw [List.getElem?_append_left hi] at hy
      exact h2 i y hy
    · rw [List.getElem?_append_right (by omega)] at hy
      have : i - l.length = 0 := by
        cases hk : i - l.length with
        | zero => rfl
        | succ k => rw [hk] at hy; simp at hy
      rw [this] at hy
      simp at hy
      subst hy
      have : i = n := by omega
      subst this
      exact hx

/-- Data of an array, element by element. -/
theorem rep_arr {W : World} {ok : Nat → Prop} {a : Ty} : (m : Nat) → (cs : List Value) → 0 < m → cs.length = m * a.sz → (∀ i, i < m → ∃ y, Rep P a W ok ((cs.drop (i * a.sz)).take a.sz) y ∧ a.wf y) →
    ∃ x : (Ty.arr a m).den, Rep P (Ty.arr a m) W ok cs x ∧ (Ty.arr a m).wf x
  | 0, cs, h, _, _ => absurd h (Nat.lt_irrefl 0)
  | 1, cs, _, hl, h => by
    obtain ⟨y, h1, h2⟩ := h 0 (by omega)
    rw [Nat.zero_mul, List.drop_zero, List.take_of_length_le (by omega)] at h1
    exact ⟨y, h1, h2⟩
  | m + 2, cs, _, hl, h => by
    obtain ⟨y, h1, h2⟩ := h 0 (by omega)
    rw [Nat.zero_mul, List.drop_zero] at h1
    have e : (m + 2) * a.sz = (m + 1) * a.sz + a.sz := by rw [← Nat.succ_mul]
    obtain ⟨x, k1, k2⟩ := rep_arr (a := a) (m + 1) (cs.drop a.sz) (by omega) (by rw [List.length_drop, hl, e]; omega) fun i hi => by
      obtain ⟨z, g1, g2⟩ := h (i + 1) (by omega)
      refine ⟨z, ?_, g2⟩
      rw [List.drop_drop]
      rw [show a.sz + i * a.sz = (i + 1) * a.sz from by rw [Nat.succ_mul]; omega]
      exact g1
    exact ⟨(y, x), ⟨h1, k1⟩, h2, k2⟩

section
variable {H : Type} {enc : TypeId × Value → H} {W : World} {spare : Nat → Bool} {held : Bool}

mutual
theorem open_ty : (n : Nat) → (T : Nat) → (t : Ty) → shp P n T t = true → ∀ (fuel : Nat) (cs : List Value) (d : DataW H) (ps : List MemPlace), DataW.trod enc P W 0 spare held fuel T cs = some (d, ps) →
    ∃ x : t.den, Rep P t W (fun b => b < W.heap.size) cs x ∧ t.wf x
  | 0, T, t, h, fuel, cs, d, ps, hd => by simp [shp] at h
  | n + 1, T, t, h, 0, cs, d, ps, hd => by cases hd
  | n + 1, T, t, h, fuel + 1, cs, d, ps, hd => by
    unfold shp at h
    unfold DataW.trod at hd
    split at h
    · rename_i k k' hu
      have hk : k = k' := of_decide_eq_true h
      subst hk
      rw [hu] at hd
      match cs, hd with
      | [.int k2 m], hd =>
        simp only at hd
        split at hd
        · rename_i hh
          obtain ⟨rfl, hw⟩ := hh
          refine ⟨m, rfl, ?_⟩
          simpa [Lit.wf, Ty.wf] using hw
        · cases hd
    · rename_i hu
      rw [hu] at hd
      match cs, hd with
      | [.bool b], hd => exact ⟨b, rfl, trivial⟩
    · rename_i hu
      rw [hu] at hd
      match cs, hd with
      | [.string s], hd =>
        simp only at hd
        split at hd
        · rename_i hs
          obtain ⟨⟨s⟩⟩ := s
          exact ⟨s, rfl, hs⟩
        · cases hd
    · rename_i T' e hu
      simp only [Bool.and_eq_true] at h
      obtain ⟨⟨h1, h2⟩, h3⟩ := h
      have hc := nbeq_true h1
      have hpos : 0 < e.sz := Nat.le_of_ble_eq_true h2
      rw [hu] at hd
      match cs, hd with
      | [.slice none 0 0], hd => exact ⟨([] : List e.den), ⟨none, 0, rfl, Nat.le_refl _, .inl rfl⟩, ⟨Nat.zero_le _, fun _ h => (by cases h)⟩⟩
      | [.slice (some a) len cap], hd =>
        simp only at hd
        split at hd
        · rename_i hh
          obtain ⟨_, hlc, hcm⟩ := hh
          cases hm : (List.range len).mapM (fun i => (W.cells? 0 (a.add (i * P.cellsOf T')) (P.cellsOf T')).bind (DataW.trod enc P W 0 spare held fuel T')) with
          | none => rw [hm] at hd; cases hd
          | some els =>
            clear hd
            have hel : ∀ i, i < len → ∃ ds y, W.cells? 0 (a.add (i * e.sz)) e.sz = some ds ∧ Rep P e W (fun b => b < W.heap.size) ds y ∧ e.wf y := by
              intro i hi
              obtain ⟨z, hz⟩ := mapM_get hm i i (by simp [hi])
              rw [hc] at hz
              cases hcs : W.cells? 0 (a.add (i * e.sz)) e.sz with
              | none => rw [hcs] at hz; cases hz
              | some ds =>
                rw [hcs] at hz
                obtain ⟨y, hy1, hy2⟩ := open_ty n T' e h3 fuel ds z.1 z.2 hz
                exact ⟨ds, y, rfl, hy1, hy2⟩
            by_cases hlen : len = 0
            · subst hlen
              exact ⟨([] : List e.den), ⟨some a, cap, rfl, Nat.zero_le _, .inl rfl⟩, ⟨Nat.zero_le _, fun _ h => (by cases h)⟩⟩
            · -- each cell of each element
              have hcell : ∀ i, i < len → ∀ j, j < e.sz → ∃ v, W.cell? ((a.add (i * e.sz)).add j) = some v := by
                intro i hi j hj
                obtain ⟨ds, y, q1, _⟩ := hel i hi
                unfold World.cells? at q1
                rw [if_pos (Nat.zero_le _)] at q1
                exact mapM_get q1 j j (by simp [hj])
              obtain ⟨b, off, sp⟩ := a
              obtain ⟨v0, hv0⟩ := hcell 0 (by omega) 0 hpos
              have e0 : (Addr.mk b off sp).add (0 * e.sz) = ⟨b, off, sp⟩ := by simp [Addr.add]
              rw [e0, show (Addr.mk b off sp).add 0 = ⟨b, off, sp⟩ from rfl] at hv0
              unfold World.cell? at hv0
              cases hb : W.heap[b]? with
              | none => simp only [hb] at hv0; cases hv0
              | some o =>
                cases o with
                | cells C U fr =>
                  simp only [hb] at hv0
                  cases sp with
                  | some s => simp at hv0
                  | none =>
                    have addoff : ∀ i j, (((Addr.mk b off none).add (i * e.sz)).add j) = ⟨b, off + i * e.sz + j, none⟩ := by
                      intro i j
                      unfold Addr.add
                      by_cases h1 : i * e.sz = 0 <;> by_cases h2 : j = 0 <;> simp [h1, h2]
                    have hin : ∀ i, i < len → ∀ j, j < e.sz → ∃ v, C[off + i * e.sz + j]? = some v := by
                      intro i hi j hj
                      obtain ⟨v, hv⟩ := hcell i hi j hj
                      rw [addoff] at hv
                      unfold World.cell? at hv
                      simp only [hb] at hv
                      exact ⟨v, by simpa using hv⟩
                    have hds : ∀ i, i < len → ∀ ds, W.cells? 0 ((Addr.mk b off none).add (i * e.sz)) e.sz = some ds → ds = chunk C.toList (off + i * e.sz) e.sz := by
                      intro i hi ds q1
                      unfold World.cells? at q1
                      rw [if_pos (Nat.zero_le _)] at q1
                      have hl := mapM_len q1
                      rw [List.length_range] at hl
                      apply List.ext_getElem?
                      intro j
                      by_cases hj : j < e.sz
                      · obtain ⟨v, hv⟩ := hin i hi j hj
                        have hdj : ds[j]? = some ds[j] := List.getElem?_eq_getElem (by omega)
                        have hat := mapM_at q1 j j _ (by simp [hj]) hdj
                        rw [addoff] at hat
                        unfold World.cell? at hat
                        simp only [hb] at hat
                        simp only [Option.isSome_none, Bool.false_eq_true, if_false] at hat
                        rw [hdj, ← hat]
                        unfold chunk
                        rw [List.getElem?_take_of_lt hj, List.getElem?_drop]
                        simp
                      · rw [List.getElem?_eq_none (by omega), List.getElem?_eq_none (by unfold chunk; simp; omega)]
                    obtain ⟨l, hl1, hl2⟩ := exists_choice (Q := fun i y => Rep P e W (fun b => b < W.heap.size) (chunk C.toList (off + i * e.sz) e.sz) y ∧ e.wf y) fun i hi => by
                      obtain ⟨ds, y, q1, q2, q3⟩ := hel i hi
                      rw [hds i hi ds q1] at q2
                      exact ⟨y, q2, q3⟩
                    refine ⟨l, ⟨some ⟨b, off, none⟩, cap, by rw [hl1], by rw [hl1]; exact hlc, .inr ⟨b, off, C, U, fr, rfl, (Array.getElem?_eq_some_iff.1 hb).1, hb, ?_, fun i x hx => (hl2 i x hx).1⟩⟩, ⟨by rw [hl1]; omega, fun x hx => ?_⟩⟩
                    · obtain ⟨v, hv⟩ := hin (len - 1) (by omega) (e.sz - 1) (by omega)
                      have := (Array.getElem?_eq_some_iff.1 hv).1
                      rw [hl1]
                      have e1 : len * e.sz = (len - 1) * e.sz + e.sz := by
                        conv => lhs; rw [show len = (len - 1) + 1 from by omega]
                        rw [Nat.succ_mul]
                      omega
                    · obtain ⟨i, hi, rfl⟩ := List.getElem_of_mem hx
                      exact (hl2 i l[i] (List.getElem?_eq_getElem hi)).2
                | _ => simp only [hb] at hv0; cases hv0
        · cases hd
    · rename_i fs x y hu
      simp only [Bool.and_eq_true] at h
      obtain ⟨h1, h2⟩ := h
      have hc := nbeq_true h1
      rw [hu] at hd
      have hd' : (if cs.length = P.cellsOf T then (fs.toList.mapM fun f => DataW.trod enc P W 0 spare held fuel f.type ((cs.drop f.offset).take (P.cellsOf f.type))).map fun xs => ((DataW.agg (xs.map (·.1)) : DataW H), xs.flatMap (·.2)) else none) = some (d, ps) := by
        match cs, hd with
        | [], hd => exact hd
        | [_], hd => exact hd
        | _ :: _ :: _, hd => exact hd
      split at hd'
      · rename_i hl
        cases hm : fs.toList.mapM fun f => DataW.trod enc P W 0 spare held fuel f.type ((cs.drop f.offset).take (P.cellsOf f.type)) with
        | none => rw [hm] at hd'; cases hd'
        | some xs =>
          have := open_fields n fs.toList 0 (.pair x y) h2 fuel cs (by rw [hl, hc]; simp) xs hm
          simpa using this
      · cases hd'
    · rename_i m T' x y hu
      simp only [Bool.and_eq_true] at h
      obtain ⟨⟨⟨h1, h2⟩, h3⟩, h4⟩ := h
      have hc := nbeq_true h1
      have hty : Ty.pair x y = Ty.arr x m := of_decide_eq_true h2
      have he := nbeq_true h3
      rw [hu] at hd
      have hd' : (if cs.length = P.cellsOf T then ((List.range m).mapM fun i => DataW.trod enc P W 0 spare held fuel T' ((cs.drop (i * P.cellsOf T')).take (P.cellsOf T'))).map fun xs => ((DataW.agg (xs.map (·.1)) : DataW H), xs.flatMap (·.2)) else none) = some (d, ps) := by
        match cs, hd with
        | [], hd => exact hd
        | [_], hd => exact hd
        | _ :: _ :: _, hd => exact hd
      split at hd'
      · rename_i hl
        cases hm : (List.range m).mapM fun i => DataW.trod enc P W 0 spare held fuel T' ((cs.drop (i * P.cellsOf T')).take (P.cellsOf T')) with
        | none => rw [hm] at hd'; cases hd'
        | some xs =>
          have hm0 : 0 < m := by
            cases m with
            | zero => simp [Ty.arr] at hty
            | succ m => omega
          have hsz : (Ty.arr x m).sz = m * x.sz := arr_sz x m
          have hlen : cs.length = m * x.sz := by rw [hl, hc, hty, hsz]
          rw [hty]
          refine rep_arr m cs hm0 hlen fun i hi => ?_
          obtain ⟨z, hz⟩ := mapM_get hm i i (by simp [hi])
          rw [he] at hz
          exact open_ty n T' x h4 fuel _ z.1 z.2 hz
      · cases hd'
    · cases h

theorem open_fields : (n : Nat) → (l : List Field) → (off : Nat) → (t : Ty) → shpF P n l off t = true → ∀ (fuel : Nat) (cs : List Value), cs.length = off + t.sz → ∀ xs : List (DataW H × List MemPlace),
    (l.mapM fun f => DataW.trod enc P W 0 spare held fuel f.type ((cs.drop f.offset).take (P.cellsOf f.type))) = some xs → ∃ x : t.den, Rep P t W (fun b => b < W.heap.size) (cs.drop off) x ∧ t.wf x
  | 0, l, off, t, h, fuel, cs, hl, xs, hm => by simp [shpF] at h
  | n + 1, [], off, t, h, fuel, cs, hl, xs, hm => by cases t <;> simp [shpF] at h
  | n + 1, [f], off, t, h, fuel, cs, hl, xs, hm => by
    rw [shpF] at h
    simp only [Bool.and_eq_true] at h
    obtain ⟨⟨h1, h2⟩, h3⟩ := h
    have e1 := nbeq_true h1
    have e2 := nbeq_true h2
    obtain ⟨y, r, g1, _, _⟩ := mapM_cons_some hm
    rw [e1, e2, List.take_of_length_le (by simp; omega)] at g1
    exact open_ty n f.type t h3 fuel _ y.1 y.2 g1
  | n + 1, f :: g :: r, off, t, h, fuel, cs, hl, xs, hm => by
    cases t with
    | pair a b =>
      rw [shpF] at h
      simp only [Bool.and_eq_true] at h
      obtain ⟨⟨⟨h1, h2⟩, h3⟩, h4⟩ := h
      have e1 := nbeq_true h1
      have e2 := nbeq_true h2
      obtain ⟨y, r', g1, g2, _⟩ := mapM_cons_some hm
      rw [e1, e2] at g1
      obtain ⟨x1, k1, k2⟩ := open_ty n f.type a h3 fuel _ y.1 y.2 g1
      obtain ⟨x2, k3, k4⟩ := open_fields n (g :: r) (off + a.sz) b h4 fuel cs (by rw [hl]; simp [Ty.sz]; omega) r' g2
      refine ⟨(x1, x2), ⟨k1, ?_⟩, k2, k4⟩
      rw [List.drop_drop]
      exact k3
    | _ => simp [shpF] at h
end

end
end Go.Abs

set_option linter.unusedSimpArgs false
set_option linter.unusedVariables false
namespace Go.Abs
open Go Go.ChangeShapes Go.WideShapes Go.RowKit
variable {P : Program}

def wfL : (ts : List Ty) → denL ts → Prop
  | [], _ => True
  | [t], x => t.wf x
  | t :: u :: ts, (x, y) => t.wf x ∧ wfL (u :: ts) y

def shpL (P : Program) (n : Nat) : List Nat → List Ty → Bool
  | [], [] => true
  | T :: Ts, t :: ts => shp P n T t && shpL P n Ts ts
  | _, _ => false

theorem shp_val {n T : Nat} {t : Ty} (h : shp P n T t = true) {w : World} {r : Reach} {b0 : Nat} {v : Value} (hv : Value.okWide P w r b0 T v) : v = t.val v.cells.toList := by
  cases n with
  | zero => simp [shp] at h
  | succ n =>
    unfold shp at h
    split at h
    · rename_i k k' hu
      obtain ⟨m, rfl⟩ := okWide_int hu hv
      rfl
    · rename_i hu
      obtain ⟨m, rfl⟩ := okWide_bool hu hv
      rfl
    · rename_i hu
      obtain ⟨m, rfl⟩ := okWide_string hu hv
      rfl
    · rename_i hu
      obtain ⟨a, l, c, rfl⟩ := okWide_slice hu hv
      rfl
    · rename_i hu
      obtain ⟨cs, rfl, _⟩ := okWide_struct hu hv
      simp [Ty.val, Ty.isPair, Value.cells]
    · rename_i hu
      unfold Value.okWide at hv
      rw [hu] at hv
      obtain ⟨cs, rfl, _⟩ := hv
      simp [Ty.val, Ty.isPair, Value.cells]
    · cases h

section
variable {H : Type} {enc : TypeId × Value → H} {W : World} {spare : Nat → Bool} {held : Bool}

theorem open_args (n : Nat) : (Ts : List Nat) → (ts : List Ty) → shpL P n Ts ts = true → ∀ (vs : List Value) (ds : List (DataW H)) (ps : List MemPlace) (b0 : Nat),
    (∀ (j : Nat) T v, Ts[j]? = some T → vs[j]? = some v → Value.okWide P W .any b0 T v) → DataW.TrodAll enc P W 0 spare held Ts vs ds ps →
    ∃ x : denL ts, ArgsRep P W (fun b => b < W.heap.size) ts vs x ∧ wfL ts x
  | [], [], _, vs, ds, ps, b0, _, h => by
    obtain ⟨rfl, _⟩ := trodAll_nil h
    exact ⟨(), rfl, trivial⟩
  | [T], [t], hs, vs, ds, ps, b0, hv, h => by
    obtain ⟨v, vs', d, ds', p, q, rfl, rfl, rfl, h1, h2⟩ := trodAll_cons h
    obtain ⟨rfl, _⟩ := trodAll_nil h2
    simp only [shpL, Bool.and_true] at hs
    obtain ⟨fuel, h1⟩ := h1
    obtain ⟨x, k1, k2⟩ := open_ty n T t hs fuel _ d p h1
    exact ⟨x, ⟨_, by rw [← shp_val hs (hv 0 T v rfl rfl)], k1⟩, k2⟩
  | T :: U :: Ts, t :: u :: ts, hs, vs, ds, ps, b0, hv, h => by
    obtain ⟨v, vs', d, ds', p, q, rfl, rfl, rfl, h1, h2⟩ := trodAll_cons h
    rw [shpL] at hs
    simp only [Bool.and_eq_true] at hs
    obtain ⟨hs1, hs2⟩ := hs
    obtain ⟨fuel, h1⟩ := h1
    obtain ⟨x, k1, k2⟩ := open_ty n T t hs1 fuel _ d p h1
    obtain ⟨y, k3, k4⟩ := open_args n (U :: Ts) (u :: ts) hs2 vs' ds' q b0 (fun j T' v' hT hv' => hv (j + 1) T' v' (by simpa using hT) (by simpa using hv')) h2
    exact ⟨(x, y), ⟨v.cells.toList, vs', by rw [← shp_val hs1 (hv 0 T v rfl rfl)], k1, k3⟩, k2, k4⟩
  | [], _ :: _, hs, _, _, _, _, _, _ => by simp [shpL] at hs
  | _ :: _, [], hs, _, _, _, _, _, _ => by simp [shpL] at hs
  | [_], _ :: _ :: _, hs, _, _, _, _, _, _ => by simp [shpL] at hs
  | _ :: _ :: _, [_], hs, _, _, _, _, _, _ => by simp [shpL] at hs

theorem trodAll_stays {W' : World} (hl : laidOutB P = true) (hb : Below W.heap.size W W') : (Ts : List Nat) → (∀ T ∈ Ts, P.readableRec T = true ∧ T < P.types.size) → ∀ (vs : List Value) (ds : List (DataW H)) (ps : List MemPlace),
    DataW.TrodAll enc P W 0 (fun _ => true) true Ts vs ds ps → (∀ x ∈ ps, x.block < W.heap.size) → DataW.TrodAll enc P W' 0 (fun b => decide (b < W.heap.size)) true Ts vs ds ps
  | [], _, vs, ds, ps, h, _ => by
    obtain ⟨rfl, rfl, rfl⟩ := trodAll_nil h
    rfl
  | T :: Ts, hT, vs, ds, ps, h, hlt => by
    obtain ⟨v, vs', d, ds', p, q, rfl, rfl, rfl, h1, h2⟩ := trodAll_cons h
    obtain ⟨g1, g2⟩ := hT T (List.mem_cons_self ..)
    refine ⟨p, q, Below.trod hl g1 g2 h1 hb (fun x hx => hlt x (List.mem_append_left _ hx)), ?_, rfl⟩
    exact trodAll_stays hl hb Ts (fun T' h' => hT T' (List.mem_cons_of_mem _ h')) vs' ds' q h2 (fun x hx => hlt x (List.mem_append_right _ hx))
end

theorem Keeps.below {w w' : World} (h : Keeps w w') : Below w.heap.size w w' := ⟨h.os, h.tape, h.output, h.size, h.block⟩

theorem law_lifted {C : Checked} {os : Os} {f : FuncId} {fn : Func} {s : ChangeSpec} {ins : List Ty} {Ts : List Nat} {tb : Nat} {g : Nat → denL ins → Option Bool} {nn : Nat} {apart : Bool}
    {H : Type} {enc : TypeId × Value → H}
    (own : ownKnob C.prog.godebug = none) (started : os.Started) (noInit : C.prog.inits.idxOf? f = none) (hfn : C.prog.funcs[f]? = some fn)
    (witness : ∃ (w : World) (tape : Tape) (i : Input), w.os = os ∧ (w.forCall tape i).Shaped C.prog ∧ i.vars = [] ∧ Input.okWide C.prog (w.forCall tape i) .any w.heap.size f i ∧
      s.pre6 enc C.prog fn [] apart (w.forCall tape i).memory i.args ∧ ({} : Assume).holds C.prog (lone (Frame.enter C.prog f i.args .normal) [] (w.forCall tape i)))
    (hpar : fn.params.toList = Ts) (hres : fn.resultTypes = #[tb]) (hb : C.prog.underlying tb = some .bool) (hl : laidOutB C.prog = true)
    (hsh : shpL C.prog nn Ts ins = true) (hrd : (Ts.all fun T => C.prog.readableRec T && decide (T < C.prog.types.size)) = true) (hvars : s.vars = [])
    (hspec : ∀ (ds : List (DataW H)), ds.length = Ts.length → s.fn H ds = { results := [.lit (.bool true)], args := ds })
    (hcon : ∀ n, ConOK C.prog f ⟨ins, [], [.bool], fun x _ => g n x, false⟩)
    (hplain : ∀ x, wfL ins x → ∃ n, g n x = some true) :
    ReturnsInHanded {} C os f .any (s.pre6 enc C.prog fn [] apart) (s.post enc C.prog fn apart true false false) := by
  refine returnsInHanded_of_change own started noInit hfn witness ?_
  intro W base args ds gs before hval hW _ _
  have hW' := hW
  obtain ⟨p, q, hA, hV, rfl, _, _⟩ := hW
  rw [hvars] at hV
  have hgs : gs = [] ∧ q = [] := by
    cases gs with
    | nil => exact ⟨rfl, hV⟩
    | cons a b => simp [DataW.TrodVars] at hV
  obtain ⟨rfl, rfl⟩ := hgs
  rw [hpar] at hA
  have hlen : ds.length = Ts.length := by
    have : ∀ (Ts : List Nat) (vs : List Value) (ds : List (DataW H)) ps, DataW.TrodAll enc C.prog W 0 (fun _ => true) true Ts vs ds ps → ds.length = Ts.length := by
      intro Ts
      induction Ts with
      | nil => intro vs ds ps h; obtain ⟨_, rfl, _⟩ := trodAll_nil h; rfl
      | cons T Ts ih =>
        intro vs ds ps h
        obtain ⟨v, vs', d, ds', p, q, rfl, rfl, rfl, h1, h2⟩ := trodAll_cons h
        simp [ih _ _ _ h2]
    exact this _ _ _ _ hA
  obtain ⟨x, hx, hwf⟩ := open_args nn Ts ins hsh args.toList ds p base (fun j T v hT hv => by
    refine hval j T v ?_ (by simpa using hv)
    have : fn.params.toList[j]? = some T := by rw [hpar]; exact hT
    simpa using this) hA
  obtain ⟨n, hn⟩ := hplain x hwf
  obtain ⟨_, hc⟩ := hcon n
  have hcall := hc W _ args.toList [] x () true hx rfl hn
  simp only [List.append_nil, Array.toArray_toList] at hcall
  refine hcall.mono ?_
  rintro e w' ⟨v, rfl, hk, hr, _⟩
  obtain ⟨cs, rfl, hr⟩ := hr
  simp only [Rep] at hr
  subst hr
  have hbl := hk.below
  refine ⟨_, rfl, ds, [], p ++ [], [], p, [], hW', ?_, ?_, ?_, ?_, fun h => (by cases h)⟩
  · rw [hres]
    have : s.fn H (ds ++ []) = { results := [.lit (.bool true)], args := ds } := by rw [List.append_nil]; exact hspec ds hlen
    rw [this]
    exact trodAll_mk1 (shut_bool hb true)
  · have : s.fn H (ds ++ []) = { results := [.lit (.bool true)], args := ds } := by rw [List.append_nil]; exact hspec ds hlen
    rw [this, hpar]
    refine trodAll_stays hl hbl Ts (fun T hT => ?_) _ _ _ hA (fun x hx => hW'.lt x (List.mem_append_left _ hx))
    have := List.all_eq_true.1 hrd T hT
    simpa using this
  · have : s.fn H (ds ++ []) = { results := [.lit (.bool true)], args := ds } := by rw [List.append_nil]; exact hspec ds hlen
    rw [this, hvars]
    rfl
  · exact hbl.frame _

end Go.Abs

set_option linter.unusedSimpArgs false
set_option linter.unusedVariables false
namespace Go.Abs
open Go

theorem wrap_id {x : Int} (h1 : -9223372036854775808 ≤ x) (h2 : x ≤ 9223372036854775807) : IntKind.wrap .i64 x = x := by
  simp [IntKind.wrap, IntKind.bits, IntKind.signed]
  omega

theorem wrap_lo (x : Int) : -9223372036854775808 ≤ IntKind.wrap .i64 x := by
  simp [IntKind.wrap, IntKind.bits, IntKind.signed]
  omega
theorem wrap_hi (x : Int) : IntKind.wrap .i64 x ≤ 9223372036854775807 := by
  simp [IntKind.wrap, IntKind.bits, IntKind.signed]
  omega

theorem geti_nat {α : Type} (l : List α) (i : Nat) : geti l (i : Int) = l[i]? := by simp [geti]
theorem geti_neg {α : Type} {l : List α} {i : Int} (h : i < 0) : geti l i = none := by
  unfold geti
  rw [if_neg (by omega)]
theorem geti_of {α : Type} {l : List α} {i : Int} (h0 : 0 ≤ i) (h1 : i < (l.length : Int)) : geti l i = some (l[i.toNat]'(by omega)) := by
  unfold geti
  rw [if_pos h0, List.getElem?_eq_getElem]
theorem seti_nat {α : Type} (l : List α) (i : Nat) (x : α) (h : i < l.length) : seti l (i : Int) x = some (l.set i x) := by
  unfold seti
  rw [if_pos ⟨by omega, by simpa using h⟩]
  simp
theorem cut_nat {α : Type} (l : List α) (i j : Nat) (h : i ≤ j) (hj : j ≤ l.length) : cut l (i : Int) (j : Int) = some ((l.take j).drop i) := by
  unfold cut
  rw [if_pos ⟨by omega, by omega, by omega⟩]
  simp
theorem cut_zero {α : Type} (l : List α) (j : Nat) (hj : j ≤ l.length) : cut l 0 (j : Int) = some (l.take j) := by
  have := cut_nat l 0 j (Nat.zero_le _) hj
  simpa using this
theorem chk_ok {n : Nat} (h : n ≤ 4294967296) : chk n = some () := by unfold chk most; rw [if_pos h]
theorem chki_ok {n : Int} (h0 : 0 ≤ n) (h : n ≤ 4294967296) : chki n = some () := by
  unfold chki most
  rw [if_pos ⟨h0, by simpa using h⟩]

theorem part_false {α : Type} (m : Option α) (d : α) : part false m d = some d := rfl

section
variable {D Ks R : Type} {body : D → (D → Option R) → Ks → Option R} {ks : Ks}

/-- A loop, by a relation between what stands in the slots and the result, and a measure. -/
theorem loop_rule (I : D → Option R → Prop) (μ : D → Nat)
    (h : ∀ d r, I d r → ∀ again, (∀ d' r', I d' r' → μ d' < μ d → again d' = r') → body d again ks = r) :
    ∀ (n : Nat) (d : D) (r : Option R), I d r → μ d < n → loopG body n d ks = r := by
  intro n
  induction n with
  | zero => intro d r _ hn; omega
  | succ n ih =>
    intro d r hI hn
    exact h d r hI _ fun d' r' hI' hm => ih d' r' hI' (by omega)

/-- A loop over a list, with what is gathered. -/
theorem list_loop {α A : Type} {n : Nat} (l : List α) (F : Nat → A → D) (G : Nat → A → List α → Option R) (Inv : Nat → A → Prop) (hl : l.length ≤ maxLen)
    (hs : ∀ i acc x r, i < l.length → l[i]? = some x → l.drop i = x :: r → geti l (i : Int) = some x → decide ((i : Int) < (l.length : Int)) = true → IntKind.wrap .i64 ((i : Int) + 1) = ((i + 1 : Nat) : Int) → Inv i acc →
      ∀ again, (∀ acc', Inv (i + 1) acc' → again (F (i + 1) acc') = G (i + 1) acc' r) → body (F i acc) again ks = G i acc (x :: r))
    (he : ∀ acc, decide ((l.length : Int) < (l.length : Int)) = false → Inv l.length acc → ∀ again, body (F l.length acc) again ks = G l.length acc [])
    (acc : A) (h0 : Inv 0 acc) (hn : l.length < n) : loopG body n (F 0 acc) ks = G 0 acc l := by
  have key : ∀ (m i : Nat) (acc : A), i ≤ l.length → Inv i acc → l.length - i < m → loopG body m (F i acc) ks = G i acc (l.drop i) := by
    intro m
    induction m with
    | zero => intro i acc _ _ h; omega
    | succ m ih =>
      intro i acc hi hI hm
      rw [loopG]
      by_cases h : i = l.length
      · subst h
        rw [List.drop_length]
        exact he acc (by simp) hI _
      · have hlt : i < l.length := by omega
        have hd : l.drop i = l[i] :: l.drop (i + 1) := List.drop_eq_getElem_cons hlt
        rw [hd]
        refine hs i acc l[i] (l.drop (i + 1)) hlt (List.getElem?_eq_getElem hlt) hd (by rw [geti_nat, List.getElem?_eq_getElem hlt]) (by simpa using hlt) (by rw [wrap_id] <;> unfold maxLen at hl <;> omega) hI _ fun acc' hI' => ?_
        exact ih (i + 1) acc' (by omega) hI' (by omega)
  have := key n 0 acc (Nat.zero_le _) h0 (by omega)
  simpa using this

theorem list_loop0 {α : Type} {n : Nat} (l : List α) (F : Nat → D) (G : Nat → List α → Option R) (hl : l.length ≤ maxLen)
    (hs : ∀ i x r, i < l.length → l[i]? = some x → l.drop i = x :: r → geti l (i : Int) = some x → decide ((i : Int) < (l.length : Int)) = true → IntKind.wrap .i64 ((i : Int) + 1) = ((i + 1 : Nat) : Int) →
      ∀ again, again (F (i + 1)) = G (i + 1) r → body (F i) again ks = G i (x :: r))
    (he : decide ((l.length : Int) < (l.length : Int)) = false → ∀ again, body (F l.length) again ks = G l.length [])
    (hn : l.length < n) : loopG body n (F 0) ks = G 0 l :=
  list_loop (A := Unit) l (fun i _ => F i) (fun i _ r => G i r) (fun _ _ => True) hl (fun i _ x r h1 h2 h3 h4 h5 h6 _ again ih => hs i x r h1 h2 h3 h4 h5 h6 again (ih () trivial)) (fun _ h _ again => he h again) () trivial hn

/-- A loop over the numbers below one. -/
theorem count_loop {A : Type} {n : Nat} (len : Nat) (F : Nat → A → D) (G : Nat → A → Option R) (Inv : Nat → A → Prop) (hl : len ≤ maxLen)
    (hs : ∀ i acc, i < len → decide ((i : Int) < (len : Int)) = true → IntKind.wrap .i64 ((i : Int) + 1) = ((i + 1 : Nat) : Int) → Inv i acc →
      ∀ again, (∀ acc', Inv (i + 1) acc' → again (F (i + 1) acc') = G (i + 1) acc') → body (F i acc) again ks = G i acc)
    (he : ∀ acc, decide ((len : Int) < (len : Int)) = false → Inv len acc → ∀ again, body (F len acc) again ks = G len acc)
    (acc : A) (h0 : Inv 0 acc) (hn : len < n) : loopG body n (F 0 acc) ks = G 0 acc := by
  have key : ∀ (m i : Nat) (acc : A), i ≤ len → Inv i acc → len - i < m → loopG body m (F i acc) ks = G i acc := by
    intro m
    induction m with
    | zero => intro i acc _ _ h; omega
    | succ m ih =>
      intro i acc hi hI hm
      rw [loopG]
      by_cases h : i = len
      · subst h
        exact he acc (by simp) hI _
      · have hlt : i < len := by omega
        refine hs i acc hlt (by simpa using hlt) (by rw [wrap_id] <;> unfold maxLen at hl <;> omega) hI _ fun acc' hI' => ?_
        exact ih (i + 1) acc' (by omega) hI' (by omega)
  exact key n 0 acc (Nat.zero_le _) h0 (by omega)
end

theorem cast_pred {n : Nat} (h : 0 < n) (hm : n ≤ maxLen) : IntKind.wrap .i64 ((n : Int) - 1) = ((n - 1 : Nat) : Int) := by
  unfold maxLen at hm
  rw [wrap_id] <;> omega

theorem bif_eq {α : Type} (b : Bool) (x y : α) : (bif b then x else y) = if b = true then x else y := by cases b <;> rfl

end Go.Abs
