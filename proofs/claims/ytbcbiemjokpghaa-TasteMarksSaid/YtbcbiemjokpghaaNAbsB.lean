/- What it means that a world and a frame are as an abstract state says. -/
import Derived.Laws.AppendOwn
import Derived.OwnWalk
import Derived.RangeFuncSeq
import Derived.Test.YtbcbiemjokpghaaNAbsA
set_option linter.unusedSimpArgs false
set_option linter.unusedVariables false
namespace Go.Abs
open Go

/-! Maps. -/
theorem nbeq (a b : Nat) : Nat.beq a b = decide (a = b) := by
  rw [Bool.eq_iff_iff]; simp [Nat.beq_eq]

namespace Map
variable {α β : Type}
theorem get_set (m : List (Nat × α)) (k : Nat) (v : α) (k' : Nat) : get (set m k v) k' = if k = k' then some v else get m k' := by
  induction m with
  | nil => by_cases h : k = k' <;> simp [set, get, nbeq, h]
  | cons p r ih =>
    obtain ⟨q, u⟩ := p
    simp only [set, nbeq]
    by_cases h1 : k.blt q = true
    · simp only [h1, cond_true, get, nbeq]
      by_cases h : k = k' <;> simp [h]
    · simp only [h1, cond_false]
      by_cases h2 : q = k
      · subst h2
        by_cases h : q = k' <;> simp [h, get, nbeq]
      · simp only [h2, decide_false, cond_false, get, ih, nbeq]
        by_cases h : k = k'
        · subst h
          simp [h2]
        · simp [h]

theorem get_map (f : α → β) (m : List (Nat × α)) (k : Nat) : get (m.map fun p => (p.1, f p.2)) k = (get m k).map f := by
  induction m with
  | nil => rfl
  | cons p r ih =>
    obtain ⟨q, u⟩ := p
    simp only [List.map_cons, get, ih]
    cases Nat.beq q k <;> rfl

theorem get_filter (f : Nat → Bool) (m : List (Nat × α)) (k : Nat) : get (m.filter fun p => f p.1) k = if f k then get m k else none := by
  induction m with
  | nil => simp [get]
  | cons p r ih =>
    obtain ⟨q, u⟩ := p
    simp only [List.filter_cons]
    by_cases hq : q = k
    · subst hq
      cases hf : f q <;> simp [get, ih, hf, nbeq]
    · cases hf : f q <;> simp [get, ih, hq, nbeq]
end Map

/-! What data look like in memory. -/

def Ty.val (t : Ty) (vs : List Value) : Value := if t.isPair then .agg vs.toArray else vs.headD undef

def chunk (l : List Value) (off n : Nat) : List Value := (l.drop off).take n

structure Keeps (w w' : World) : Prop where
  os : w'.os = w.os
  tape : w'.tape = w.tape
  output : w'.output = w.output
  size : w.heap.size ≤ w'.heap.size
  block : ∀ b, b < w.heap.size → w'.heap[b]? = w.heap[b]?

theorem Keeps.refl (w : World) : Keeps w w := ⟨rfl, rfl, rfl, Nat.le_refl _, fun _ _ => rfl⟩
theorem Keeps.trans {w w1 w2 : World} (h : Keeps w w1) (h' : Keeps w1 w2) : Keeps w w2 :=
  ⟨h'.os.trans h.os, h'.tape.trans h.tape, h'.output.trans h.output, Nat.le_trans h.size h'.size,
    fun b hb => (h'.block b (Nat.lt_of_lt_of_le hb h.size)).trans (h.block b hb)⟩
theorem Keeps.alloc (w : World) (o : Obj) : Keeps w (w.alloc o) := ⟨rfl, rfl, rfl, by simp, fun b hb => RowKit.Below.heap_alloc w o b hb⟩
theorem Keeps.drew (w : World) : Keeps w w.drew := ⟨rfl, rfl, rfl, Nat.le_refl _, fun _ _ => rfl⟩

/-- Some blocks are as they were. -/
structure Ext (ok : Nat → Prop) (w w' : World) : Prop where
  size : w.heap.size ≤ w'.heap.size
  block : ∀ b, ok b → b < w.heap.size → w'.heap[b]? = w.heap[b]?

theorem Keeps.ext {w w' : World} (h : Keeps w w') (ok : Nat → Prop) : Ext ok w w' := ⟨h.size, fun b _ hb => h.block b hb⟩

/-- What is ok, as far as it is there. -/
def Sub (w : World) (ok ok' : Nat → Prop) : Prop := ∀ b, ok b → b < w.heap.size → ok' b

theorem Sub.refl (w : World) (ok : Nat → Prop) : Sub w ok ok := fun _ h _ => h

theorem Ext.trans {ok ok' : Nat → Prop} {w w1 w2 : World} (h : Ext ok w w1) (h' : Ext ok' w1 w2) (hok : Sub w ok ok') : Ext ok w w2 :=
  ⟨Nat.le_trans h.size h'.size, fun b hb hl => (h'.block b (hok b hb hl) (Nat.lt_of_lt_of_le hl h.size)).trans (h.block b hb hl)⟩

theorem Sub.trans {w w1 : World} {ok ok1 ok2 : Nat → Prop} (hs : w.heap.size ≤ w1.heap.size) (h : Sub w ok ok1) (h' : Sub w1 ok1 ok2) : Sub w ok ok2 :=
  fun b hb hl => h' b (h b hb hl) (Nat.lt_of_lt_of_le hl hs)

/-- A function with a body. -/
def Bodied (P : Program) (f : Nat) : Prop := ∃ fn, P.funcs[f]? = some fn ∧ (fn.name == "runtime.NumGoroutine") = false ∧ fn.body.isNone = false

def newOk (ok : Nat → Prop) (w : World) (b : Nat) : Prop := ok b ∨ w.heap.size ≤ b

/-- An iterator takes a step: its own blocks S (which may be written), all that it has made A. -/
structure Steps (A S : Nat → Prop) (w : World) (A' S' : Nat → Prop) (w' : World) : Prop where
  os : w'.os = w.os
  tape : w'.tape = w.tape
  output : w'.output = w.output
  size : w.heap.size ≤ w'.heap.size
  block : ∀ b, b < w.heap.size → ¬ S b → w'.heap[b]? = w.heap[b]?
  A1 : ∀ b, A b → A' b
  A2 : ∀ b, A' b → A b ∨ w.heap.size ≤ b
  A3 : ∀ b, A' b → b < w'.heap.size
  S2 : ∀ b, S' b → S b ∨ w.heap.size ≤ b
  SA : ∀ b, S' b → A' b

/-- What a round keeps of what the iterator has, and of what it hangs on. -/
structure KeepsY (K : Nat → Prop) (w w' : World) : Prop where
  os : w'.os = w.os
  tape : w'.tape = w.tape
  output : w'.output = w.output
  size : w.heap.size ≤ w'.heap.size
  block : ∀ b, b < w.heap.size → K b → w'.heap[b]? = w.heap[b]?

/-- The function g with what it has captured yields xs, to whatever loop. J: what holds between two rounds; Jx: behind a round that has said 'no more'. -/
def SeqOK {α : Type} (P : Program) (AR : World → (Nat → Prop) → Array Value → α → Prop) (g : FuncId) (lb : Array Value) (w : World) (ok : Nat → Prop) (xs : List α) : Prop :=
  ∀ (l : Nat) (J : Nat → (Nat → Prop) → (Nat → Prop) → World → Prop) (Jx : (Nat → Prop) → (Nat → Prop) → World → Prop),
    (∀ k A S W A' S' W', J k A S W → Steps A S W A' S' W' → J k A' S' W') → (∀ A S W A' S' W', Jx A S W → Steps A S W A' S' W' → Jx A' S' W') →
    (∀ k x A S W as, J k A S W → xs[k]? = some x → (∀ b, S b → A b) → (∀ b, A b → w.heap.size ≤ b ∧ b < W.heap.size) → w.heap.size ≤ W.heap.size → AR W (fun b => (ok b ∧ b < w.heap.size) ∨ (A b ∧ ¬ S b)) as x →
      YieldAt Fence.wide 5 P l as W fun e W' => KeepsY (fun b => (ok b ∧ b < w.heap.size) ∨ A b) W W' ∧
        ((e = .returned (.bool true) ∧ J (k + 1) A S W') ∨ (e = .returned (.bool false) ∧ Jx A S W'))) →
    J 0 (fun _ => False) (fun _ => False) w →
    Calls P g (#[.func (.yield l) #[] #[]] ++ lb) w fun e W' => (∃ v, e = .returned v) ∧ ((∃ A S, J xs.length A S W') ∨ (∃ A S, Jx A S W'))

/-- The entries of a map. -/
def EntRep (K V : List Value → Prop) (kv vv : List Value → Value) (x : MapEntry) : Prop := (∃ ks, x.key = kv ks ∧ K ks) ∧ ∃ vs, x.val = vv vs ∧ V vs

/-- The cells vs read as d, in blocks that are ok. -/
def Rep (P : Program) : (t : Ty) → World → (Nat → Prop) → List Value → t.den → Prop
  | .int k, _, _, vs, n => vs = [.int k n]
  | .bool, _, _, vs, b => vs = [.bool b]
  | .str, _, _, vs, s => vs = [.string ⟨⟨s⟩⟩]
  | .unit, _, _, vs, _ => vs = []
  | .slice e, w, ok, vs, l => ∃ a cap, vs = [.slice a l.length cap] ∧ l.length ≤ cap ∧ (l = [] ∨ ∃ b off cs T fr, a = some ⟨b, off, none⟩ ∧ ok b ∧
      w.heap[b]? = some (.cells cs T fr) ∧ off + l.length * e.sz ≤ cs.size ∧ ∀ i x, l[i]? = some x → Rep P e w ok (chunk cs.toList (off + i * e.sz) e.sz) x)
  | .pair a b, w, ok, vs, (x, y) => Rep P a w ok (vs.take a.sz) x ∧ Rep P b w ok (vs.drop a.sz) y
  | .fn1 a r, w, ok, vs, f => ∃ fid first cap, vs = [.func (.func fid) first cap] ∧ Bodied P fid ∧ ∀ w' (ok' : Nat → Prop), Ext ok w w' → Sub w ok ok' →
      ∀ xs x, Rep P a w' ok' xs x → ∀ y, f x = some y → Calls P fid (first ++ #[a.val xs] ++ cap) w' fun e w'' =>
        ∃ ys, e = .returned (r.val ys) ∧ Keeps w' w'' ∧ Rep P r w'' (newOk ok' w') ys y
  | .fn2 a a' r, w, ok, vs, f => ∃ fid first cap, vs = [.func (.func fid) first cap] ∧ Bodied P fid ∧ ∀ w' (ok' : Nat → Prop), Ext ok w w' → Sub w ok ok' →
      ∀ xs x xs' x', Rep P a w' ok' xs x → Rep P a' w' ok' xs' x' → ∀ y, f x x' = some y → Calls P fid (first ++ #[a.val xs, a'.val xs'] ++ cap) w' fun e w'' =>
        ∃ ys, e = .returned (r.val ys) ∧ Keeps w' w'' ∧ Rep P r w'' (newOk ok' w') ys y
  | .seq e, w, ok, vs, xs => ∃ g lb, vs = [.func (.func g) #[] lb] ∧ Bodied P g ∧ ∀ w' (ok' : Nat → Prop), Ext ok w w' → Sub w ok ok' →
      SeqOK P (fun W o as x => ∃ cs, as = #[e.val cs] ∧ Rep P e W o cs x) g lb w' ok' xs
  | .seq2 a b, w, ok, vs, xs => ∃ g lb, vs = [.func (.func g) #[] lb] ∧ Bodied P g ∧ ∀ w' (ok' : Nat → Prop), Ext ok w w' → Sub w ok ok' →
      SeqOK P (fun W o as x => ∃ cs ds, as = #[a.val cs, b.val ds] ∧ Rep P a W o cs x.1 ∧ Rep P b W o ds x.2) g lb w' ok' xs
  | .map k v, w, ok, vs, l => ∃ b es clock, vs = [.map (some b)] ∧ ok b ∧ w.heap[b]? = some (.map es clock) ∧ es.size = l.length ∧
      ∀ (i : Nat) (x : k.den × v.den) (e : MapEntry), l[i]? = some x → es[i]? = some e → (∃ ks, e.key = k.val ks ∧ Rep P k w ok ks x.1) ∧ ∃ us, e.val = v.val us ∧ Rep P v w ok us x.2

variable {P : Program}

theorem Rep.mono : (t : Ty) → {w w' : World} → {ok ok' : Nat → Prop} → {vs : List Value} → {d : t.den} → Ext ok w w' → Sub w ok ok' → Rep P t w ok vs d → Rep P t w' ok' vs d
  | .int _, _, _, _, _, _, _, _, _, h => h
  | .bool, _, _, _, _, _, _, _, _, h => h
  | .str, _, _, _, _, _, _, _, _, h => h
  | .unit, _, _, _, _, _, _, _, _, h => h
  | .slice e, w, w', ok, ok', vs, l, hx, hok, h => by
    obtain ⟨a, cap, h1, h2, h3⟩ := h
    refine ⟨a, cap, h1, h2, ?_⟩
    rcases h3 with h3 | ⟨b, off, cs, T, fr, h4, h5, h6, h7, h8⟩
    · exact .inl h3
    · refine .inr ⟨b, off, cs, T, fr, h4, hok b h5 (Array.getElem?_eq_some_iff.1 h6).1, ?_, h7, fun i x hi => Rep.mono e hx hok (h8 i x hi)⟩
      rw [hx.block b h5 (Array.getElem?_eq_some_iff.1 h6).1]; exact h6
  | .pair a b, w, w', ok, ok', vs, (x, y), hx, hok, h => ⟨Rep.mono a hx hok h.1, Rep.mono b hx hok h.2⟩
  | .fn1 a r, w, w', ok, ok', vs, f, hx, hok, h => by
    obtain ⟨fid, first, cap, h1, h2, h3⟩ := h
    exact ⟨fid, first, cap, h1, h2, fun w2 ok2 hx2 hok2 => h3 w2 ok2 (hx.trans hx2 hok) (hok.trans hx.size hok2)⟩
  | .fn2 a a' r, w, w', ok, ok', vs, f, hx, hok, h => by
    obtain ⟨fid, first, cap, h1, h2, h3⟩ := h
    exact ⟨fid, first, cap, h1, h2, fun w2 ok2 hx2 hok2 => h3 w2 ok2 (hx.trans hx2 hok) (hok.trans hx.size hok2)⟩
  | .seq e, w, w', ok, ok', vs, xs, hx, hok, h => by
    obtain ⟨g, lb, h1, h2, h3⟩ := h
    exact ⟨g, lb, h1, h2, fun w2 ok2 hx2 hok2 => h3 w2 ok2 (hx.trans hx2 hok) (hok.trans hx.size hok2)⟩
  | .seq2 a b, w, w', ok, ok', vs, xs, hx, hok, h => by
    obtain ⟨g, lb, h1, h2, h3⟩ := h
    exact ⟨g, lb, h1, h2, fun w2 ok2 hx2 hok2 => h3 w2 ok2 (hx.trans hx2 hok) (hok.trans hx.size hok2)⟩
  | .map k v, w, w', ok, ok', vs, l, hx, hok, h => by
    obtain ⟨b, es, clock, h1, h2, h3, h4, h5⟩ := h
    have hb := (Array.getElem?_eq_some_iff.1 h3).1
    refine ⟨b, es, clock, h1, hok b h2 hb, (hx.block b h2 hb).trans h3, h4, fun i x e hi he => ?_⟩
    obtain ⟨⟨ks, g1, g2⟩, us, g3, g4⟩ := h5 i x e hi he
    exact ⟨⟨ks, g1, Rep.mono k hx hok g2⟩, us, g3, Rep.mono v hx hok g4⟩

theorem Rep.len : (t : Ty) → {w : World} → {ok : Nat → Prop} → {vs : List Value} → {d : t.den} → Rep P t w ok vs d → vs.length = t.sz
  | .int _, _, _, _, _, h => by simp only [Rep] at h; subst h; rfl
  | .bool, _, _, _, _, h => by simp only [Rep] at h; subst h; rfl
  | .str, _, _, _, _, h => by simp only [Rep] at h; subst h; rfl
  | .unit, _, _, _, _, h => by simp only [Rep] at h; subst h; rfl
  | .slice e, _, _, _, _, h => by obtain ⟨a, cap, h1, _⟩ := h; subst h1; rfl
  | .fn1 a r, _, _, _, _, h => by obtain ⟨fid, first, cap, h1, _⟩ := h; subst h1; rfl
  | .fn2 a a' r, _, _, _, _, h => by obtain ⟨fid, first, cap, h1, _⟩ := h; subst h1; rfl
  | .seq _, _, _, _, _, h => by obtain ⟨fid, cap, h1, _⟩ := h; subst h1; rfl
  | .seq2 _ _, _, _, _, _, h => by obtain ⟨fid, cap, h1, _⟩ := h; subst h1; rfl
  | .map _ _, _, _, _, _, h => by obtain ⟨b, es, clock, h1, _⟩ := h; subst h1; rfl
  | .pair a b, w, ok, vs, (x, y), h => by
    have h1 := Rep.len a h.1
    have h2 := Rep.len b h.2
    simp only [List.length_take, List.length_drop] at h1 h2
    simp only [Ty.sz]
    omega

/-- Flat data hang on no memory. -/
theorem Rep.flat : (t : Ty) → {w w' : World} → {ok ok' : Nat → Prop} → {vs : List Value} → {d : t.den} → t.flat = true → Rep P t w ok vs d → Rep P t w' ok' vs d
  | .int _, _, _, _, _, _, _, _, h => h
  | .bool, _, _, _, _, _, _, _, h => h
  | .str, _, _, _, _, _, _, _, h => h
  | .unit, _, _, _, _, _, _, _, h => h
  | .slice e, _, _, _, _, _, _, hf, _ => by simp [Ty.flat] at hf
  | .fn1 a r, _, _, _, _, _, _, hf, _ => by simp [Ty.flat] at hf
  | .fn2 a a' r, _, _, _, _, _, _, hf, _ => by simp [Ty.flat] at hf
  | .seq _, _, _, _, _, _, _, hf, _ => by simp [Ty.flat] at hf
  | .seq2 _ _, _, _, _, _, _, _, hf, _ => by simp [Ty.flat] at hf
  | .map _ _, _, _, _, _, _, _, hf, _ => by simp [Ty.flat] at hf
  | .pair a b, _, _, _, _, _, (x, y), hf, h => by
    simp only [Ty.flat, Bool.and_eq_true] at hf
    exact ⟨Rep.flat a hf.1 h.1, Rep.flat b hf.2 h.2⟩

/-- A value of one cell. -/
def one : Value → Bool
  | .agg _ | .tuple _ => false
  | _ => true

theorem Rep.ones : (t : Ty) → {w : World} → {ok : Nat → Prop} → {vs : List Value} → {d : t.den} → Rep P t w ok vs d → ∀ v ∈ vs, one v = true
  | .int _, _, _, _, _, h => by simp only [Rep] at h; subst h; simp [one]
  | .bool, _, _, _, _, h => by simp only [Rep] at h; subst h; simp [one]
  | .str, _, _, _, _, h => by simp only [Rep] at h; subst h; simp [one]
  | .unit, _, _, _, _, h => by simp only [Rep] at h; subst h; simp
  | .slice e, _, _, _, _, h => by obtain ⟨a, cap, h1, _⟩ := h; subst h1; simp [one]
  | .fn1 a r, _, _, _, _, h => by obtain ⟨fid, first, cap, h1, _⟩ := h; subst h1; simp [one]
  | .fn2 a a' r, _, _, _, _, h => by obtain ⟨fid, first, cap, h1, _⟩ := h; subst h1; simp [one]
  | .seq _, _, _, _, _, h => by obtain ⟨fid, cap, h1, _⟩ := h; subst h1; simp [one]
  | .seq2 _ _, _, _, _, _, h => by obtain ⟨fid, cap, h1, _⟩ := h; subst h1; simp [one]
  | .map _ _, _, _, _, _, h => by obtain ⟨b, es, clock, h1, _⟩ := h; subst h1; simp [one]
  | .pair a b, w, ok, vs, (x, y), h => by
    have h1 := Rep.ones a h.1
    have h2 := Rep.ones b h.2
    intro v hv
    rw [← List.take_append_drop a.sz vs] at hv
    rcases List.mem_append.1 hv with hv | hv
    · exact h1 v hv
    · exact h2 v hv

/-! Values, objects, states. -/

def blockOf : Value → Option Nat
  | .pointer (some a) => some a.block
  | .slice (some a) _ _ => some a.block
  | .map (some b) => some b
  | _ => none

/-- Of each object: its version, the value that names it, and whether it may be written. -/
structure Conc where
  m : Nat → Option (Nat × Value × Bool)
  B : Nat → Prop
  yl : Nat

instance : CoeFun Conc fun _ => Nat → Option (Nat × Value × Bool) := ⟨Conc.m⟩

/-- The world at a call's start (or at a later point from which on all is told), the blocks that its arguments hang on, or new ones; older blocks that may be written (M); the calls that are deferred; the slots as they are. -/
structure Start where
  w : World
  B : Nat → Prop
  M : Nat → Prop
  ds : List Deferred
  tmps : Array Value
  yl : Nat
  lo : Nat

/-- What may not be written is as it was. -/
structure KeepsM (s : Start) (w : World) : Prop where
  os : w.os = s.w.os
  tape : w.tape = s.w.tape
  output : w.output = s.w.output
  size : s.w.heap.size ≤ w.heap.size
  block : ∀ b, b < s.w.heap.size → ¬ s.M b → w.heap[b]? = s.w.heap[b]?

theorem KeepsM.trans {s : Start} {w w' : World} (h : KeepsM s w) (h' : Keeps w w') : KeepsM s w' :=
  ⟨h'.os.trans h.os, h'.tape.trans h.tape, h'.output.trans h.output, Nat.le_trans h.size h'.size,
    fun b hb hm => (h'.block b (Nat.lt_of_lt_of_le hb h.size)).trans (h.block b hb hm)⟩

theorem KeepsM.keeps {s : Start} {w : World} (h : KeepsM s w) (hm : ∀ b, ¬ s.M b) : Keeps s.w w := ⟨h.os, h.tape, h.output, h.size, fun b hb => h.block b hb (hm b)⟩

structure StartOK (s : Start) : Prop where
  up : ∀ b, s.w.heap.size ≤ b → s.B b
  mB : ∀ b, s.M b → s.B b
  ds : ∀ d ∈ s.ds, ∃ D, d = { target := .collected D, args := #[] } ∧ s.w.heap[D]? = some (.deferred (some [])) ∧ ¬ s.B D ∧ s.lo ≤ D
  dn : s.ds.Nodup
  lo : s.lo ≤ s.w.heap.size

def VRel (P : Program) (w : World) (conc : Conc) (ok : Nat → Prop) : AVal → Value → Prop
  | .pure t d, v => ∃ vs, v = t.val vs ∧ Rep P t w ok vs d
  | .nils, v => v = .slice none 0 0
  | .bptr id ver off, v => ∃ cv c ow, conc id = some (cv, c, ow) ∧ ver ≤ cv ∧ one v = true ∧ (ver = cv → ∃ b, c = .pointer (some ⟨b, 0, none⟩) ∧ v = .pointer (some ⟨b, off, none⟩))
  | .pptr t d, v => ∃ b off cs T fr, v = .pointer (some ⟨b, off, none⟩) ∧ ok b ∧ w.heap[b]? = some (.cells cs T fr) ∧ off + t.sz ≤ cs.size ∧ Rep P t w ok (chunk cs.toList off t.sz) d
  | .eptr id ver e i, v => ∃ cv c ow, conc id = some (cv, c, ow) ∧ ver ≤ cv ∧ one v = true ∧ (ver = cv → ∃ b off n cap, c = .slice (some ⟨b, off, none⟩) n cap ∧ 0 ≤ i ∧ v = .pointer (some ⟨b, off + i.toNat * e.sz, none⟩))
  | .hand id ver, v => ∃ cv c ow, conc id = some (cv, c, ow) ∧ ver ≤ cv ∧ one v = true ∧ (ver = cv → v = c)
  | .fref f, v => v = .func (.func f) #[] #[]
  | .junk, _ => True
  | .yld, v => v = .func (.yield conc.yl) #[] #[]

def All2 {α β : Type} (R : α → β → Prop) : List α → List β → Prop
  | [], [] => True
  | a :: l, b :: m => R a b ∧ All2 R l m
  | _, _ => False

def SRel (P : Program) (w : World) (conc : Conc) (ok : Nat → Prop) : SVal → Value → Prop
  | .v a, v => VRel P w conc ok a v
  | .comp l, v => ∃ vs, v = .agg vs.toArray ∧ (∀ v ∈ vs, one v = true) ∧ All2 (VRel P w conc ok) l vs
  | .tup l, v => ∃ vs, v = .tuple vs.toArray ∧ All2 (VRel P w conc ok) l vs

def labs (tmps : Array Value) (L : List (Nat × Bool)) : Prop := ∀ p ∈ L, tmps[p.1]? = some (.bool p.2)

structure SlotRel (P : Program) (w : World) (conc : Conc) (ok : Nat → Prop) (tmps : Array Value) (sl : Slot) (v : Value) : Prop where
  yes : labs tmps sl.L → sl.g = true ∧ SRel P w conc ok sl.s v
  no : ¬ labs tmps sl.L → v = undef

def ORel (P : Program) (w : World) (conc : Conc) (ok : Nat → Prop) (c : Value) (ow : Bool) : AObj → Prop
  | .box t l => ow = true ∧ ∃ b cs T, c = .pointer (some ⟨b, 0, none⟩) ∧ w.heap[b]? = some (.cells cs T (0, 0)) ∧ l.length = t.sz ∧ (∀ v ∈ cs.toList, one v = true) ∧ All2 (VRel P w conc ok) l cs.toList
  | .buf e l => ow = true ∧ ((c = .slice none 0 0 ∧ l = []) ∨ ∃ b off cap cs T, c = .slice (some ⟨b, off, none⟩) l.length cap ∧ w.heap[b]? = some (.cells cs T (0, 0)) ∧ l.length ≤ cap ∧ cap ≤ maxLen ∧
      off + cap * e.sz ≤ cs.size ∧ ∀ i x, l[i]? = some x → Rep P e w ok (chunk cs.toList (off + i * e.sz) e.sz) x)
  | .fbox t d => ow = false ∧ ∃ b cs T fr, c = .pointer (some ⟨b, 0, none⟩) ∧ ok b ∧ w.heap[b]? = some (.cells cs T fr) ∧ t.sz ≤ cs.size ∧ Rep P t w ok (chunk cs.toList 0 t.sz) d
  | .fbuf e l => ow = false ∧ Rep P (.slice e) w ok [c] l
  | .map k v l => ow = true ∧ ∃ b es clock, c = .map (some b) ∧ w.heap[b]? = some (.map es clock) ∧ es.size = l.length ∧
      ∀ (i : Nat) (x : k.den × v.den) (e : MapEntry), l[i]? = some x → es[i]? = some e → (∃ ks, e.key = k.val ks ∧ Rep P k w ok ks x.1) ∧ ∃ us, e.val = v.val us ∧ Rep P v w ok us x.2
  | .fmap k v l => ow = false ∧ Rep P (.map k v) w ok [c] l

/-- Blocks that are no objects of the state. -/
def okOf (conc : Conc) (b : Nat) : Prop := conc.B b ∧ ∀ id ver c, conc id = some (ver, c, true) → blockOf c ≠ some b

structure Mod (P : Program) (w0 : Start) (conc : Conc) (st : ASt) (a : Act) (w : World) : Prop where
  defers : a.defers = w0.ds
  size : a.tmps.size = st.N
  marks : ∀ d sl, Map.get st.slots d = some sl → ∀ p ∈ sl.L, p.1 ∈ st.marks
  slots : ∀ d sl, Map.get st.slots d = some sl → ∃ v, a.tmps[d]? = some v ∧ SlotRel P w conc (okOf conc) a.tmps sl v
  heap : ∀ id ver o, Map.get st.heap id = some (ver, o) → ∃ c ow, conc id = some (ver, c, ow) ∧ ORel P w conc (okOf conc) c ow o
  dead : ∀ id, Map.get st.heap id = none → conc id = none
  inj : ∀ i j vi vj c c' b, conc i = some (vi, c, true) → conc j = some (vj, c', true) → blockOf c = some b → blockOf c' = some b → i = j
  base : ∀ i vi c b, conc i = some (vi, c, true) → blockOf c = some b → (w0.w.heap.size ≤ b ∨ w0.M b) ∧ b < w.heap.size
  keeps : KeepsM w0 w
  cB : conc.B = w0.B
  cY : conc.yl = w0.yl
  okS : StartOK w0
  fixed : ∀ s ∈ st.fixed, a.tmps[s]? = w0.tmps[s]?

theorem Mod.up {P : Program} {w0 : Start} {conc : Conc} {st : ASt} {a : Act} {w : World} (h : Mod P w0 conc st a w) : ∀ b, w0.w.heap.size ≤ b → w0.B b := h.okS.up
theorem Mod.inB {P : Program} {w0 : Start} {conc : Conc} {st : ASt} {a : Act} {w : World} (h : Mod P w0 conc st a w) {i vi b : Nat} {c : Value} (hi : conc i = some (vi, c, true)) (hb : blockOf c = some b) : w0.B b := by
  rcases (h.base i vi c b hi hb).1 with h1 | h1
  · exact h.okS.up b h1
  · exact h.okS.mB b h1

def Models (P : Program) (w0 : Start) (st : ASt) (a : Act) (w : World) : Prop := ∃ conc, Mod P w0 conc st a w

/-! How these carry over. -/

theorem All2.imp {α β : Type} {R S : α → β → Prop} : {l : List α} → {m : List β} → (∀ a b, R a b → S a b) → All2 R l m → All2 S l m
  | [], [], _, _ => trivial
  | _ :: _, _ :: _, h, ⟨h1, h2⟩ => ⟨h _ _ h1, All2.imp h h2⟩
  | [], _ :: _, _, h => h.elim
  | _ :: _, [], _, h => h.elim

theorem All2.length {α β : Type} {R : α → β → Prop} : {l : List α} → {m : List β} → All2 R l m → l.length = m.length
  | [], [], _ => rfl
  | _ :: l, _ :: m, ⟨_, h2⟩ => by simp [All2.length h2]
  | [], _ :: _, h => h.elim
  | _ :: _, [], h => h.elim

theorem All2.append {α β : Type} {R : α → β → Prop} : {l l' : List α} → {m m' : List β} → All2 R l m → All2 R l' m' → All2 R (l ++ l') (m ++ m')
  | [], _, [], _, _, h => h
  | _ :: _, _, _ :: _, _, ⟨h1, h2⟩, h => ⟨h1, All2.append h2 h⟩
  | [], _, _ :: _, _, h, _ => h.elim
  | _ :: _, _, [], _, h, _ => h.elim

theorem All2.take {α β : Type} {R : α → β → Prop} : {l : List α} → {m : List β} → (n : Nat) → All2 R l m → All2 R (l.take n) (m.take n)
  | _, _, 0, _ => by simp [All2]
  | [], [], _ + 1, _ => trivial
  | _ :: _, _ :: _, n + 1, ⟨h1, h2⟩ => ⟨h1, All2.take n h2⟩
  | [], _ :: _, _ + 1, h => h.elim
  | _ :: _, [], _ + 1, h => h.elim

theorem All2.drop {α β : Type} {R : α → β → Prop} : {l : List α} → {m : List β} → (n : Nat) → All2 R l m → All2 R (l.drop n) (m.drop n)
  | _, _, 0, h => h
  | [], [], _ + 1, _ => trivial
  | _ :: _, _ :: _, n + 1, ⟨_, h2⟩ => All2.drop n h2
  | [], _ :: _, _ + 1, h => h.elim
  | _ :: _, [], _ + 1, h => h.elim

theorem All2.get {α β : Type} {R : α → β → Prop} : {l : List α} → {m : List β} → (n : Nat) → (a : α) → All2 R l m → l[n]? = some a → ∃ b, m[n]? = some b ∧ R a b
  | [], [], _, _, _, h => by simp at h
  | _ :: _, b :: _, 0, a, ⟨h1, _⟩, h => by simp at h; subst h; exact ⟨b, rfl, h1⟩
  | _ :: _, _ :: _, n + 1, a, ⟨_, h2⟩, h => by simpa using All2.get n a h2 (by simpa using h)
  | [], _ :: _, _, _, h, _ => h.elim
  | _ :: _, [], _, _, h, _ => h.elim

theorem All2.map {α β : Type} {R S : α → β → Prop} (f : α → α) : {l : List α} → {m : List β} → (∀ a b, R a b → S (f a) b) → All2 R l m → All2 S (l.map f) m
  | [], [], _, _ => trivial
  | _ :: _, _ :: _, h, ⟨h1, h2⟩ => ⟨h _ _ h1, All2.map f h h2⟩
  | [], _ :: _, _, h => h.elim
  | _ :: _, [], _, h => h.elim

/-- Versions grow. -/
def CLe (conc conc' : Conc) : Prop := conc'.yl = conc.yl ∧ ∀ id cv c ow, conc id = some (cv, c, ow) → ∃ cv' c' ow', conc' id = some (cv', c', ow') ∧ (cv < cv' ∨ (cv' = cv ∧ c' = c))

theorem CLe.refl (conc : Conc) : CLe conc conc := ⟨rfl, fun id cv c ow h => ⟨cv, c, ow, h, .inr ⟨rfl, rfl⟩⟩⟩

theorem VRel.mono {w w' : World} {conc conc' : Conc} {ok ok' : Nat → Prop} (hx : Ext ok w w') (hok : Sub w ok ok')
    (hc : CLe conc conc') : (a : AVal) → {v : Value} → VRel P w conc ok a v → VRel P w' conc' ok' a v
  | .pure t d, v, ⟨vs, h1, h2⟩ => ⟨vs, h1, h2.mono t hx hok⟩
  | .nils, v, h => h
  | .bptr id ver off, v, ⟨cv, c, ow, h1, h2, ho, h3⟩ => by
    obtain ⟨cv', c', ow', g1, g2⟩ := hc.2 id cv c ow h1
    refine ⟨cv', c', ow', g1, ?_, ho, fun e => ?_⟩
    · rcases g2 with g2 | ⟨g2, _⟩ <;> omega
    · rcases g2 with g2 | ⟨g2, g3⟩
      · omega
      · subst g3; exact h3 (by omega)
  | .pptr t d, v, ⟨b, off, cs, T, fr, h1, h2, h3, h4, h5⟩ =>
    ⟨b, off, cs, T, fr, h1, hok b h2 (Array.getElem?_eq_some_iff.1 h3).1, (hx.block b h2 (Array.getElem?_eq_some_iff.1 h3).1).trans h3, h4, h5.mono t hx hok⟩
  | .eptr id ver e i, v, ⟨cv, c, ow, h1, h2, ho, h3⟩ => by
    obtain ⟨cv', c', ow', g1, g2⟩ := hc.2 id cv c ow h1
    refine ⟨cv', c', ow', g1, ?_, ho, fun e => ?_⟩
    · rcases g2 with g2 | ⟨g2, _⟩ <;> omega
    · rcases g2 with g2 | ⟨g2, g3⟩
      · omega
      · subst g3; exact h3 (by omega)
  | .hand id ver, v, ⟨cv, c, ow, h1, h2, ho, h3⟩ => by
    obtain ⟨cv', c', ow', g1, g2⟩ := hc.2 id cv c ow h1
    refine ⟨cv', c', ow', g1, ?_, ho, fun e => ?_⟩
    · rcases g2 with g2 | ⟨g2, _⟩ <;> omega
    · rcases g2 with g2 | ⟨g2, g3⟩
      · omega
      · subst g3; exact h3 (by omega)
  | .fref f, v, h => h
  | .junk, _, _ => trivial
  | .yld, v, h => by
    show v = _
    rw [hc.1]
    exact h

theorem SRel.mono {w w' : World} {conc conc' : Conc} {ok ok' : Nat → Prop} (hx : Ext ok w w') (hok : Sub w ok ok')
    (hc : CLe conc conc') : (s : SVal) → {v : Value} → SRel P w conc ok s v → SRel P w' conc' ok' s v
  | .v a, v, h => VRel.mono hx hok hc a h
  | .comp l, v, ⟨vs, h1, h0, h2⟩ => ⟨vs, h1, h0, h2.imp fun a b h => VRel.mono hx hok hc a h⟩
  | .tup l, v, ⟨vs, h1, h2⟩ => ⟨vs, h1, h2.imp fun a b h => VRel.mono hx hok hc a h⟩

theorem ORel.mono {w w' : World} {conc conc' : Conc} {ok ok' : Nat → Prop} {c : Value} {ow : Bool} (hx : Ext ok w w') (hok : Sub w ok ok')
    (hc : CLe conc conc') (hb : ow = true → ∀ b, blockOf c = some b → w'.heap[b]? = w.heap[b]?) : (o : AObj) → ORel P w conc ok c ow o → ORel P w' conc' ok' c ow o
  | .box t l, ⟨h0, b, cs, T, h1, h2, h3, h4, h5⟩ => ⟨h0, b, cs, T, h1, (hb h0 b (by rw [h1]; rfl)).trans h2, h3, h4, h5.imp fun a b h => VRel.mono hx hok hc a h⟩
  | .buf e l, ⟨h0, .inl h⟩ => ⟨h0, .inl h⟩
  | .buf e l, ⟨h0, .inr ⟨b, off, cap, cs, T, h1, h2, h3, h4, h5, h6⟩⟩ =>
    ⟨h0, .inr ⟨b, off, cap, cs, T, h1, (hb h0 b (by rw [h1]; rfl)).trans h2, h3, h4, h5, fun i x hi => (h6 i x hi).mono e hx hok⟩⟩
  | .fbox t d, ⟨h0, b, cs, T, fr, h1, h2, h3, h4, h5⟩ =>
    ⟨h0, b, cs, T, fr, h1, hok b h2 (Array.getElem?_eq_some_iff.1 h3).1, (hx.block b h2 (Array.getElem?_eq_some_iff.1 h3).1).trans h3, h4, h5.mono t hx hok⟩
  | .fbuf e l, ⟨h0, h1⟩ => ⟨h0, h1.mono _ hx hok⟩
  | .map k v l, ⟨h0, b, es, clock, h1, h2, h3, h4⟩ => ⟨h0, b, es, clock, h1, (hb h0 b (by rw [h1]; rfl)).trans h2, h3, fun i x e hi he => by
    obtain ⟨⟨ks, g1, g2⟩, us, g3, g4⟩ := h4 i x e hi he
    exact ⟨⟨ks, g1, g2.mono k hx hok⟩, us, g3, g4.mono v hx hok⟩⟩
  | .fmap k v l, ⟨h0, h1⟩ => ⟨h0, h1.mono _ hx hok⟩

/-- The world has grown. -/
theorem Mod.grow {w0 : Start} {w w' : World} {conc : Conc} {st : ASt} {a : Act} (h : Mod P w0 conc st a w) (hk : Keeps w w') : Mod P w0 conc st a w' where
  defers := h.defers
  size := h.size
  marks := h.marks
  slots := fun d sl hd => by
    obtain ⟨v, h1, h2⟩ := h.slots d sl hd
    exact ⟨v, h1, ⟨fun hl => ⟨(h2.yes hl).1, (h2.yes hl).2.mono (hk.ext _) (Sub.refl _ _) (CLe.refl _)⟩, h2.no⟩⟩
  heap := fun id ver o ho => by
    obtain ⟨c, ow, h1, h2⟩ := h.heap id ver o ho
    exact ⟨c, ow, h1, h2.mono (hk.ext _) (Sub.refl _ _) (CLe.refl _) (fun e b hb => by subst e; exact hk.block b (h.base id ver c b h1 hb).2)⟩
  dead := h.dead
  inj := h.inj
  base := fun i vi c b hi hb => ⟨(h.base i vi c b hi hb).1, Nat.lt_of_lt_of_le (h.base i vi c b hi hb).2 hk.size⟩
  keeps := h.keeps.trans hk
  cB := h.cB
  cY := h.cY
  okS := h.okS
  fixed := h.fixed

theorem put_get (a : Act) (d : Nat) (v : Value) (hd : d < a.tmps.size) : (a.put (some d) v).tmps[d]? = some v := by
  simp [Act.put, hd]
theorem put_get_ne (a : Act) (d : Option Nat) (v : Value) (k : Nat) (h : d ≠ some k) : (a.put d v).tmps[k]? = a.tmps[k]? := by
  cases d with
  | none => rfl
  | some d => simp only [Act.put]; rw [Array.getElem?_setIfInBounds_ne]; intro e; exact h (by rw [e])
theorem put_size (a : Act) (d : Option Nat) (v : Value) : (a.put d v).tmps.size = a.tmps.size := by
  cases d <;> simp [Act.put]
theorem put_defers (a : Act) (d : Option Nat) (v : Value) : (a.put d v).defers = a.defers := by
  cases d <;> rfl

end Go.Abs
