/- Templates: states of a given make, as data; any state that is of the make is one of them. -/
import Derived.Test.YtbcbiemjokpghaaNAbsT
set_option linter.unusedSimpArgs false
set_option linter.unusedVariables false
namespace Go.Abs
open Go

structure Dyn where
  t : Ty
  d : t.den

/-- A cell's make. hole: data. pp: a pointer to data. hand, bptr: of an object of the call's own. -/
inductive CellT where
  | hole (t : Ty)
  | pp (t : Ty)
  | hand (id : Nat)
  | bptr (id off : Nat)
  | nils
  | fref (f : Nat)
  | yld

inductive SlotT where
  | v (c : CellT)
  | comp (l : List CellT)

inductive ObjT where
  | buf (e : Ty)
  | box (t : Ty) (l : List CellT)
  | map (k v : Ty)

structure Templ where
  N : Nat
  tys : List Ty
  slots : List (Nat × SlotT)
  objs : List (Nat × ObjT)
  fx : List Nat

/-- What a scan finds: data, from which object each object of the make comes (none: a slice without memory), and what is to be written no more. -/
structure Sc where
  ds : List Dyn
  srcs : List (Nat × Option Nat)
  ws : W

def Sc.add (x y : Sc) : Sc := ⟨x.ds ++ y.ds, x.srcs ++ y.srcs, x.ws ++ y.ws⟩
def Sc.nil : Sc := ⟨[], [], []⟩

def decCell (E : Env) : CellT → AVal → RM Sc
  | .hole t, a => (peekA E t a).bind fun x => .ret ⟨[⟨t, x.1⟩], [], x.2⟩
  | .pp t, a => (capA E t a).bind fun x => .ret ⟨[⟨t, x.1⟩], [], x.2⟩
  | .hand i, .hand id ver => .obj id fun
    | some (cv, .buf _ _) => bif Nat.beq cv ver then .ret ⟨[], [(i, some id)], []⟩ else .fail
    | some (cv, .map _ _ _) => bif Nat.beq cv ver then .ret ⟨[], [(i, some id)], []⟩ else .fail
    | _ => .fail
  | .hand i, .nils => .ret ⟨[], [(i, none)], []⟩
  | .bptr i off, .bptr id ver off' => .obj id fun
    | some (cv, .box _ _) => bif Nat.beq cv ver && Nat.beq off off' then .ret ⟨[], [(i, some id)], []⟩ else .fail
    | _ => .fail
  | .nils, .nils => .ret .nil
  | .fref f, .fref f' => bif Nat.beq f f' then .ret .nil else .fail
  | .yld, .yld => .ret .nil
  | _, _ => .fail

def decCells (E : Env) : List CellT → List AVal → RM Sc
  | [], [] => .ret .nil
  | c :: l, a :: m => (decCell E c a).bind fun x => (decCells E l m).bind fun y => .ret (x.add y)
  | _, _ => .fail

def decSlot (E : Env) : SlotT → SVal → RM Sc
  | .v (.hole t), s => (peek E t s).bind fun x => .ret ⟨[⟨t, x.1⟩], [], x.2⟩
  | .v c, .v a => decCell E c a
  | .comp l, .comp m => decCells E l m
  | .comp l, .v (.pure t d) => bif t.isPair then decCells E l (explode t d) else .fail
  | _, _ => .fail

def decSlots (E : Env) : List (Nat × SlotT) → RM Sc
  | [] => .ret .nil
  | (d, t) :: r => .slot d fun
    | some ⟨[], _, s⟩ => (decSlot E t s).bind fun x => (decSlots E r).bind fun y => .ret (x.add y)
    | _ => .fail

def decObj (E : Env) (srcs : List (Nat × Option Nat)) (i : Nat) : ObjT → RM Sc
  | .buf e => match Map.get srcs i with
    | some none => .ret ⟨[⟨.slice e, ([] : List e.den)⟩], [], []⟩
    | some (some id) => .obj id fun
      | some (_, .buf e' l) => bif decide (e' = e) then .ret ⟨[⟨.slice e', l⟩], [], []⟩ else .fail
      | _ => .fail
    | none => .fail
  | .box t l => match Map.get srcs i with
    | some (some id) => .obj id fun
      | some (_, .box u cells) => bif decide (u = t) then decCells E l cells else .fail
      | _ => .fail
    | _ => .fail
  | .map k v => match Map.get srcs i with
    | some (some id) => .obj id fun
      | some (_, .map k' v' l) => bif decide (k' = k ∧ v' = v) then .ret ⟨[⟨.map k' v', l⟩], [], []⟩ else .fail
      | _ => .fail
    | _ => .fail

def decObjs (E : Env) : List (Nat × Option Nat) → List (Nat × ObjT) → RM Sc
  | _, [] => .ret .nil
  | srcs, (i, t) :: r => (decObj E srcs i t).bind fun x => (decObjs E (srcs ++ x.srcs) r).bind fun y => .ret (x.add y)

def decAll (E : Env) (T : Templ) : RM Sc := (decSlots E T.slots).bind fun x => (decObjs E x.srcs T.objs).bind fun y => .ret (x.add y)

def srcOK (p q : Nat × Option Nat) : Bool :=
  bif Nat.beq p.1 q.1 then (match p.2, q.2 with
    | none, none => true
    | some a, some b => Nat.beq a b
    | _, _ => false)
  else (match p.2, q.2 with
    | some a, some b => !Nat.beq a b
    | _, _ => true)

def okSc (T : Templ) (S : Sc) : Bool :=
  (S.srcs.all fun p => S.srcs.all (srcOK p)) && (S.srcs.all fun p => match Map.get T.objs p.1 with | some _ => true | none => false) &&
  S.srcs.all fun p => match p.2 with | some id => !S.ws.any fun q => Nat.beq q.1 id | none => true

@[reducible] def denU : List Ty → Type
  | [] => Unit
  | t :: ts => t.den × denU ts

def toU : (ts : List Ty) → List Dyn → Option (denU ts)
  | [], [] => some ()
  | t :: ts, d :: ds => match castTy (t := d.t) (t' := t) d.d, toU ts ds with
    | some x, some r => some (x, r)
    | _, _ => none
  | _, _ => none

def ofU : (ts : List Ty) → denU ts → List Dyn
  | [], _ => []
  | t :: ts, (x, r) => ⟨t, x⟩ :: ofU ts r

def eqN : List Nat → List Nat → Bool
  | [], [] => true
  | a :: l, b :: m => Nat.beq a b && eqN l m
  | _, _ => false

theorem eqN_eq : {l m : List Nat} → eqN l m = true → l = m
  | [], [], _ => rfl
  | a :: l, b :: m, h => by
    simp only [eqN, Bool.and_eq_true] at h
    rw [nbeq_true h.1, eqN_eq h.2]
  | [], _ :: _, h => by cases h
  | _ :: _, [], h => by cases h

def dec (E : Env) (T : Templ) (st : ASt) : Option (denU T.tys) :=
  (decAll E T).runK st fun S => bif okSc T S && Nat.beq st.N T.N && eqN st.fixed T.fx then toU T.tys S.ds else none

def mkCell : CellT → List Dyn → Option (AVal × List Dyn)
  | .hole _, ⟨t, d⟩ :: r => some (.pure t d, r)
  | .pp _, ⟨t, d⟩ :: r => some (.pptr t d, r)
  | .hand i, r => some (.hand i 0, r)
  | .bptr i off, r => some (.bptr i 0 off, r)
  | .nils, r => some (.nils, r)
  | .fref f, r => some (.fref f, r)
  | .yld, r => some (.yld, r)
  | _, [] => none

def mkCells : List CellT → List Dyn → Option (List AVal × List Dyn)
  | [], r => some ([], r)
  | c :: l, r => match mkCell c r with
    | some (a, r) => match mkCells l r with
      | some (m, r) => some (a :: m, r)
      | none => none
    | none => none

def mkSlot : SlotT → List Dyn → Option (SVal × List Dyn)
  | .v c, r => match mkCell c r with
    | some (a, r) => some (.v a, r)
    | none => none
  | .comp l, r => match mkCells l r with
    | some (m, r) => some (.comp m, r)
    | none => none

def mkSlots : List (Nat × SlotT) → List Dyn → Option (List (Nat × Slot) × List Dyn)
  | [], r => some ([], r)
  | (d, t) :: l, r => match mkSlot t r with
    | some (s, r) => match mkSlots l r with
      | some (m, r) => some ((d, ⟨[], true, s⟩) :: m, r)
      | none => none
    | none => none

def mkObj : ObjT → List Dyn → Option (AObj × List Dyn)
  | .buf _, ⟨.slice e, l⟩ :: r => some (.buf e l, r)
  | .box t l, r => match mkCells l r with
    | some (m, r) => some (.box t m, r)
    | none => none
  | .map _ _, ⟨.map k v, l⟩ :: r => some (.map k v l, r)
  | _, _ => none

def mkObjs : List (Nat × ObjT) → List Dyn → Option (List (Nat × (Nat × AObj)) × List Dyn)
  | [], r => some ([], r)
  | (i, t) :: l, r => match mkObj t r with
    | some (o, r) => match mkObjs l r with
      | some (m, r) => some ((i, (0, o)) :: m, r)
      | none => none
    | none => none

def mk (T : Templ) (d : denU T.tys) : ASt :=
  match mkSlots T.slots (ofU T.tys d) with
  | some (s, r) => match mkObjs T.objs r with
    | some (h, _) => ⟨T.N, [], s, h, T.fx⟩
    | none => ⟨T.N, [], [], [], T.fx⟩
  | none => ⟨T.N, [], [], [], T.fx⟩

variable {P : Program} {E : Env} {w0 : Start} {w : World} {conc : Conc} {st : ASt} {a : Act}

theorem toU_some : (ts : List Ty) → {ds : List Dyn} → {d : denU ts} → toU ts ds = some d → ofU ts d = ds
  | [], [], d, h => rfl
  | [], _ :: _, d, h => by simp [toU] at h
  | t :: ts, [], d, h => by simp [toU] at h
  | t :: ts, ⟨u, y⟩ :: ds, d, h => by
    simp only [toU] at h
    split at h
    · rename_i x r hx hr
      cases h
      obtain ⟨e, he⟩ := castTy_some hx
      subst e
      subst he
      simp only [ofU, toU_some ts hr]
    · cases h

/-- The objects of the make, as they come from those of the state. -/
def Good (conc : Conc) (srcs : List (Nat × Option Nat)) (conc' : Conc) : Prop := ∀ i s, (i, s) ∈ srcs → match s with
  | none => conc' i = some (0, .slice none 0 0, true)
  | some id => ∃ cv c, conc id = some (cv, c, true) ∧ conc' i = some (0, c, true)

structure Conv (w : World) (conc : Conc) (S : Sc) (F : List Nat) (conc' : Conc) : Prop where
  ws : ∀ id ∈ ids S.ws, id ∈ F
  good : Good conc S.srcs conc'
  sub : Sub w (okOf (frzL conc F)) (okOf conc')
  yl : conc'.yl = conc.yl

theorem Conv.left {x y : Sc} {F : List Nat} {conc' : Conc} (h : Conv w conc (x.add y) F conc') : Conv w conc x F conc' :=
  ⟨fun id hi => h.ws id (by simp only [Sc.add, ids_append]; exact List.mem_append_left _ hi), fun i s hi => h.good i s (by simp only [Sc.add]; exact List.mem_append_left _ hi), h.sub, h.yl⟩
theorem Conv.right {x y : Sc} {F : List Nat} {conc' : Conc} (h : Conv w conc (x.add y) F conc') : Conv w conc y F conc' :=
  ⟨fun id hi => h.ws id (by simp only [Sc.add, ids_append]; exact List.mem_append_right _ hi), fun i s hi => h.good i s (by simp only [Sc.add]; exact List.mem_append_right _ hi), h.sub, h.yl⟩

theorem Rep.re {t : Ty} {d : t.den} {vs : List Value} {w : World} {ok ok' : Nat → Prop} (h : Rep P t w ok vs d) (hs : Sub w ok ok') : Rep P t w ok' vs d :=
  h.mono t ⟨Nat.le_refl _, fun _ _ _ => rfl⟩ hs

theorem subT {S : Sc} {F : List Nat} {conc' : Conc} (h : Conv w conc S F conc') : Sub w (okOf conc) (okOf conc') :=
  (frzL_sub w conc F).trans (Nat.le_refl _) h.sub

def CellConv (P : Program) (w : World) (conc : Conc) (c : CellT) (S : Sc) (v : Value) : Prop :=
  ∃ y, (∀ r, mkCell c (S.ds ++ r) = some (y, r)) ∧ ∀ F conc', Conv w conc S F conc' → VRel P w conc' (okOf conc') y v

theorem decCell_spec (hE : EnvOK P E) (h : Mod P w0 conc st a w) {c : CellT} {x : AVal} {v : Value} {S : Sc} (hr : (decCell E c x).run st = some S) (hv : VRel P w conc (okOf conc) x v) : CellConv P w conc c S v := by
  unfold decCell at hr
  split at hr
  · obtain ⟨d, h1, h2⟩ := RM.bind_some hr
    cases h2
    obtain ⟨us, e1, e2⟩ := peekA_spec hE h h1 hv
    exact ⟨_, fun r => rfl, fun F conc' hc => ⟨us, e1, (e2 F hc.ws).2.re hc.sub⟩⟩
  · obtain ⟨d, h1, h2⟩ := RM.bind_some hr
    cases h2
    refine ⟨_, fun r => rfl, fun F conc' hc => ?_⟩
    obtain ⟨b, off, cs, T, fr, g1, g2, g3, g4, g5⟩ := (capA_spec hE h h1 hv F hc.ws).2
    exact ⟨b, off, cs, T, fr, g1, hc.sub b g2 (Array.getElem?_eq_some_iff.1 g3).1, g3, g4, g5.re hc.sub⟩
  · rename_i i id ver
    simp only [RM.run] at hr
    split at hr
    · rename_i cv e l ho
      obtain ⟨g1, g2⟩ := cond_some hr
      have := nbeq_true g1
      subst this
      cases g2
      obtain ⟨c, ow, k1, k2⟩ := obj_rel h ho
      obtain ⟨cv', c', ow', m1, m2, mo, m3⟩ := hv
      rw [k1] at m1; cases m1
      obtain ⟨rfl, k2⟩ := k2
      refine ⟨_, fun r => rfl, fun F conc' hc => ?_⟩
      obtain ⟨cv2, c2, p1, p2⟩ := hc.good i (some id) (by simp)
      rw [k1] at p1; cases p1
      exact ⟨0, c, true, p2, Nat.le_refl _, mo, fun _ => m3 rfl⟩
    · rename_i cv k u l ho
      obtain ⟨g1, g2⟩ := cond_some hr
      have := nbeq_true g1
      subst this
      cases g2
      obtain ⟨c, ow, k1, k2⟩ := obj_rel h ho
      obtain ⟨cv', c', ow', m1, m2, mo, m3⟩ := hv
      rw [k1] at m1; cases m1
      obtain ⟨rfl, k2⟩ := k2
      refine ⟨_, fun r => rfl, fun F conc' hc => ?_⟩
      obtain ⟨cv2, c2, p1, p2⟩ := hc.good i (some id) (by simp)
      rw [k1] at p1; cases p1
      exact ⟨0, c, true, p2, Nat.le_refl _, mo, fun _ => m3 rfl⟩
    · cases hr
  · rename_i i
    cases hr
    refine ⟨_, fun r => rfl, fun F conc' hc => ?_⟩
    have := hc.good i none (by simp)
    have hv' : v = .slice none 0 0 := hv
    subst hv'
    exact ⟨0, _, true, this, Nat.le_refl _, rfl, fun _ => rfl⟩
  · rename_i i off id ver off'
    simp only [RM.run] at hr
    split at hr
    · rename_i cv u cells ho
      obtain ⟨g1, g2⟩ := cond_some hr
      simp only [Bool.and_eq_true] at g1
      have e1 := nbeq_true g1.1
      have e2 := nbeq_true g1.2
      subst e1
      subst e2
      cases g2
      obtain ⟨c, ow, k1, k2⟩ := obj_rel h ho
      obtain ⟨cv', c', ow', m1, m2, mo, m3⟩ := hv
      rw [k1] at m1; cases m1
      obtain ⟨rfl, k2⟩ := k2
      refine ⟨_, fun r => rfl, fun F conc' hc => ?_⟩
      obtain ⟨cv2, c2, p1, p2⟩ := hc.good i (some id) (by simp)
      rw [k1] at p1; cases p1
      exact ⟨0, c, true, p2, Nat.le_refl _, mo, fun _ => m3 rfl⟩
    · cases hr
  · cases hr
    exact ⟨_, fun r => rfl, fun F conc' hc => hv⟩
  · obtain ⟨g1, g2⟩ := cond_some hr
    cases g2
    have := nbeq_true g1
    subst this
    exact ⟨_, fun r => rfl, fun F conc' hc => hv⟩
  · cases hr
    exact ⟨_, fun r => rfl, fun F conc' hc => by
      show v = _
      rw [hc.yl]
      exact hv⟩
  · cases hr

theorem decCells_spec (hE : EnvOK P E) (h : Mod P w0 conc st a w) : {cs : List CellT} → {xs : List AVal} → {vs : List Value} → {S : Sc} → (decCells E cs xs).run st = some S → All2 (VRel P w conc (okOf conc)) xs vs →
    ∃ ys, (∀ r, mkCells cs (S.ds ++ r) = some (ys, r)) ∧ ∀ F conc', Conv w conc S F conc' → All2 (VRel P w conc' (okOf conc')) ys vs
  | [], [], vs, S, hr, hv => by
    cases hr
    cases vs with
    | nil => exact ⟨[], fun r => rfl, fun _ _ _ => trivial⟩
    | cons _ _ => exact hv.elim
  | [], _ :: _, vs, S, hr, hv => by cases hr
  | _ :: _, [], vs, S, hr, hv => by cases hr
  | c :: cs, x :: xs, [], S, hr, hv => hv.elim
  | c :: cs, x :: xs, v :: vs, S, hr, hv => by
    rw [decCells] at hr
    obtain ⟨s1, h1, h2⟩ := RM.bind_some hr
    obtain ⟨s2, h3, h4⟩ := RM.bind_some h2
    cases h4
    obtain ⟨y, e1, e2⟩ := decCell_spec hE h h1 hv.1
    obtain ⟨ys, f1, f2⟩ := decCells_spec hE h h3 hv.2
    refine ⟨y :: ys, fun r => ?_, fun F conc' hc => ⟨e2 F conc' hc.left, f2 F conc' hc.right⟩⟩
    simp only [mkCells, Sc.add, List.append_assoc, e1, f1]

theorem decSlot_spec (hE : EnvOK P E) (h : Mod P w0 conc st a w) {t : SlotT} {s : SVal} {v : Value} {S : Sc} (hr : (decSlot E t s).run st = some S) (hv : SRel P w conc (okOf conc) s v) :
    ∃ y, (∀ r, mkSlot t (S.ds ++ r) = some (y, r)) ∧ ∀ F conc', Conv w conc S F conc' → SRel P w conc' (okOf conc') y v := by
  unfold decSlot at hr
  split at hr
  · obtain ⟨d, h1, h2⟩ := RM.bind_some hr
    cases h2
    obtain ⟨us, e1, e2⟩ := peek_spec hE h h1 hv
    exact ⟨.v (.pure _ d.1), fun r => rfl, fun F conc' hc => ⟨us, e1, (e2 F hc.ws).2.re hc.sub⟩⟩
  · obtain ⟨y, e1, e2⟩ := decCell_spec hE h hr hv
    exact ⟨.v y, fun r => by simp only [mkSlot, e1], e2⟩
  · obtain ⟨vs, e0, e1, e2⟩ := hv
    obtain ⟨ys, f1, f2⟩ := decCells_spec hE h hr e2
    exact ⟨.comp ys, fun r => by simp only [mkSlot, f1], fun F conc' hc => ⟨vs, e0, e1, f2 F conc' hc⟩⟩
  · obtain ⟨g1, g2⟩ := cond_some hr
    obtain ⟨vs, e0, e1⟩ := hv
    obtain ⟨ys, f1, f2⟩ := decCells_spec hE h g2 (explode_rel _ e1)
    exact ⟨.comp ys, fun r => by simp only [mkSlot, f1], fun F conc' hc => ⟨vs, by rw [e0, Ty.val, if_pos g1], e1.ones, f2 F conc' hc⟩⟩
  · cases hr

theorem decSlots_spec (hE : EnvOK P E) (h : Mod P w0 conc st a w) : {l : List (Nat × SlotT)} → {S : Sc} → (decSlots E l).run st = some S →
    ∃ ys, (∀ r, mkSlots l (S.ds ++ r) = some (ys, r)) ∧ ∀ F conc', Conv w conc S F conc' → ∀ d sl, (d, sl) ∈ ys → sl.L = [] ∧ sl.g = true ∧ ∃ v, a.tmps[d]? = some v ∧ SRel P w conc' (okOf conc') sl.s v
  | [], S, hr => by
    cases hr
    exact ⟨[], fun r => rfl, fun _ _ _ d sl hm => by cases hm⟩
  | (k, t) :: l, S, hr => by
    simp only [decSlots, RM.run] at hr
    split at hr
    · rename_i g s hg
      obtain ⟨s1, h1, h2⟩ := RM.bind_some hr
      obtain ⟨s2, h3, h4⟩ := RM.bind_some h2
      cases h4
      obtain ⟨v, hv1, hv2⟩ := h.slots k _ hg
      have hv3 := (hv2.yes (labs_nil _)).2
      obtain ⟨y, e1, e2⟩ := decSlot_spec hE h h1 hv3
      obtain ⟨ys, f1, f2⟩ := decSlots_spec hE h h3
      refine ⟨(k, ⟨[], true, y⟩) :: ys, fun r => ?_, fun F conc' hc d sl hm => ?_⟩
      · simp only [mkSlots, Sc.add, List.append_assoc, e1, f1]
      · rcases List.mem_cons.1 hm with e | hm
        · cases e
          exact ⟨rfl, rfl, v, hv1, e2 F conc' hc.left⟩
        · exact f2 F conc' hc.right d sl hm
    · cases hr

theorem Map.get_mem {α : Type} {m : List (Nat × α)} {k : Nat} {v : α} (h : Map.get m k = some v) : (k, v) ∈ m := by
  induction m with
  | nil => cases h
  | cons p r ih =>
    obtain ⟨q, u⟩ := p
    simp only [Map.get, nbeq] at h
    by_cases hq : q = k
    · subst hq
      simp at h
      subst h
      exact List.mem_cons_self
    · simp [hq] at h
      exact List.mem_cons_of_mem _ (ih h)

theorem Map.get_none {α : Type} {m : List (Nat × α)} {k : Nat} (h : Map.get m k = none) : ∀ v, (k, v) ∉ m := by
  induction m with
  | nil => intro v hv; cases hv
  | cons p r ih =>
    obtain ⟨q, u⟩ := p
    simp only [Map.get, nbeq] at h
    by_cases hq : q = k
    · simp [hq] at h
    · simp [hq] at h
      intro v hv
      rcases List.mem_cons.1 hv with e | hv
      · cases e; exact hq rfl
      · exact ih h v hv

theorem decObj_spec (hE : EnvOK P E) (h : Mod P w0 conc st a w) {srcs : List (Nat × Option Nat)} {i : Nat} {t : ObjT} {S : Sc} (hr : (decObj E srcs i t).run st = some S) :
    ∃ o, (∀ r, mkObj t (S.ds ++ r) = some (o, r)) ∧ ∀ F conc', Conv w conc S F conc' → Good conc srcs conc' → ∃ c, conc' i = some (0, c, true) ∧ ORel P w conc' (okOf conc') c true o := by
  unfold decObj at hr
  split at hr
  · rename_i e
    split at hr
    · rename_i hs
      cases hr
      refine ⟨.buf e [], fun r => rfl, fun F conc' hc hg => ⟨_, hg i none (Map.get_mem hs), rfl, .inl ⟨rfl, rfl⟩⟩⟩
    · rename_i id hs
      simp only [RM.run] at hr
      split at hr
      · rename_i cv e' l ho
        obtain ⟨g1, g2⟩ := cond_some hr
        cases g2
        refine ⟨.buf e' l, fun r => rfl, fun F conc' hc hg => ?_⟩
        obtain ⟨cv2, c2, p1, p2⟩ := hg i (some id) (Map.get_mem hs)
        obtain ⟨c, ow, k1, k2⟩ := obj_rel h ho
        rw [k1] at p1; cases p1
        refine ⟨_, p2, rfl, ?_⟩
        obtain ⟨_, k2 | ⟨b, off, cap, cs, T, q1, q2, q3, q4, q5, q6⟩⟩ := k2
        · exact .inl k2
        · exact .inr ⟨b, off, cap, cs, T, q1, q2, q3, q4, q5, fun j x hj => (q6 j x hj).re (subT hc)⟩
      · cases hr
    · cases hr
  · rename_i t l
    split at hr
    · rename_i id hs
      simp only [RM.run] at hr
      split at hr
      · rename_i cv u cells ho
        obtain ⟨g1, g2⟩ := cond_some hr
        have hu : u = t := by simpa using g1
        subst hu
        obtain ⟨c, ow, k1, k2⟩ := obj_rel h ho
        obtain ⟨rfl, b, cs, T, q1, q2, q3, q4, q5⟩ := k2
        obtain ⟨ys, f1, f2⟩ := decCells_spec hE h g2 q5
        refine ⟨.box u ys, fun r => by simp only [mkObj, f1], fun F conc' hc hg => ?_⟩
        obtain ⟨cv2, c2, p1, p2⟩ := hg i (some id) (Map.get_mem hs)
        rw [k1] at p1; cases p1
        have hys := f2 F conc' hc
        exact ⟨_, p2, rfl, b, cs, T, q1, q2, by rw [hys.length, ← q5.length]; exact q3, q4, hys⟩
      · cases hr
    · cases hr
  · rename_i k u
    split at hr
    · rename_i id hs
      simp only [RM.run] at hr
      split at hr
      · rename_i cv k' u' l ho
        obtain ⟨g1, g2⟩ := cond_some hr
        cases g2
        refine ⟨.map k' u' l, fun r => rfl, fun F conc' hc hg => ?_⟩
        obtain ⟨cv2, c2, p1, p2⟩ := hg i (some id) (Map.get_mem hs)
        obtain ⟨c, ow, k1, k2⟩ := obj_rel h ho
        rw [k1] at p1; cases p1
        refine ⟨_, p2, rfl, ?_⟩
        obtain ⟨_, b, es, clock, q1, q2, q3, q4⟩ := k2
        refine ⟨b, es, clock, q1, q2, q3, fun j x e hj he => ?_⟩
        obtain ⟨⟨ks, r1, r2⟩, us, r3, r4⟩ := q4 j x e hj he
        exact ⟨⟨ks, r1, r2.re (subT hc)⟩, us, r3, r4.re (subT hc)⟩
      · cases hr
    · cases hr

theorem decObjs_spec (hE : EnvOK P E) (h : Mod P w0 conc st a w) : {l : List (Nat × ObjT)} → {srcs : List (Nat × Option Nat)} → {S : Sc} → (decObjs E srcs l).run st = some S →
    ∃ ys, (∀ r, mkObjs l (S.ds ++ r) = some (ys, r)) ∧ (∀ F conc', Conv w conc S F conc' → Good conc srcs conc' → ∀ i vo, (i, vo) ∈ ys → vo.1 = 0 ∧ ∃ c, conc' i = some (0, c, true) ∧ ORel P w conc' (okOf conc') c true vo.2) ∧
      ∀ i t, (i, t) ∈ l → ∃ vo, (i, vo) ∈ ys
  | [], srcs, S, hr => by
    cases hr
    exact ⟨[], fun r => rfl, (fun _ _ _ _ d sl hm => nomatch hm), (fun i t hm => nomatch hm)⟩
  | (k, t) :: l, srcs, S, hr => by
    simp only [decObjs] at hr
    obtain ⟨s1, h1, h2⟩ := RM.bind_some hr
    obtain ⟨s2, h3, h4⟩ := RM.bind_some h2
    cases h4
    obtain ⟨o, e1, e2⟩ := decObj_spec hE h h1
    obtain ⟨ys, f1, f2, f3⟩ := decObjs_spec hE h h3
    refine ⟨(k, (0, o)) :: ys, fun r => ?_, fun F conc' hc hg i vo hm => ?_, fun i t' hm => ?_⟩
    · simp only [mkObjs, Sc.add, List.append_assoc, e1, f1]
    · rcases List.mem_cons.1 hm with e | hm
      · cases e
        exact ⟨rfl, e2 F conc' hc.left hg⟩
      · refine f2 F conc' hc.right (fun j s hj => ?_) i vo hm
        rcases List.mem_append.1 hj with hj | hj
        · exact hg j s hj
        · exact hc.left.good j s hj
    · rcases List.mem_cons.1 hm with e | hm
      · cases e
        exact ⟨(0, o), List.mem_cons_self⟩
      · obtain ⟨vo, hvo⟩ := f3 i t' hm
        exact ⟨vo, List.mem_cons_of_mem _ hvo⟩

def Own (conc : Conc) (S : Sc) : Prop := ∀ i id, (i, some id) ∈ S.srcs → ∃ cv c, conc id = some (cv, c, true)

theorem Own.add {x y : Sc} (h : Own conc x) (h' : Own conc y) : Own conc (x.add y) := by
  intro i id hm
  rcases List.mem_append.1 hm with hm | hm
  · exact h i id hm
  · exact h' i id hm

theorem Own.nil {ds : List Dyn} {ws : W} : Own conc ⟨ds, [], ws⟩ := fun _ _ h => nomatch h

theorem decCell_own (h : Mod P w0 conc st a w) {c : CellT} {x : AVal} {S : Sc} (hr : (decCell E c x).run st = some S) : Own conc S := by
  unfold decCell at hr
  split at hr
  · obtain ⟨d, h1, h2⟩ := RM.bind_some hr
    cases h2
    exact Own.nil
  · obtain ⟨d, h1, h2⟩ := RM.bind_some hr
    cases h2
    exact Own.nil
  · simp only [RM.run] at hr
    split at hr
    · rename_i cv e l ho
      obtain ⟨g1, g2⟩ := cond_some hr
      cases g2
      obtain ⟨c, ow, k1, k2⟩ := obj_rel h ho
      intro i id hm
      simp only [List.mem_singleton, Prod.mk.injEq, Option.some.injEq] at hm
      obtain ⟨_, rfl⟩ := hm
      exact ⟨cv, c, by rw [k1, k2.1]⟩
    · rename_i cv k u l ho
      obtain ⟨g1, g2⟩ := cond_some hr
      cases g2
      obtain ⟨c, ow, k1, k2⟩ := obj_rel h ho
      intro i id hm
      simp only [List.mem_singleton, Prod.mk.injEq, Option.some.injEq] at hm
      obtain ⟨_, rfl⟩ := hm
      exact ⟨cv, c, by rw [k1, k2.1]⟩
    · cases hr
  · cases hr
    intro i id hm
    simp at hm
  · simp only [RM.run] at hr
    split at hr
    · rename_i cv e l ho
      obtain ⟨g1, g2⟩ := cond_some hr
      cases g2
      obtain ⟨c, ow, k1, k2⟩ := obj_rel h ho
      intro i id hm
      simp only [List.mem_singleton, Prod.mk.injEq, Option.some.injEq] at hm
      obtain ⟨_, rfl⟩ := hm
      exact ⟨cv, c, by rw [k1, k2.1]⟩
    · cases hr
  · cases hr; exact Own.nil
  · obtain ⟨g1, g2⟩ := cond_some hr
    cases g2; exact Own.nil
  · cases hr; exact Own.nil
  · cases hr

theorem decCells_own (h : Mod P w0 conc st a w) : {cs : List CellT} → {xs : List AVal} → {S : Sc} → (decCells E cs xs).run st = some S → Own conc S
  | [], [], S, hr => by cases hr; exact Own.nil
  | [], _ :: _, S, hr => by cases hr
  | _ :: _, [], S, hr => by cases hr
  | c :: cs, x :: xs, S, hr => by
    rw [decCells] at hr
    obtain ⟨s1, h1, h2⟩ := RM.bind_some hr
    obtain ⟨s2, h3, h4⟩ := RM.bind_some h2
    cases h4
    exact (decCell_own h h1).add (decCells_own h h3)

theorem decSlot_own (h : Mod P w0 conc st a w) {t : SlotT} {s : SVal} {S : Sc} (hr : (decSlot E t s).run st = some S) : Own conc S := by
  unfold decSlot at hr
  split at hr
  · obtain ⟨d, h1, h2⟩ := RM.bind_some hr
    cases h2; exact Own.nil
  · exact decCell_own h hr
  · exact decCells_own h hr
  · obtain ⟨g1, g2⟩ := cond_some hr
    exact decCells_own h g2
  · cases hr

theorem decSlots_own (h : Mod P w0 conc st a w) : {l : List (Nat × SlotT)} → {S : Sc} → (decSlots E l).run st = some S → Own conc S
  | [], S, hr => by cases hr; exact Own.nil
  | (k, t) :: l, S, hr => by
    simp only [decSlots, RM.run] at hr
    split at hr
    · obtain ⟨s1, h1, h2⟩ := RM.bind_some hr
      obtain ⟨s2, h3, h4⟩ := RM.bind_some h2
      cases h4
      exact (decSlot_own h h1).add (decSlots_own h h3)
    · cases hr

theorem decObj_own (h : Mod P w0 conc st a w) {srcs : List (Nat × Option Nat)} {i : Nat} {t : ObjT} {S : Sc} (hr : (decObj E srcs i t).run st = some S) : Own conc S := by
  unfold decObj at hr
  split at hr
  · split at hr
    · cases hr; exact Own.nil
    · simp only [RM.run] at hr
      split at hr
      · obtain ⟨g1, g2⟩ := cond_some hr
        cases g2; exact Own.nil
      · cases hr
    · cases hr
  · split at hr
    · simp only [RM.run] at hr
      split at hr
      · obtain ⟨g1, g2⟩ := cond_some hr
        exact decCells_own h g2
      · cases hr
    · cases hr
  · split at hr
    · simp only [RM.run] at hr
      split at hr
      · obtain ⟨g1, g2⟩ := cond_some hr
        cases g2; exact Own.nil
      · cases hr
    · cases hr

theorem decObjs_own (h : Mod P w0 conc st a w) : {l : List (Nat × ObjT)} → {srcs : List (Nat × Option Nat)} → {S : Sc} → (decObjs E srcs l).run st = some S → Own conc S
  | [], srcs, S, hr => by cases hr; exact Own.nil
  | (k, t) :: l, srcs, S, hr => by
    simp only [decObjs] at hr
    obtain ⟨s1, h1, h2⟩ := RM.bind_some hr
    obtain ⟨s2, h3, h4⟩ := RM.bind_some h2
    cases h4
    exact (decObj_own h h1).add (decObjs_own h h3)

/-- A state of the make is the one that its data make. -/
theorem dec_mod (hE : EnvOK P E) (h : Mod P w0 conc st a w) {T : Templ} {d : denU T.tys} (hd : dec E T st = some d) : ∃ conc', Mod P w0 conc' (mk T d) a w ∧
    ∀ i v c b, conc' i = some (v, c, true) → blockOf c = some b → ∃ i' v' c', conc i' = some (v', c', true) ∧ blockOf c' = some b := by
  unfold dec at hd
  rw [RM.runK_eq] at hd
  cases hS : (decAll E T).run st with
  | none => rw [hS] at hd; cases hd
  | some S =>
    rw [hS] at hd
    simp only [Option.bind_some] at hd
    cases hok : (okSc T S && Nat.beq st.N T.N && eqN st.fixed T.fx) with
    | false => rw [hok] at hd; cases hd
    | true =>
      rw [hok] at hd
      simp only [cond_true] at hd
      have hds := toU_some _ hd
      simp only [Bool.and_eq_true] at hok
      obtain ⟨⟨hok, hN⟩, hfx⟩ := hok
      have hN := nbeq_true hN
      have hfx := eqN_eq hfx
      unfold okSc at hok
      simp only [Bool.and_eq_true] at hok
      obtain ⟨⟨hs1, hs2⟩, hs3⟩ := hok
      obtain ⟨x, h1, h2⟩ := RM.bind_some hS
      obtain ⟨y, h3, h4⟩ := RM.bind_some h2
      cases h4
      obtain ⟨sl, e1, e2⟩ := decSlots_spec hE h h1
      obtain ⟨ob, f1, f2, f3⟩ := decObjs_spec hE h h3
      have hmk : mk T d = ⟨T.N, [], sl, ob, T.fx⟩ := by
        unfold mk
        rw [hds]
        simp only [Sc.add]
        rw [e1 y.ds]
        dsimp only
        have := f1 []
        rw [List.append_nil] at this
        rw [this]
      rw [hmk]
      let F : List Nat := ids (x.add y).ws
      let conc' : Conc := ⟨fun i => match Map.get (x.add y).srcs i with
        | some none => some (0, .slice none 0 0, true)
        | some (some id) => match conc id with
          | some (_, c, ow) => some (0, c, ow)
          | none => none
        | none => none, conc.B, conc.yl⟩
      have src_own : ∀ i id, (i, some id) ∈ (x.add y).srcs → id ∉ F := by
        intro i id hm hF
        have := List.all_eq_true.1 hs3 _ hm
        simp only [Bool.not_eq_true', List.any_eq_false] at this
        obtain ⟨q, hq, hqe⟩ := List.mem_map.1 hF
        exact this q hq (by simp [hqe])
      have uniq : ∀ i s, (i, s) ∈ (x.add y).srcs → Map.get (x.add y).srcs i = some s := by
        intro i s hm
        cases hg : Map.get (x.add y).srcs i with
        | none => exact absurd hm (Map.get_none hg s)
        | some s' =>
          have := List.all_eq_true.1 (List.all_eq_true.1 hs1 _ hm) _ (Map.get_mem hg)
          simp only [srcOK, nbeq, decide_true, cond_true] at this
          cases s <;> cases s' <;> simp at this ⊢
          exact this.symm
      have src_inv : ∀ i c, conc' i = some (0, c, true) → c = .slice none 0 0 ∨ ∃ id cv, (i, some id) ∈ (x.add y).srcs ∧ conc id = some (cv, c, true) := by
        intro i c hc
        simp only [conc'] at hc
        split at hc
        · cases hc; exact .inl rfl
        · rename_i id hg
          split at hc
          · rename_i cv c' ow hcc
            cases hc
            exact .inr ⟨id, cv, Map.get_mem hg, hcc⟩
          · cases hc
        · cases hc
      have ver0 : ∀ i v c ow, conc' i = some (v, c, ow) → v = 0 := by
        intro i v c ow hc
        simp only [conc'] at hc
        split at hc
        · cases hc; rfl
        · split at hc
          · cases hc; rfl
          · cases hc
        · cases hc
      have hsub : Sub w (okOf (frzL conc F)) (okOf conc') := by
        intro b hb _
        refine ⟨hb.1, fun i v c hc hbl => ?_⟩
        have := ver0 i v c true hc
        subst this
        rcases src_inv i c hc with rfl | ⟨id, cv, hm, hcc⟩
        · cases hbl
        · refine hb.2 id cv c ?_ hbl
          simp [frzL, hcc, src_own i id hm]
      have hown : Own conc (x.add y) := (decSlots_own h h1).add (decObjs_own h h3)
      have hgood : Good conc (x.add y).srcs conc' := by
        intro i s hm
        have hg := uniq i s hm
        cases s with
        | none => simp only [conc', hg]
        | some id =>
          obtain ⟨cv, c, hc⟩ := hown i id hm
          exact ⟨cv, c, hc, by simp only [conc', hg, hc]⟩
      have hconv : Conv w conc (x.add y) F conc' := ⟨fun id hi => hi, hgood, hsub, rfl⟩
      have hgx : Good conc x.srcs conc' := fun i s hi => hgood i s (by simp only [Sc.add]; exact List.mem_append_left _ hi)
      refine ⟨conc', { defers := h.defers, size := by rw [h.size, hN], marks := ?_, slots := ?_, heap := ?_, dead := ?_, inj := ?_, base := ?_, keeps := h.keeps, cB := h.cB, cY := h.cY, okS := h.okS, fixed := fun s hs => h.fixed s (by rw [hfx]; exact hs) }, fun i v c b hi hb => ?_⟩
      · intro d' s' hd' p hp
        rw [(e2 F conc' hconv.left d' s' (Map.get_mem hd')).1] at hp
        cases hp
      · intro d' s' hd'
        obtain ⟨g1, g2, v, g3, g4⟩ := e2 F conc' hconv.left d' s' (Map.get_mem hd')
        exact ⟨v, g3, ⟨fun _ => ⟨g2, g4⟩, fun hn => absurd (by rw [g1]; exact labs_nil _) hn⟩⟩
      · intro i v o ho
        obtain ⟨g1, c, g2, g3⟩ := f2 F conc' hconv.right hgx i (v, o) (Map.get_mem ho)
        dsimp only at g1 g3
        subst g1
        exact ⟨c, true, g2, g3⟩
      · intro i hi
        cases hg : Map.get (x.add y).srcs i with
        | none => simp only [conc', hg]
        | some s =>
          have := List.all_eq_true.1 hs2 _ (Map.get_mem hg)
          dsimp only at this
          cases ht : Map.get T.objs i with
          | none => rw [ht] at this; cases this
          | some t =>
            obtain ⟨vo, hvo⟩ := f3 i t (Map.get_mem ht)
            exact absurd hvo (Map.get_none hi vo)
      · intro i j vi vj c c' b hi hj hb hb'
        have e := ver0 _ _ _ _ hi
        have e' := ver0 _ _ _ _ hj
        subst e
        subst e'
        rcases src_inv i c hi with rfl | ⟨id, cv, hm, hcc⟩
        · cases hb
        · rcases src_inv j c' hj with rfl | ⟨id', cv', hm', hcc'⟩
          · cases hb'
          · have := h.inj id id' _ _ _ _ b hcc hcc' hb hb'
            subst this
            have := List.all_eq_true.1 (List.all_eq_true.1 hs1 _ hm) _ hm'
            simp only [srcOK, nbeq, decide_true, Bool.not_true] at this
            by_cases hij : i = j
            · exact hij
            · simp [hij] at this
      · intro i v c b hi hb
        have e := ver0 _ _ _ _ hi
        subst e
        rcases src_inv i c hi with rfl | ⟨id, cv, hm, hcc⟩
        · cases hb
        · exact h.base id cv c b hcc hb
      · have e := ver0 _ _ _ _ hi
        subst e
        rcases src_inv i c hi with rfl | ⟨id, cv, hm, hcc⟩
        · cases hb
        · exact ⟨id, cv, c, hcc, hb⟩

theorem dec_models (hE : EnvOK P E) (h : Models P w0 st a w) {T : Templ} {d : denU T.tys} (hd : dec E T st = some d) : Models P w0 (mk T d) a w := by
  obtain ⟨conc, h⟩ := h
  obtain ⟨conc', h', _⟩ := dec_mod hE h hd
  exact ⟨conc', h'⟩

end Go.Abs
