/- What a function's text is put together from. -/
import Derived.Test.YtbcbiemjokpghaaNAbsX
set_option linter.unusedSimpArgs false
set_option linter.unusedVariables false
namespace Go.Abs
open Go
variable {P : Program} {E : Env} {R : Type} {H : Hdl R} {i : Bool}

def bd (f : Func) : Code := match f.body with
  | some c => c
  | none => .skip

/-- The outer loops. -/
def loopsOf : Code → List Code
  | .seq a b => loopsOf a ++ loopsOf b
  | .cond _ a b => loopsOf a ++ loopsOf b
  | .block _ c => loopsOf c
  | .loop c => [.loop c]
  | .rangeFunc g ps a b => [.rangeFunc g ps a b]
  | _ => []

def nth : List Code → Nat → Code
  | [], _ => .skip
  | c :: _, 0 => c
  | _ :: r, n + 1 => nth r n

def lp (c : Code) (i : Nat) : Code := nth (loopsOf c) i

/-- What is looped. -/
def inn : Code → Code
  | .loop c => c
  | _ => .skip

def isLoop : Code → Bool
  | .loop _ => true
  | _ => false

def rgG : Code → Operand
  | .rangeFunc g _ _ _ => g
  | _ => .func 0
def rgA : Code → Code
  | .rangeFunc _ _ a _ => a
  | _ => .skip
def rgB : Code → Code
  | .rangeFunc _ _ _ b => b
  | _ => .skip

def isRange (p : Nat) : Code → Bool
  | .rangeFunc _ ps _ _ => match ps.toList with
    | [q] => Nat.beq q p
    | _ => false
  | _ => false

theorem isLoop_eq {w : Code} (h : isLoop w = true) : w = .loop (inn w) := by
  cases w <;> first | rfl | cases h

theorem isRange_eq {p : Nat} {w : Code} (h : isRange p w = true) : w = .rangeFunc (rgG w) #[p] (rgA w) (rgB w) := by
  cases w <;> try (cases h; done)
  rename_i g ps a b
  simp only [isRange] at h
  split at h
  · rename_i q hq
    have := nbeq_true h
    subst this
    have : ps = #[q] := by rw [← Array.toArray_toList (xs := ps), hq]
    subst this
    rfl
  · cases h

def SndL (P : Program) (H : Hdl R) (i : Bool) (l : List Code) : Nat → List (Ev R) → Prop
  | _, [] => True
  | n, f :: r => Sound P H i (nth l n) f ∧ SndL P H i l (n + 1) r

theorem loopsOf_len : (c : Code) → (loopsOf c).length = loops c
  | .seq a b => by simp [loopsOf, loops, loopsOf_len a, loopsOf_len b]
  | .cond _ a b => by simp [loopsOf, loops, loopsOf_len a, loopsOf_len b]
  | .block _ c => by simp [loopsOf, loops, loopsOf_len c]
  | .loop c => rfl
  | .skip => rfl
  | .region .. => rfl
  | .exit _ => rfl
  | .ret => rfl
  | .rangeFunc _ _ _ _ => rfl
  | .scope _ => rfl
  | .label _ => rfl
  | .goto _ => rfl
  | .refuse _ => rfl

theorem SndL.get {l : List Code} : {O : List (Ev R)} → {n : Nat} → SndL P H i l n O → ∀ k f, O[k]? = some f → Sound P H i (nth l (n + k)) f
  | [], n, h, k, f, hf => by simp at hf
  | g :: r, n, ⟨h1, h2⟩, 0, f, hf => by
    simp at hf
    subst hf
    exact h1
  | g :: r, n, ⟨h1, h2⟩, k + 1, f, hf => by
    have := SndL.get h2 k f (by simpa using hf)
    rwa [show n + 1 + k = n + (k + 1) from by omega] at this

theorem nth_append_left {l m : List Code} : {i : Nat} → i < l.length → nth (l ++ m) i = nth l i := by
  induction l with
  | nil => intro i h; simp at h
  | cons c l ih =>
    intro i h
    cases i with
    | zero => rfl
    | succ i => exact ih (by simpa using h)

theorem nth_append_right {l m : List Code} (i : Nat) : nth (l ++ m) (l.length + i) = nth m i := by
  induction l with
  | nil => simp
  | cons c l ih =>
    rw [List.length_cons, show l.length + 1 + i = (l.length + i) + 1 from by omega]
    exact ih

theorem osOK_aux : (c : Code) → (O : List (Ev R)) → (∀ k f, k < loops c → O[k]? = some f → Sound P H i (nth (loopsOf c) k) f) → OsOK P H i c O
  | .seq a b, O, h => by
    refine ⟨osOK_aux a _ fun i f hi hf => ?_, osOK_aux b _ fun i f hi hf => ?_⟩
    · rw [List.getElem?_take_of_lt hi] at hf
      have := h i f (by simp [loops]; omega) hf
      rw [loopsOf, nth_append_left (by rw [loopsOf_len]; exact hi)] at this
      exact this
    · rw [List.getElem?_drop] at hf
      have := h _ f (by simp [loops]; omega) hf
      rw [loopsOf, ← loopsOf_len a, nth_append_right] at this
      exact this
  | .cond _ a b, O, h => by
    refine ⟨osOK_aux a _ fun i f hi hf => ?_, osOK_aux b _ fun i f hi hf => ?_⟩
    · rw [List.getElem?_take_of_lt hi] at hf
      have := h i f (by simp [loops]; omega) hf
      rw [loopsOf, nth_append_left (by rw [loopsOf_len]; exact hi)] at this
      exact this
    · rw [List.getElem?_drop] at hf
      have := h _ f (by simp [loops]; omega) hf
      rw [loopsOf, ← loopsOf_len a, nth_append_right] at this
      exact this
  | .block _ c, O, h => osOK_aux c O h
  | .loop c, O, h => fun f hf => by
    subst hf
    exact h 0 f (by simp [loops]) rfl
  | .skip, _, _ => trivial
  | .region .., _, _ => trivial
  | .exit _, _, _ => trivial
  | .ret, _, _ => trivial
  | .rangeFunc g ps x y, O, h => fun f hf => by
    subst hf
    exact h 0 f (by simp [loops]) rfl
  | .scope _, _, _ => trivial
  | .label _, _, _ => trivial
  | .goto _, _, _ => trivial
  | .refuse _, _, _ => trivial

theorem osOK_of {c : Code} {O : List (Ev R)} (h : SndL P H i (loopsOf c) 0 O) : OsOK P H i c O :=
  osOK_aux c O fun i f _ hf => by simpa using h.get i f hf

theorem loop_ok {n : Nat} (hE : EnvOK P E) (hP : P.follows .mixedOrders = true) {w : Code} (hw : isLoop w = true) {O : List (Ev R)} {T : Templ} {X : List (Way × Templ)} {body : denU T.tys → (denU T.tys → Option R) → conts R X → Option R}
    (hi : SndL P H i (loopsOf (inn w)) 0 O) (hb : ∀ d again k, codeR E H (inn w) O (mk T d) (turnR E T X again k) = body d again k) : Sound P H i w (loopO n E T X body) := by
  rw [isLoop_eq hw]
  exact loop_sound hE (codeR_sound hE hP (inn w) O (osOK_of hi)) hb

theorem range_ok (hE : EnvOK P E) (hP : P.follows .mixedOrders = true) {w : Code} {e : Ty} {p : Nat} {Oa Ob : List (Ev R)} {T : Templ} {F : List Nat} {X : List (Way × Templ)} {body : denU T.tys → e.den → (denU T.tys → Option R) → conts R X → Option R}
    (hw : isRange p w = true) (hfx : T.fx = []) (hpN : p < T.N) (hpF : p ∉ F) (hX : (X.all fun x => x.2.fx.isEmpty) = true)
    (ha : SndL P (Hdl.no (R := R)) true (loopsOf (rgA w)) 0 Oa) (hb : SndL P (Hdl.no (R := R)) true (loopsOf (rgB w)) 0 Ob)
    (heq : ∀ d x again k, codeR E Hdl.no (rgA w) Oa (mkB T F p e d x) (thenB fun st => codeR E Hdl.no (rgB w) Ob st (turnB E T F X again k)) = body d x again k) :
    Sound P (Hdl.no (R := R)) false w (rangeO E e (rgG w) T X body) := by
  have := isRange_eq hw
  rw [this]
  simp only [rgG]
  exact range_sound hE rfl {
    fx := hfx
    pN := hpN
    pF := hpF
    xfx := fun x hx => by simpa using List.all_eq_true.1 hX x hx
    a := codeR_sound hE hP _ _ (osOK_of ha)
    b := codeR_sound hE hP _ _ (osOK_of hb)
    eq := heq }

theorem func_ok (hE : EnvOK P E) (hP : P.follows .mixedOrders = true) {f : FuncId} {fn : Func} (hf : P.funcs[f]? = some fn) (hn : (fn.name == "runtime.NumGoroutine") = false) (hb : fn.body.isSome = true)
    {ins caps outs : List Ty} {g : denL ins → denL caps → Option (denL outs)} {fresh : Bool} {O : List (Ev (denL outs))} (hO : SndL P (Hdl.no (R := denL outs)) false (loopsOf (bd fn)) 0 O)
    (heq : ∀ x y, funR E fn ins caps outs fresh O x y = g x y) : ConOK P f ⟨ins, caps, outs, g, fresh⟩ :=
  fun_ok hE hP hf hn (fun c hc => osOK_of (by have := hO; unfold bd at this; rw [hc] at this; exact this)) heq hb

theorem itf1_ok (hE : EnvOK P E) (hP : P.follows .mixedOrders = true) {f : FuncId} {fn : Func} (hf : P.funcs[f]? = some fn) (hn : (fn.name == "runtime.NumGoroutine") = false) (hb : fn.body.isSome = true)
    {e : Ty} {caps : List Ty} {g : denL caps → Option (List e.den)} {O : List (Ev (List (denL [e])))} (hO : SndL P (hdlL [e]) false (loopsOf (bd fn)) 0 O)
    (heq : ∀ y, iterR E fn [e] caps O y = g y) : IConOK P f ⟨caps, .seq e, g⟩ :=
  iter1_ok hE hP hf hn (fun c hc => osOK_of (by have := hO; unfold bd at this; rw [hc] at this; exact this)) heq hb

theorem itf2_ok (hE : EnvOK P E) (hP : P.follows .mixedOrders = true) {f : FuncId} {fn : Func} (hf : P.funcs[f]? = some fn) (hn : (fn.name == "runtime.NumGoroutine") = false) (hb : fn.body.isSome = true)
    {a b : Ty} {caps : List Ty} {g : denL caps → Option (List (a.den × b.den))} {O : List (Ev (List (denL [a, b])))} (hO : SndL P (hdlL [a, b]) false (loopsOf (bd fn)) 0 O)
    (heq : ∀ y, iterR E fn [a, b] caps O y = g y) : IConOK P f ⟨caps, .seq2 a b, g⟩ :=
  iter2_ok hE hP hf hn (fun c hc => osOK_of (by have := hO; unfold bd at this; rw [hc] at this; exact this)) heq hb

end Go.Abs
