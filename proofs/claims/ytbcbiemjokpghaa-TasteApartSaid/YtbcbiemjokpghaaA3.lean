/- Parts of one proof, joined: Data that are compared, and keys of maps: by a checker of their types. The evaluator's tables are checked against the program's by evaluation. What a function's text is put together from. DERIVED: THE SHELF's CONTRACTS AT THIS DUMP, IN PLAIN WORDS (tools/lay-plain.mjs out of 'TryShelf.lean', which tools/lay-shelf.mjs wrote): THE SAME DECLARATIONS UNDER THE SAME NAMES: 'import', 'namespace', 'open', 'def', 'theorem' AND NOTHING ELSE: no command of the shelf's: FOR A HAND-IN. Each laying: the table of numbers ('.._ren') and one theorem, a field a fact of the dump's own or the kernel's comparison; each contract: ONE APPLICATION. The library's slices.Clone at []int and []string: that the call does what its plain function says. No condition. The library's slices.Sort at []int, strings' search for one byte: that the calls do what their plain functions say. No condition. What can be read as dat -/
import Derived.ChangeKeysEq
import Derived.Shelf.Strings.Search2
import Derived.Shelf.Sort.Plain
import Derived.Ground.Names2Prog
import Derived.Shelf.Slices.Clone
import Derived.Test.YtbcbiemjokpghaaProg
import Derived.ProofKit
import Derived.ChangeSlices
import Derived.Test.YtbcbiemjokpghaaA2
set_option linter.unusedSimpArgs false
set_option linter.unusedVariables false
namespace Go.Abs
open Go
variable {P : Program} {w : World}

def partOK (P : Program) (T : Nat) (t : Ty) : Bool :=
  bif t.isPair then (match P.underlying T with
    | some (.struct _) => true
    | some (.array _ _) => true
    | _ => false) && (match P.info? T with
    | some i => Nat.beq i.size t.sz
    | none => false)
  else P.plainKey T && !t.isUnit

theorem chunk_take {l : List Value} {off a b : Nat} : (chunk l off (a + b)).take a = chunk l off a := by
  unfold chunk
  rw [List.take_take, Nat.min_eq_left (by omega)]
theorem chunk_drop {l : List Value} {off a b : Nat} : (chunk l off (a + b)).drop a = chunk l (off + a) b := by
  unfold chunk
  rw [List.drop_take, List.drop_drop, show a + b - a = b by omega]

theorem part_run {T : Nat} {t : Ty} (h : partOK P T t = true) {ok : Nat → Prop} {xs : Array Value} {off : Nat} {d : t.den} (hr : Rep P t w ok (chunk xs.toList off t.sz) d) :
    (Go.part T xs off).run P w = .ok (t.val (chunk xs.toList off t.sz)) w := by
  unfold partOK at h
  cases hp : t.isPair
  · rw [hp] at h
    simp only [cond_false, Bool.and_eq_true, Bool.not_eq_true'] at h
    have hu : t ≠ .unit := fun e => by rw [e] at h; cases h.2
    have hl := hr.len
    have h1 := sz_one hp hu
    rw [h1] at hl ⊢
    match hc : chunk xs.toList off 1, hl with
    | [v], _ =>
      have hg : (chunk xs.toList off 1)[0]? = some v := by rw [hc]; rfl
      obtain ⟨_, hx⟩ := chunk_get hg
      rw [Nat.add_zero, Array.getElem?_toList] at hx
      have : t.val [v] = v := by unfold Ty.val; rw [hp]; rfl
      rw [this]
      exact run_part_plain w h.1 hx
  · rw [hp] at h
    simp only [cond_true, Bool.and_eq_true] at h
    obtain ⟨h1, h2⟩ := h
    cases hi : P.info? T with
    | none => rw [hi] at h2; cases h2
    | some i =>
      rw [hi] at h2
      have hs := nbeq_true h2
      have hsz : (sizeOf T).run P w = .ok t.sz w := by simp [sizeOf, typeInfo, hi, hs]
      have hagg : (isAgg T).run P w = .ok true w := by
        unfold isAgg
        split at h1
        · rename_i fs hu
          rw [Sem.run_bind, run_underlying hu]; rfl
        · rename_i n e hu
          rw [Sem.run_bind, run_underlying hu]; rfl
        · cases h1
      have : t.val (chunk xs.toList off t.sz) = .agg (xs.extract off (off + t.sz)) := by
        unfold Ty.val
        rw [hp]
        simp only [if_true]
        congr 1
        apply Array.ext'
        rw [Array.toList_extract]
        simp [List.extract, chunk]
      rw [this]
      simp [Go.part, hagg, hsz]

/-- Two pieces of data of a type, compared. -/
def EqT (P : Program) (dd T : Nat) (t : Ty) : Prop :=
  ∀ (w : World) ok vs us x y, Rep P t w ok vs x → Rep P t w ok us y → (Op.equalIn dd T (t.val vs) (t.val us)).run P w = .ok (t.beq x y) w

/-- A key of a map is looked at. -/
def ChkT (P : Program) (dd T : Nat) (t : Ty) : Prop :=
  ∀ (w : World) ok vs x b, Rep P t w ok vs x → (Instr.checkKey b dd T (t.val vs)).run P w = .ok () w

def chkF (rec : Nat → Ty → Bool) (P : Program) : List Field → Nat → Ty → Bool
  | [f], off, t => f.name != "_" && Nat.beq f.offset off && partOK P f.type t && rec f.type t
  | f :: g :: r, off, .pair a b => f.name != "_" && Nat.beq f.offset off && partOK P f.type a && rec f.type a && chkF rec P (g :: r) (off + a.sz) b
  | _, _, _ => false

def chkEq (P : Program) : Nat → Nat → Ty → Bool
  | 0, _, _ => false
  | d + 1, T, t => match P.underlying T with
    | some (.int k) => decide (t = .int k)
    | some .bool => decide (t = .bool)
    | some .string => decide (t = .str)
    | some (.struct fs) => t.isPair && !P.stoodInHeld T && chkF (chkEq P d) P fs.toList 0 t
    | some (.array n T') => match t with
      | .pair e _ => decide (t = Ty.arr e n) && partOK P T' e && chkEq P d T' e && (match P.info? T' with
        | some i => Nat.beq i.size e.sz
        | none => false)
      | _ => false
    | _ => false

theorem beq_bytes (x y : List UInt8) : ((⟨⟨x⟩⟩ : ByteArray) == ⟨⟨y⟩⟩) = (x == y) := by
  rw [beq_toListBytes, ByteArray.toList_eq, ByteArray.toList_eq]

section
variable {dd : Nat}

theorem eqFields_run {rec : Nat → Ty → Bool} (hrec : ∀ T t, rec T t = true → EqT P dd T t) (w : World) {ok : Nat → Prop} {xs ys : Array Value} : ∀ (fs : List Field) (off : Nat) (t : Ty) {x y : t.den}, chkF rec P fs off t = true →
    Rep P t w ok (chunk xs.toList off t.sz) x → Rep P t w ok (chunk ys.toList off t.sz) y → (Op.eqFields dd xs ys fs).run P w = .ok (t.beq x y) w
  | [], _, _, _, _, h, _, _ => by simp [chkF] at h
  | [f], off, t, x, y, h, hx, hy => by
    simp only [chkF, Bool.and_eq_true, bne_iff_ne, ne_eq] at h
    obtain ⟨⟨⟨hn, ho⟩, hp⟩, hr⟩ := h
    have ho := nbeq_true ho
    rw [← ho] at hx hy
    simp only [Op.eqFields, hn, ne_eq, not_false_eq_true, if_true, Sem.run_bind, part_run hp hx, part_run hp hy, Result.andThen_ok, hrec _ _ hr w ok _ _ x y hx hy]
    cases t.beq x y <;> simp
  | f :: g :: r, off, .pair a b, (x, x'), (y, y'), h, hx, hy => by
    simp only [chkF, Bool.and_eq_true, bne_iff_ne, ne_eq] at h
    obtain ⟨⟨⟨⟨hn, ho⟩, hp⟩, hr⟩, hrest⟩ := h
    have ho := nbeq_true ho
    obtain ⟨hx1, hx2⟩ := hx
    obtain ⟨hy1, hy2⟩ := hy
    simp only [Ty.sz] at hx1 hx2 hy1 hy2
    rw [chunk_take] at hx1 hy1
    rw [chunk_drop] at hx2 hy2
    rw [← ho] at hx1 hy1
    have ih := eqFields_run hrec w (g :: r) (off + a.sz) b hrest hx2 hy2
    rw [Op.eqFields]
    simp only [hn, ne_eq, not_false_eq_true, if_true, Sem.run_bind, part_run hp hx1, part_run hp hy1, Result.andThen_ok, hrec _ _ hr w ok _ _ x y hx1 hy1, Ty.beq]
    cases a.beq x y
    · simp
    · simpa using ih
  | _ :: _ :: _, _, .int _, _, _, h, _, _ => by simp [chkF] at h
  | _ :: _ :: _, _, .bool, _, _, h, _, _ => by simp [chkF] at h
  | _ :: _ :: _, _, .str, _, _, h, _, _ => by simp [chkF] at h
  | _ :: _ :: _, _, .unit, _, _, h, _, _ => by simp [chkF] at h
  | _ :: _ :: _, _, .slice _, _, _, h, _, _ => by simp [chkF] at h
  | _ :: _ :: _, _, .fn1 _ _, _, _, h, _, _ => by simp [chkF] at h
  | _ :: _ :: _, _, .fn2 _ _ _, _, _, h, _, _ => by simp [chkF] at h
  | _ :: _ :: _, _, .seq _, _, _, h, _, _ => by simp [chkF] at h
  | _ :: _ :: _, _, .seq2 _ _, _, _, h, _, _ => by simp [chkF] at h
  | _ :: _ :: _, _, .map _ _, _, _, h, _, _ => by simp [chkF] at h

theorem chkFields_run {rec : Nat → Ty → Bool} (hrec : ∀ T t, rec T t = true → ChkT P dd T t) (em : Bool) (w : World) {ok : Nat → Prop} {xs : Array Value} : ∀ (fs : List Field) (off : Nat) (t : Ty) {x : t.den}, chkF rec P fs off t = true →
    Rep P t w ok (chunk xs.toList off t.sz) x → (forIn (m := Sem) fs PUnit.unit fun f _ => if f.name ≠ "_" then (do Instr.checkKey em dd f.type (← Go.part f.type xs f.offset); pure (ForInStep.yield PUnit.unit)) else pure (ForInStep.yield PUnit.unit)).run P w = .ok PUnit.unit w
  | [], _, _, _, h, _ => by simp [chkF] at h
  | [f], off, t, x, h, hx => by
    simp only [chkF, Bool.and_eq_true, bne_iff_ne, ne_eq] at h
    obtain ⟨⟨⟨hn, ho⟩, hp⟩, hr⟩ := h
    have ho := nbeq_true ho
    rw [← ho] at hx
    simp only [List.forIn_cons, hn, ne_eq, not_false_eq_true, if_true, Sem.run_bind, part_run hp hx, Result.andThen_ok, hrec _ _ hr w ok _ x em hx, Sem.run_pure, List.forIn_nil]
  | f :: g :: r, off, .pair a b, (x, x'), h, hx => by
    simp only [chkF, Bool.and_eq_true, bne_iff_ne, ne_eq] at h
    obtain ⟨⟨⟨⟨hn, ho⟩, hp⟩, hr⟩, hrest⟩ := h
    have ho := nbeq_true ho
    obtain ⟨hx1, hx2⟩ := hx
    simp only [Ty.sz] at hx1 hx2
    rw [chunk_take] at hx1
    rw [chunk_drop] at hx2
    rw [← ho] at hx1
    have ih := chkFields_run hrec em w (g :: r) (off + a.sz) b hrest hx2
    rw [List.forIn_cons]
    simp only [hn, ne_eq, not_false_eq_true, if_true, Sem.run_bind, part_run hp hx1, Result.andThen_ok, hrec _ _ hr w ok _ x em hx1, Sem.run_pure]
    exact ih
  | _ :: _ :: _, _, .int _, _, h, _ => by simp [chkF] at h
  | _ :: _ :: _, _, .bool, _, h, _ => by simp [chkF] at h
  | _ :: _ :: _, _, .str, _, h, _ => by simp [chkF] at h
  | _ :: _ :: _, _, .unit, _, h, _ => by simp [chkF] at h
  | _ :: _ :: _, _, .slice _, _, h, _ => by simp [chkF] at h
  | _ :: _ :: _, _, .fn1 _ _, _, h, _ => by simp [chkF] at h
  | _ :: _ :: _, _, .fn2 _ _ _, _, h, _ => by simp [chkF] at h
  | _ :: _ :: _, _, .seq _, _, h, _ => by simp [chkF] at h
  | _ :: _ :: _, _, .seq2 _ _, _, h, _ => by simp [chkF] at h
  | _ :: _ :: _, _, .map _ _, _, h, _ => by simp [chkF] at h

theorem arr_sz (e : Ty) : ∀ n, (Ty.arr e n).sz = n * e.sz
  | 0 => by simp [Ty.arr, Ty.sz]
  | 1 => by simp [Ty.arr]
  | n + 2 => by
    simp only [Ty.arr, Ty.sz, arr_sz e (n + 1)]
    rw [Nat.succ_mul (n + 1)]; omega

theorem eqItems_run {T' : Nat} {e : Ty} (hp : partOK P T' e = true) (hr : EqT P dd T' e) (w : World) {ok : Nat → Prop} {xs ys : Array Value} : ∀ (k i : Nat) {x y : (Ty.arr e (k + 1)).den},
    Rep P (Ty.arr e (k + 1)) w ok (chunk xs.toList (i * e.sz) (Ty.arr e (k + 1)).sz) x → Rep P (Ty.arr e (k + 1)) w ok (chunk ys.toList (i * e.sz) (Ty.arr e (k + 1)).sz) y →
    (Op.eqItems dd T' e.sz xs ys (List.range' i (k + 1))).run P w = .ok ((Ty.arr e (k + 1)).beq x y) w
  | 0, i, x, y, hx, hy => by
    have hx : Rep P e w ok (chunk xs.toList (i * e.sz) e.sz) x := hx
    have hy : Rep P e w ok (chunk ys.toList (i * e.sz) e.sz) y := hy
    simp only [List.range'_succ, List.range'_zero, Op.eqItems, Sem.run_bind, part_run hp hx, part_run hp hy, Result.andThen_ok, hr w ok _ _ x y hx hy]
    show _ = Result.ok (e.beq x y) w
    cases e.beq x y <;> simp
  | k + 1, i, (x, x'), (y, y'), hx, hy => by
    obtain ⟨hx1, hx2⟩ := hx
    obtain ⟨hy1, hy2⟩ := hy
    simp only [Ty.arr, Ty.sz] at hx1 hx2 hy1 hy2
    rw [chunk_take] at hx1 hy1
    rw [chunk_drop] at hx2 hy2
    rw [← Nat.succ_mul] at hx2 hy2
    have ih := eqItems_run hp hr w k (i + 1) hx2 hy2
    rw [List.range'_succ, Op.eqItems]
    simp only [Sem.run_bind, part_run hp hx1, part_run hp hy1, Result.andThen_ok, hr w ok _ _ x y hx1 hy1]
    show _ = Result.ok (e.beq x y && (Ty.arr e (k + 1)).beq x' y') w
    cases e.beq x y
    · simp
    · simpa using ih

theorem chkItems_run {T' : Nat} {e : Ty} (hp : partOK P T' e = true) (hr : ChkT P dd T' e) (hs : ∀ w : World, (sizeOf T').run P w = .ok e.sz w) (em : Bool) (w : World) {ok : Nat → Prop} {xs : Array Value} : ∀ (k i : Nat) {x : (Ty.arr e (k + 1)).den},
    Rep P (Ty.arr e (k + 1)) w ok (chunk xs.toList (i * e.sz) (Ty.arr e (k + 1)).sz) x →
    (forIn (m := Sem) (List.range' i (k + 1)) PUnit.unit fun i _ => do Instr.checkKey em dd T' (← Go.part T' xs (i * (← sizeOf T'))); pure (ForInStep.yield PUnit.unit)).run P w = .ok PUnit.unit w
  | 0, i, x, hx => by
    have hx : Rep P e w ok (chunk xs.toList (i * e.sz) e.sz) x := hx
    simp only [List.range'_succ, List.range'_zero, List.forIn_cons, Sem.run_bind, hs, part_run hp hx, Result.andThen_ok, hr w ok _ x em hx, Sem.run_pure, List.forIn_nil]
  | k + 1, i, (x, x'), hx => by
    obtain ⟨hx1, hx2⟩ := hx
    simp only [Ty.arr, Ty.sz] at hx1 hx2
    rw [chunk_take] at hx1
    rw [chunk_drop] at hx2
    rw [← Nat.succ_mul] at hx2
    have ih := chkItems_run hp hr hs em w k (i + 1) hx2
    rw [List.range'_succ, List.forIn_cons]
    simp only [Sem.run_bind, hs, part_run hp hx1, Result.andThen_ok, hr w ok _ x em hx1, Sem.run_pure]
    exact ih
end

theorem chunk_all (vs : Array Value) (t : Ty) {ok : Nat → Prop} {x : t.den} (h : Rep P t w ok vs.toList x) : chunk vs.toList 0 t.sz = vs.toList := by
  unfold chunk
  rw [List.drop_zero, List.take_of_length_le]
  have := h.len
  omega

theorem pair_val {t : Ty} (hp : t.isPair = true) (vs : List Value) : t.val vs = .agg vs.toArray := by
  unfold Ty.val; rw [hp]; rfl

theorem arr_ne {a b e : Ty} {n : Nat} (h : Ty.pair a b = Ty.arr e n) (hn : e.sz ≠ 0 ∨ True) : 1 ≤ n := by
  cases n with
  | zero => cases h
  | succ n => omega

theorem chkEq_ok : ∀ (d : Nat) (T : Nat) (t : Ty), chkEq P d T t = true → ∀ m, EqT P (m + d) T t ∧ ChkT P (m + d) T t
  | 0, _, _, h, _ => by simp [chkEq] at h
  | d + 1, T, t, h, m => by
    unfold chkEq at h
    split at h
    · rename_i k hu
      have ht := of_decide_eq_true h
      subst ht
      refine ⟨fun w ok vs us x y hx hy => ?_, fun w ok vs x b hx => ?_⟩
      · simp only [Rep] at hx hy
        subst hx
        subst hy
        show (Op.equalIn (m + d + 1) T (.int k x) (.int k y)).run P w = .ok (x == y) w
        simp [Op.equalIn, run_underlying hu]
      · simp only [Rep] at hx
        subst hx
        show (Instr.checkKey b (m + d + 1) T (.int k x)).run P w = _
        simp only [Instr.checkKey, Sem.run_bind, run_underlying hu, Result.andThen_ok]
        rfl
    · rename_i hu
      have ht := of_decide_eq_true h
      subst ht
      refine ⟨fun w ok vs us x y hx hy => ?_, fun w ok vs x b hx => ?_⟩
      · simp only [Rep] at hx hy
        subst hx
        subst hy
        show (Op.equalIn (m + d + 1) T (.bool x) (.bool y)).run P w = .ok (x == y) w
        simp [Op.equalIn, run_underlying hu]
      · simp only [Rep] at hx
        subst hx
        show (Instr.checkKey b (m + d + 1) T (.bool x)).run P w = _
        simp only [Instr.checkKey, Sem.run_bind, run_underlying hu, Result.andThen_ok]
        rfl
    · rename_i hu
      have ht := of_decide_eq_true h
      subst ht
      refine ⟨fun w ok vs us x y hx hy => ?_, fun w ok vs x b hx => ?_⟩
      · simp only [Rep] at hx hy
        subst hx
        subst hy
        show (Op.equalIn (m + d + 1) T (.string ⟨⟨x⟩⟩) (.string ⟨⟨y⟩⟩)).run P w = .ok (x == y) w
        simp only [Op.equalIn, Sem.run_bind, run_underlying hu, Result.andThen_ok, beq_bytes, Sem.run_pure]
      · simp only [Rep] at hx
        subst hx
        show (Instr.checkKey b (m + d + 1) T (.string ⟨⟨x⟩⟩)).run P w = _
        simp only [Instr.checkKey, Sem.run_bind, run_underlying hu, Result.andThen_ok]
        rfl
    · rename_i fs hu
      simp only [Bool.and_eq_true, Bool.not_eq_true'] at h
      obtain ⟨⟨hp, hst⟩, hF⟩ := h
      have hfs : P.fieldsOf T = fs := by simp [Program.fieldsOf, hu]
      refine ⟨fun w ok vs us x y hx hy => ?_, fun w ok vs x b hx => ?_⟩
      · rw [pair_val hp, pair_val hp, show m + (d + 1) = (m + d) + 1 from rfl, run_equalIn_struct w (m + d) T _ _ (by rw [hfs]; exact hu) hst, hfs]
        refine eqFields_run (ok := ok) (fun T t ht => (chkEq_ok d T t ht m).1) w fs.toList 0 t hF ?_ ?_
        · rw [chunk_all (ok := ok) (x := x) vs.toArray t hx]; exact hx
        · rw [chunk_all (ok := ok) (x := y) us.toArray t hy]; exact hy
      · rw [pair_val hp, show m + (d + 1) = (m + d) + 1 from rfl, Instr.checkKey]
        simp only [Sem.run_bind, run_underlying hu, Result.andThen_ok]
        rw [← Array.forIn_toList]
        have := chkFields_run (ok := ok) (dd := m + d) (xs := vs.toArray) (fun T t ht => (chkEq_ok d T t ht m).2) b w fs.toList 0 t hF (by rw [chunk_all (ok := ok) (x := x) vs.toArray t hx]; exact hx)
        rw [this]
        rfl
    · rename_i n T' hu
      split at h
      · rename_i e r
        simp only [Bool.and_eq_true] at h
        obtain ⟨⟨⟨ht, hpt⟩, hrec⟩, hsz⟩ := h
        have ht := of_decide_eq_true ht
        have hn : 1 ≤ n := arr_ne ht (.inr trivial)
        obtain ⟨k, rfl⟩ : ∃ k, n = k + 1 := ⟨n - 1, by omega⟩
        cases hi : P.info? T' with
        | none => rw [hi] at hsz; cases hsz
        | some i =>
          rw [hi] at hsz
          have hsi := nbeq_true hsz
          have hc : P.cellsOf T' = e.sz := by simp [Program.cellsOf, hi, hsi]
          obtain ⟨ih1, ih2⟩ := chkEq_ok d T' e hrec m
          refine ⟨fun w ok vs us x y hx hy => ?_, fun w ok vs x b hx => ?_⟩
          · rw [pair_val rfl, pair_val rfl, show m + (d + 1) = (m + d) + 1 from rfl, run_equalIn_array w (m + d) _ _ hu hi, hc, List.range_eq_range']
            revert x y
            rw [ht]
            intro x y hx hy
            refine eqItems_run (ok := ok) hpt ih1 w k 0 ?_ ?_
            · rw [Nat.zero_mul, chunk_all (ok := ok) (x := x) vs.toArray _ hx]; exact hx
            · rw [Nat.zero_mul, chunk_all (ok := ok) (x := y) us.toArray _ hy]; exact hy
          · rw [pair_val rfl, show m + (d + 1) = (m + d) + 1 from rfl, Instr.checkKey]
            simp only [Sem.run_bind, run_underlying hu, Result.andThen_ok]
            simp only [Std.Legacy.Range.forIn_eq_forIn_range', Std.Legacy.Range.size, Nat.sub_zero, Nat.add_one_sub_one, Nat.div_one]
            revert x
            rw [ht]
            intro x hx
            have := chkItems_run (ok := ok) (dd := m + d) (xs := vs.toArray) hpt ih2 (fun w => by simp [sizeOf, typeInfo, hi, hsi]) b w k 0 (by rw [Nat.zero_mul, chunk_all (ok := ok) (x := x) vs.toArray _ hx]; exact hx)
            rw [this]
            rfl
      · cases h
    · cases h

theorem chkEq_eqs : ∀ (d : Nat) (T : Nat) (t : Ty), chkEq P d T t = true → t.eqs = true
  | 0, _, _, h => by simp [chkEq] at h
  | d + 1, T, t, h => by
    have arr : ∀ (e : Ty) (n : Nat), e.eqs = true → (Ty.arr e (n + 1)).eqs = true := by
      intro e n he
      induction n with
      | zero => exact he
      | succ n ih => simp only [Ty.arr, Ty.eqs, he, ih, Bool.and_self]
    have fld : ∀ (fs : List Field) (off : Nat) (t : Ty), chkF (chkEq P d) P fs off t = true → t.eqs = true := by
      intro fs
      induction fs with
      | nil => intro off t h; simp [chkF] at h
      | cons f fs ih =>
        intro off t h
        cases fs with
        | nil =>
          simp only [chkF, Bool.and_eq_true] at h
          exact chkEq_eqs d f.type t h.2
        | cons g r =>
          cases t <;> simp only [chkF, Bool.and_eq_true, Bool.false_eq_true] at h <;> try (exact h.elim)
          rename_i a b
          simp only [Ty.eqs, Bool.and_eq_true]
          exact ⟨chkEq_eqs d f.type a h.1.2, ih _ b h.2⟩
    unfold chkEq at h
    split at h
    · rw [of_decide_eq_true h]; rfl
    · rw [of_decide_eq_true h]; rfl
    · rw [of_decide_eq_true h]; rfl
    · simp only [Bool.and_eq_true] at h
      exact fld _ _ _ h.2
    · rename_i n T' hu
      split at h
      · rename_i e r
        simp only [Bool.and_eq_true] at h
        have ht := of_decide_eq_true h.1.1.1
        have hn := arr_ne ht (.inr trivial)
        obtain ⟨k, rfl⟩ : ∃ k, n = k + 1 := ⟨n - 1, by omega⟩
        rw [ht]
        exact arr e k (chkEq_eqs d T' e h.1.2)
      · cases h
    · cases h

theorem beq_symm : (t : Ty) → t.eqs = true → (x y : t.den) → t.beq x y = t.beq y x
  | .int _, _, x, y => (BEq.comm : ((x : Int) == y) = (y == x))
  | .bool, _, x, y => (BEq.comm : ((x : Bool) == y) = (y == x))
  | .str, _, x, y => (BEq.comm : ((x : List UInt8) == y) = (y == x))
  | .pair a b, h, (x, x'), (y, y') => by
    simp only [Ty.eqs, Bool.and_eq_true] at h
    simp only [Ty.beq, beq_symm a h.1 x y, beq_symm b h.2 x' y']
  | .unit, h, _, _ => by cases h
  | .slice _, h, _, _ => by cases h
  | .fn1 _ _, h, _, _ => by cases h
  | .fn2 _ _ _, h, _, _ => by cases h
  | .seq _, h, _, _ => by cases h
  | .seq2 _ _, h, _, _ => by cases h
  | .map _ _, h, _, _ => by cases h

theorem findAsking_run {K : Nat} {k : Ty} (he : EqT P 10000 K k) (hq : k.eqs = true) (w : World) {ok : Nat → Prop} {ks : List Value} {x : k.den} (hx : Rep P k w ok ks x) : ∀ (ys : List k.den) (es : List MapEntry) (j : Nat), es.length = ys.length →
    (∀ (i : Nat) y e, ys[i]? = some y → es[i]? = some e → ∃ us, e.key = k.val us ∧ Rep P k w ok us y) → (Instr.findAsking K (k.val ks) es j).run P w = .ok (findR k x ys es j) w
  | [], [], j, _, _ => by simp [Instr.findAsking, findR]
  | [], _ :: _, _, h, _ => by simp at h
  | _ :: _, [], _, h, _ => by simp at h
  | y :: ys, e :: es, j, h, hr => by
    obtain ⟨us, h1, h2⟩ := hr 0 y e rfl rfl
    have ih := findAsking_run he hq w hx ys es (j + 1) (by simpa using h) (fun i z f hz hf => hr (i + 1) z f (by simpa using hz) (by simpa using hf))
    have hb : (Op.equal K (k.val ks) e.key).run P w = .ok (k.beq y x) w := by
      rw [h1, beq_symm k hq]
      exact he w ok ks us x y hx h2
    simp only [Instr.findAsking, Sem.run_bind, hb, Result.andThen_ok, findR]
    cases k.beq y x
    · simpa using ih
    · simp

theorem keyOK_gen {K : Nat} {k : Ty} {d : Nat} (hd : d ≤ 10000) (h : chkEq P d K k = true) : KeyOK P K k := by
  obtain ⟨h1, h2⟩ := chkEq_ok d K k h (10000 - d)
  rw [show 10000 - d + d = 10000 by omega] at h1 h2
  have hq := chkEq_eqs d K k h
  refine ⟨hq, h2' h2, fun w ok ks x ys es hx hl hr => ?_⟩
  have hask := findAsking_run h1 hq w hx ys es 0 hl hr
  have now : ∀ (D : TypeDesc) (ys : List k.den) (es : List MapEntry) (j : Nat) r, es.length = ys.length → (∀ (i : Nat) y e, ys[i]? = some y → es[i]? = some e → ∃ us, e.key = k.val us ∧ Rep P k w ok us y) →
      Instr.findNow D (k.val ks) es j = some r → r = findR k x ys es j := by
    intro D ys
    induction ys with
    | nil =>
      intro es j r hl _ hf
      match es, hl with
      | [], _ => simp [Instr.findNow] at hf; simp [findR, hf]
    | cons y ys ih =>
      intro es j r hl hr hf
      match es, hl with
      | e :: es, hl =>
        obtain ⟨us, g1, g2⟩ := hr 0 y e rfl rfl
        have hs : ∀ b, Instr.sameNow D (k.val ks) e.key = some b → b = k.beq y x := by
          intro b hb
          rw [g1] at hb
          cases k <;> try (cases hq; done)
          · simp only [Rep] at hx g2
            subst hx
            subst g2
            simp only [Ty.val, Ty.isPair, Bool.false_eq_true, if_false, List.headD_cons] at hb
            unfold Instr.sameNow at hb
            split at hb
            · rename_i q k1 a k2 b' e1 e2
              cases e1
              cases e2
              simp at hb
              rw [← hb]
              exact BEq.comm
            · rename_i e1 _; cases e1
            · rename_i e1 _; cases e1
            · cases hb
          · simp only [Rep] at hx g2
            subst hx
            subst g2
            simp only [Ty.val, Ty.isPair, Bool.false_eq_true, if_false, List.headD_cons] at hb
            unfold Instr.sameNow at hb
            split at hb
            · rename_i e1 _; cases e1
            · rename_i e1 _; cases e1
            · rename_i e1 e2
              cases e1
              cases e2
              simp at hb
              rw [← hb]
              exact BEq.comm
            · cases hb
          · simp only [Rep] at hx g2
            subst hx
            subst g2
            simp only [Ty.val, Ty.isPair, Bool.false_eq_true, if_false, List.headD_cons] at hb
            unfold Instr.sameNow at hb
            split at hb
            · rename_i e1 _; cases e1
            · rename_i e1 e2
              cases e1
              cases e2
              simp only [Option.some.injEq] at hb
              rw [← hb, beq_bytes]
              exact BEq.comm
            · rename_i e1 _; cases e1
            · cases hb
          · rw [pair_val rfl, pair_val rfl] at hb
            unfold Instr.sameNow at hb
            split at hb
            · rename_i e1 _; cases e1
            · rename_i e1 _; cases e1
            · rename_i e1 _; cases e1
            · cases hb
        unfold Instr.findNow at hf
        cases hb : Instr.sameNow D (k.val ks) e.key with
        | none => rw [hb] at hf; cases hf
        | some b =>
          rw [hb] at hf
          have hbb := hs b hb
          unfold findR
          rw [← hbb]
          cases b
          · exact ih es (j + 1) r (by simpa using hl) (fun i z f hz hf => hr (i + 1) z f (by simpa using hz) (by simpa using hf)) hf
          · cases hf; rfl
  cases hu : P.underlying K with
  | none =>
    have : chkEq P d K k = false := by
      cases d with
      | zero => rfl
      | succ d => simp [chkEq, hu]
    rw [this] at h
    cases h
  | some D =>
    simp only [Instr.findKey, Sem.run_bind, run_underlying hu, Result.andThen_ok]
    cases hf : Instr.findNow D (k.val ks) es 0 with
    | none => exact hask
    | some r =>
      rw [now D ys es 0 r hl hr hf]
      rfl
where
  h2' {K : Nat} {k : Ty} (h : ChkT P 10000 K k) (w : World) (ok : Nat → Prop) (ks : List Value) (x : k.den) (b : Bool) (hr : Rep P k w ok ks x) : (Instr.checkKey b 10000 K (k.val ks)).run P w = .ok () w := h w ok ks x b hr

theorem beqTy_eqs : (t : Ty) → {x y : t.den} → {r : Bool} → beqTy t x y = some r → r = t.beq x y
  | .int _, _, _, _, h => by cases h; rfl
  | .bool, _, _, _, h => by cases h; rfl
  | .str, _, _, _, h => by cases h; rfl
  | .pair a b, (x, x'), (y, y'), r, h => by
    simp only [beqTy] at h
    cases h1 : beqTy a x y with
    | none => rw [h1] at h; cases h
    | some p =>
      cases h2 : beqTy b x' y' with
      | none => rw [h1, h2] at h; cases h
      | some q =>
        rw [h1, h2] at h
        cases h
        rw [beqTy_eqs a h1, beqTy_eqs b h2]
        rfl
  | .unit, _, _, _, h => by cases h
  | .slice _, _, _, _, h => by cases h
  | .fn1 _ _, _, _, _, h => by cases h
  | .fn2 _ _ _, _, _, _, h => by cases h
  | .seq _, _, _, _, h => by cases h
  | .seq2 _ _, _, _, _, h => by cases h
  | .map _ _, _, _, _, h => by cases h

/-- What is asked of a type that is compared. -/
def EqOK (P : Program) (T : Nat) (t : Ty) : Prop :=
  ∀ w ok vs vs' d d' r, Rep P t w ok vs d → Rep P t w ok vs' d' → beqTy t d d' = some r → ∀ (x y : Operand),
    (do eqGuard .eql T x y (t.val vs) (t.val vs'); Go.binOp .eql T (t.val vs) (t.val vs')).run P w = .ok (.bool r) w ∧
    (do eqGuard .neq T x y (t.val vs) (t.val vs'); Go.binOp .neq T (t.val vs) (t.val vs')).run P w = .ok (.bool (!r)) w

theorem eqOK_gen {T : Nat} {t : Ty} {d : Nat} (hd : d ≤ 10000) (h : chkEq P d T t = true) (hp : t.isPair = true) (hg : P.eqGuardType P.depth T = false) : EqOK P T t := by
  obtain ⟨h1, _⟩ := chkEq_ok d T t h (10000 - d)
  rw [show 10000 - d + d = 10000 by omega] at h1
  intro w ok vs vs' x y r hv hv' hr a b
  have hr := beqTy_eqs t hr
  have run := h1 w ok vs vs' x y hv hv'
  rw [pair_val hp, pair_val hp] at run ⊢
  constructor
  · rw [Sem.run_bind, run_eqGuard_agg w .eql T a b _ _ hg, Result.andThen_ok, run_eql_struct, run, hr]; rfl
  · rw [Sem.run_bind, run_eqGuard_agg w .neq T a b _ _ hg, Result.andThen_ok, run_neq_struct, run, hr]; rfl

end Go.Abs

set_option linter.unusedSimpArgs false
set_option linter.unusedVariables false
namespace Go.Abs
open Go
variable {P : Program}

def veq1 : Value → Value → Bool
  | .bool a, .bool b => a == b
  | .int k n, .int j m => decide (k = j) && decide (n = m)
  | .string a, .string b => decide (a.data.toList = b.data.toList)
  | .slice none a b, .slice none c d => Nat.beq a c && Nat.beq b d
  | .nilFunc, .nilFunc => true
  | .map none, .map none => true
  | _, _ => false

theorem veq1_eq {a b : Value} (h : veq1 a b = true) : a = b := by
  unfold veq1 at h
  split at h
  · have := eq_of_beq h; rw [this]
  · simp only [Bool.and_eq_true, decide_eq_true_eq] at h; rw [h.1, h.2]
  · rename_i a b
    have : a.data.toList = b.data.toList := of_decide_eq_true h
    obtain ⟨⟨a⟩⟩ := a
    obtain ⟨⟨b⟩⟩ := b
    simp at this
    rw [this]
  · simp only [Bool.and_eq_true] at h
    rw [nbeq_true h.1, nbeq_true h.2]
  · rfl
  · rfl
  · cases h

def veqL : List Value → List Value → Bool
  | [], [] => true
  | a :: l, b :: m => veq1 a b && veqL l m
  | _, _ => false

theorem veqL_eq : {l m : List Value} → veqL l m = true → l = m
  | [], [], _ => rfl
  | a :: l, b :: m, h => by
    simp only [veqL, Bool.and_eq_true] at h
    rw [veq1_eq h.1, veqL_eq h.2]
  | [], _ :: _, h => by cases h
  | _ :: _, [], h => by cases h

def veq : Value → Value → Bool
  | .agg a, .agg b => veqL a.toList b.toList
  | a, b => veq1 a b

theorem veq_eq {a b : Value} (h : veq a b = true) : a = b := by
  unfold veq at h
  split at h
  · rename_i a b
    have := veqL_eq h
    rw [show a = b from Array.toList_inj.1 this]
  · exact veq1_eq h

def chkEl (P : Program) (T : Nat) (t : Ty) : Bool :=
  match P.info? T with
  | some i => Nat.beq i.size t.sz && Nat.ble i.bytes 32768 && (match i.zero with | some z => veq z (t.val (zeroVals t)) | none => false) && Nat.blt 0 t.sz
  | none => false

theorem chkEl_ok {T : Nat} {t : Ty} (h : chkEl P T t = true) : ElOK P T t := by
  unfold chkEl at h
  split at h
  · rename_i i hi
    simp only [Bool.and_eq_true] at h
    obtain ⟨⟨⟨h1, h2⟩, h3⟩, h4⟩ := h
    refine ⟨i, hi, nbeq_true h1, Nat.le_of_ble_eq_true h2, ?_, Nat.le_of_ble_eq_true h4⟩
    split at h3
    · rename_i z hz
      rw [hz, veq_eq h3]
    · cases h3
  · cases h

def chkFields (P : Program) (te : TyE) : Nat → List Field → Bool
  | _, [] => true
  | i, f :: r => (match offOf te.nf i te.ty with | some o => Nat.beq o f.offset | none => false) && (match P.info? f.type with | some inf => !Nat.beq inf.size 0 | none => false) && chkFields P te (i + 1) r

theorem chkFields_ok {te : TyE} : (l : List Field) → (i : Nat) → chkFields P te i l = true → ∀ k f, l[k]? = some f → offOf te.nf (i + k) te.ty = some f.offset ∧ ∃ inf, P.info? f.type = some inf ∧ inf.size ≠ 0
  | [], i, h, k, f, hf => by simp at hf
  | g :: r, i, h, k, f, hf => by
    simp only [chkFields, Bool.and_eq_true] at h
    cases k with
    | zero =>
      simp only [List.getElem?_cons_zero, Option.some.injEq] at hf
      subst hf
      obtain ⟨⟨h1, h2⟩, _⟩ := h
      refine ⟨?_, ?_⟩
      · split at h1
        · rename_i o ho
          rw [Nat.add_zero, ho, nbeq_true h1]
        · cases h1
      · split at h2
        · rename_i inf hinf
          refine ⟨inf, hinf, fun e => ?_⟩
          rw [e] at h2
          cases h2
        · cases h2
    | succ k =>
      have := chkFields_ok r (i + 1) h.2 k f (by simpa using hf)
      rw [show i + 1 + k = i + (k + 1) from by omega] at this
      exact this

def chkPlaces (P : Program) : List Field → List (Nat × Nat) → Bool
  | [], [] => true
  | f :: r, (o, n) :: q => (match P.info? f.type with | some i => Nat.beq f.offset o && Nat.beq i.size n | none => false) && chkPlaces P r q
  | _, _ => false

theorem chkPlaces_ok : (l : List Field) → (q : List (Nat × Nat)) → chkPlaces P l q = true → l.mapM (fun f => (P.info? f.type).map fun i => (f.offset, i.size)) = some q
  | [], [], _ => rfl
  | f :: r, (o, n) :: q, h => by
    simp only [chkPlaces, Bool.and_eq_true] at h
    obtain ⟨h1, h2⟩ := h
    split at h1
    · rename_i i hi
      simp only [Bool.and_eq_true] at h1
      rw [List.mapM_cons, hi, chkPlaces_ok r q h2]
      have e1 := nbeq_true h1.1
      have e2 := nbeq_true h1.2
      subst e1
      subst e2
      rfl
    · cases h1
  | [], _ :: _, h => by cases h
  | _ :: _, [], h => by simp [chkPlaces] at h

def chkBytes (P : Program) (T : Nat) : Ty → Bool
  | .slice (.int .u8) => match P.underlying T with
    | some (.slice T') => match P.underlying T' with
      | some (.int .u8) => true
      | _ => false
    | _ => false
  | _ => true

theorem chkBytes_ok {T : Nat} {t : Ty} (h : chkBytes P T t = true) (ht : t = .slice (.int .u8)) : ∃ T', P.underlying T = some (.slice T') ∧ P.underlying T' = some (.int .u8) := by
  subst ht
  simp only [chkBytes] at h
  split at h
  · rename_i T' hT
    split at h
    · rename_i hu
      exact ⟨T', hT, hu⟩
    · cases h
  · cases h

def chkKey (P : Program) (K : Nat) (k : Ty) : Bool := chkEq P 40 K k

theorem chkKey_ok {K : Nat} {t : Ty} (h : chkKey P K t = true) : KeyOK P K t := keyOK_gen (by decide) h

def chkTy (P : Program) (T : Nat) (te : TyE) : Bool :=
  chkEl P T te.ty && chkBytes P T te.ty && (!te.arr || te.ty.isPair) && match P.underlying T, te.ty with
    | some (.int k), .int k' => decide (k = k')
    | some .bool, .bool => true
    | some .string, .str => true
    | some (.slice T'), .slice e => chkEl P T' e
    | some (.array n T'), .pair e _ => te.arr && decide (te.ty = Ty.arr e n) && Nat.beq te.nf n && chkEl P T' e
    | some (.struct fs), .pair _ _ => !te.arr && Nat.beq fs.size te.nf && chkFields P te 0 fs.toList && chkPlaces P fs.toList (placesOf te.nf te.ty)
    | some (.func _ _ _), .fn1 _ _ => true
    | some (.func _ _ _), .fn2 _ _ _ => true
    | some (.func _ _ _), .seq _ => true
    | some (.func _ _ _), .seq2 _ _ => true
    | some (.map K V), .map k v => chkKey P K k && chkEl P V v
    | _, _ => false

theorem chkTy_ok {T : Nat} {te : TyE} (h : chkTy P T te = true) : TyOK P T te := by
  unfold chkTy at h
  simp only [Bool.and_eq_true] at h
  obtain ⟨⟨⟨h1, hby⟩, har⟩, h2⟩ := h
  have har : te.arr = true → te.ty.isPair = true := fun h => by rw [h] at har; simpa using har
  have hi := chkEl_ok h1
  have hby := chkBytes_ok hby
  have no : ∀ {d : TypeDesc}, P.underlying T = some d → (∀ fs, d ≠ .struct fs) → ∀ fs, P.underlying T = some (.struct fs) → (∀ i f, fs[i]? = some f → offOf te.nf i te.ty = some f.offset ∧ ∃ inf, P.info? f.type = some inf ∧ inf.size ≠ 0) ∧
      fs.toList.mapM (fun f => (P.info? f.type).map fun i => (f.offset, i.size)) = some (placesOf te.nf te.ty) := by
    intro d hd hn fs hfs
    rw [hd] at hfs
    cases hfs
    exact absurd rfl (hn fs)
  split at h2
  · rename_i k k' hu ht
    have hk : k = k' := of_decide_eq_true h2
    subst hk
    exact ⟨hi, by rw [ht]; exact hu, no hu (fun _ e => (by cases e)), har, hby⟩
  · rename_i hu ht
    exact ⟨hi, by rw [ht]; exact hu, no hu (fun _ e => (by cases e)), har, hby⟩
  · rename_i hu ht
    exact ⟨hi, by rw [ht]; exact hu, no hu (fun _ e => (by cases e)), har, hby⟩
  · rename_i T' e hu ht
    exact ⟨hi, by rw [ht]; exact ⟨T', hu, chkEl_ok h2⟩, no hu (fun _ e => (by cases e)), har, hby⟩
  · rename_i n T' e r hu ht
    simp only [Bool.and_eq_true] at h2
    obtain ⟨⟨⟨g0, g1⟩, g2⟩, g3⟩ := h2
    refine ⟨hi, ?_, no hu (fun _ e => (by cases e)), har, hby⟩
    have g1 := of_decide_eq_true g1
    rw [ht]
    dsimp only
    rw [g0]
    exact ⟨n, T', e, hu, by rw [← g1, ht], nbeq_true g2, chkEl_ok g3⟩
  · rename_i fs a b hu ht
    simp only [Bool.and_eq_true, Bool.not_eq_true'] at h2
    obtain ⟨⟨⟨g0, g1⟩, g2⟩, g3⟩ := h2
    refine ⟨hi, by rw [ht]; dsimp only; rw [g0]; exact ⟨fs, hu, nbeq_true g1⟩, fun fs' hfs => ?_, har, hby⟩
    rw [hu] at hfs
    cases hfs
    refine ⟨fun i f hf => ?_, chkPlaces_ok _ _ g3⟩
    have := chkFields_ok fs.toList 0 g2 i f (by simpa using hf)
    rwa [Nat.zero_add] at this
  · rename_i p q r a b hu ht
    exact ⟨hi, by rw [ht]; exact ⟨p, q, r, hu⟩, no hu (fun _ e => (by cases e)), har, hby⟩
  · rename_i p q r a b c hu ht
    exact ⟨hi, by rw [ht]; exact ⟨p, q, r, hu⟩, no hu (fun _ e => (by cases e)), har, hby⟩
  · rename_i p q r a hu ht
    exact ⟨hi, by rw [ht]; exact ⟨p, q, r, hu⟩, no hu (fun _ e => (by cases e)), har, hby⟩
  · rename_i p q r a b hu ht
    exact ⟨hi, by rw [ht]; exact ⟨p, q, r, hu⟩, no hu (fun _ e => (by cases e)), har, hby⟩
  · rename_i K V k v hu ht
    simp only [Bool.and_eq_true] at h2
    exact ⟨hi, by rw [ht]; exact ⟨K, V, hu, chkKey_ok h2.1, chkEl_ok h2.2⟩, no hu (fun _ e => (by cases e)), har, hby⟩
  · cases h2

def chkG (P : Program) (G : List (Nat × TyE)) : Bool := G.all fun p => chkTy P p.1 p.2

theorem env_nil {G : List (Nat × TyE)} (h : chkG P G = true) : EnvOK P ⟨G, [], [], [], []⟩ where
  ty := fun T te hT => chkTy_ok (List.all_eq_true.1 h _ (Map.get_mem hT))
  con := (fun f c h => (by cases h))
  it := (fun f c h => (by cases h))
  mu := (fun f c h => (by cases h))
  eq := (fun f c h => (by cases h))

theorem env_add {G : List (Nat × TyE)} {C : List (Nat × Con)} {Q : List (Nat × Ty)} {I : List (Nat × ICon)} {M : List (Nat × MCon)} (h : EnvOK P ⟨G, C, Q, I, M⟩) {f : Nat} {c : Con} (hc : ConOK P f c) : EnvOK P ⟨G, (f, c) :: C, Q, I, M⟩ where
  ty := h.ty
  con := fun g d hg => by
    simp only [Map.get, nbeq] at hg
    by_cases e : f = g
    · subst e
      simp at hg
      subst hg
      exact hc
    · simp [e] at hg
      exact h.con g d hg
  it := h.it
  mu := h.mu
  eq := h.eq

theorem env_it {G : List (Nat × TyE)} {C : List (Nat × Con)} {Q : List (Nat × Ty)} {I : List (Nat × ICon)} {M : List (Nat × MCon)} (h : EnvOK P ⟨G, C, Q, I, M⟩) {f : Nat} {c : ICon} (hc : IConOK P f c) : EnvOK P ⟨G, C, Q, (f, c) :: I, M⟩ where
  ty := h.ty
  con := h.con
  it := fun g d hg => by
    simp only [Map.get, nbeq] at hg
    by_cases e : f = g
    · subst e
      simp at hg
      subst hg
      exact hc
    · simp [e] at hg
      exact h.it g d hg
  mu := h.mu
  eq := h.eq

theorem env_mu {G : List (Nat × TyE)} {C : List (Nat × Con)} {Q : List (Nat × Ty)} {I : List (Nat × ICon)} {M : List (Nat × MCon)} (h : EnvOK P ⟨G, C, Q, I, M⟩) {f : Nat} {c : MCon} (hc : MConOK P f c) : EnvOK P ⟨G, C, Q, I, (f, c) :: M⟩ where
  ty := h.ty
  con := h.con
  it := h.it
  mu := fun g d hg => by
    simp only [Map.get, nbeq] at hg
    by_cases e : f = g
    · subst e
      simp at hg
      subst hg
      exact hc
    · simp [e] at hg
      exact h.mu g d hg
  eq := h.eq

theorem env_eq {G : List (Nat × TyE)} {C : List (Nat × Con)} {Q : List (Nat × Ty)} {I : List (Nat × ICon)} {M : List (Nat × MCon)} (h : EnvOK P ⟨G, C, Q, I, M⟩) {T : Nat} {t : Ty} (hq : EqOK P T t) : EnvOK P ⟨G, C, (T, t) :: Q, I, M⟩ where
  ty := h.ty
  con := h.con
  it := h.it
  mu := h.mu
  eq := fun U u hu => by
    simp only [Map.get, nbeq] at hu
    by_cases e : T = U
    · subst e
      simp at hu
      subst hu
      exact hq
    · simp [e] at hu
      exact h.eq U u hu

end Go.Abs

set_option linter.unusedSimpArgs false
set_option linter.unusedVariables false
namespace Go.Abs
open Go
variable {P : Program} {E : Env} {R : Type} {H : Hdl R} {i : Bool}

def bd (f : Func) : Code := match f.body with
  | some c => c
  | none => .skip

/-- The outer loops. -/
def loopsOf : Code → List Code
  | .seq a b => loopsOf a ++ loopsOf b
  | .cond _ a b => loopsOf a ++ loopsOf b
  | .block _ c => loopsOf c
  | .loop c => [.loop c]
  | .rangeFunc g ps a b => [.rangeFunc g ps a b]
  | _ => []

def nth : List Code → Nat → Code
  | [], _ => .skip
  | c :: _, 0 => c
  | _ :: r, n + 1 => nth r n

def lp (c : Code) (i : Nat) : Code := nth (loopsOf c) i

/-- What is looped. -/
def inn : Code → Code
  | .loop c => c
  | _ => .skip

def isLoop : Code → Bool
  | .loop _ => true
  | _ => false

def rgG : Code → Operand
  | .rangeFunc g _ _ _ => g
  | _ => .func 0
def rgA : Code → Code
  | .rangeFunc _ _ a _ => a
  | _ => .skip
def rgB : Code → Code
  | .rangeFunc _ _ _ b => b
  | _ => .skip

def isRange (p : Nat) : Code → Bool
  | .rangeFunc _ ps _ _ => match ps.toList with
    | [q] => Nat.beq q p
    | _ => false
  | _ => false

theorem isLoop_eq {w : Code} (h : isLoop w = true) : w = .loop (inn w) := by
  cases w <;> first | rfl | cases h

theorem isRange_eq {p : Nat} {w : Code} (h : isRange p w = true) : w = .rangeFunc (rgG w) #[p] (rgA w) (rgB w) := by
  cases w <;> try (cases h; done)
  rename_i g ps a b
  simp only [isRange] at h
  split at h
  · rename_i q hq
    have := nbeq_true h
    subst this
    have : ps = #[q] := by rw [← Array.toArray_toList (xs := ps), hq]
    subst this
    rfl
  · cases h

def SndL (P : Program) (H : Hdl R) (i : Bool) (l : List Code) : Nat → List (Ev R) → Prop
  | _, [] => True
  | n, f :: r => Sound P H i (nth l n) f ∧ SndL P H i l (n + 1) r

theorem loopsOf_len : (c : Code) → (loopsOf c).length = loops c
  | .seq a b => by simp [loopsOf, loops, loopsOf_len a, loopsOf_len b]
  | .cond _ a b => by simp [loopsOf, loops, loopsOf_len a, loopsOf_len b]
  | .block _ c => by simp [loopsOf, loops, loopsOf_len c]
  | .loop c => rfl
  | .skip => rfl
  | .region .. => rfl
  | .exit _ => rfl
  | .ret => rfl
  | .rangeFunc _ _ _ _ => rfl
  | .scope _ => rfl
  | .label _ => rfl
  | .goto _ => rfl
  | .refuse _ => rfl

theorem SndL.get {l : List Code} : {O : List (Ev R)} → {n : Nat} → SndL P H i l n O → ∀ k f, O[k]? = some f → Sound P H i (nth l (n + k)) f
  | [], n, h, k, f, hf => by simp at hf
  | g :: r, n, ⟨h1, h2⟩, 0, f, hf => by
    simp at hf
    subst hf
    exact h1
  | g :: r, n, ⟨h1, h2⟩, k + 1, f, hf => by
    have := SndL.get h2 k f (by simpa using hf)
    rwa [show n + 1 + k = n + (k + 1) from by omega] at this

theorem nth_append_left {l m : List Code} : {i : Nat} → i < l.length → nth (l ++ m) i = nth l i := by
  induction l with
  | nil => intro i h; simp at h
  | cons c l ih =>
    intro i h
    cases i with
    | zero => rfl
    | succ i => exact ih (by simpa using h)

theorem nth_append_right {l m : List Code} (i : Nat) : nth (l ++ m) (l.length + i) = nth m i := by
  induction l with
  | nil => simp
  | cons c l ih =>
    rw [List.length_cons, show l.length + 1 + i = (l.length + i) + 1 from by omega]
    exact ih

theorem osOK_aux : (c : Code) → (O : List (Ev R)) → (∀ k f, k < loops c → O[k]? = some f → Sound P H i (nth (loopsOf c) k) f) → OsOK P H i c O
  | .seq a b, O, h => by
    refine ⟨osOK_aux a _ fun i f hi hf => ?_, osOK_aux b _ fun i f hi hf => ?_⟩
    · rw [List.getElem?_take_of_lt hi] at hf
      have := h i f (by simp [loops]; omega) hf
      rw [loopsOf, nth_append_left (by rw [loopsOf_len]; exact hi)] at this
      exact this
    · rw [List.getElem?_drop] at hf
      have := h _ f (by simp [loops]; omega) hf
      rw [loopsOf, ← loopsOf_len a, nth_append_right] at this
      exact this
  | .cond _ a b, O, h => by
    refine ⟨osOK_aux a _ fun i f hi hf => ?_, osOK_aux b _ fun i f hi hf => ?_⟩
    · rw [List.getElem?_take_of_lt hi] at hf
      have := h i f (by simp [loops]; omega) hf
      rw [loopsOf, nth_append_left (by rw [loopsOf_len]; exact hi)] at this
      exact this
    · rw [List.getElem?_drop] at hf
      have := h _ f (by simp [loops]; omega) hf
      rw [loopsOf, ← loopsOf_len a, nth_append_right] at this
      exact this
  | .block _ c, O, h => osOK_aux c O h
  | .loop c, O, h => fun f hf => by
    subst hf
    exact h 0 f (by simp [loops]) rfl
  | .skip, _, _ => trivial
  | .region .., _, _ => trivial
  | .exit _, _, _ => trivial
  | .ret, _, _ => trivial
  | .rangeFunc g ps x y, O, h => fun f hf => by
    subst hf
    exact h 0 f (by simp [loops]) rfl
  | .scope _, _, _ => trivial
  | .label _, _, _ => trivial
  | .goto _, _, _ => trivial
  | .refuse _, _, _ => trivial

theorem osOK_of {c : Code} {O : List (Ev R)} (h : SndL P H i (loopsOf c) 0 O) : OsOK P H i c O :=
  osOK_aux c O fun i f _ hf => by simpa using h.get i f hf

theorem loop_ok {n : Nat} (hE : EnvOK P E) (hP : P.follows .mixedOrders = true) {w : Code} (hw : isLoop w = true) {O : List (Ev R)} {T : Templ} {X : List (Way × Templ)} {body : denU T.tys → (denU T.tys → Option R) → conts R X → Option R}
    (hi : SndL P H i (loopsOf (inn w)) 0 O) (hb : ∀ d again k, codeR E H (inn w) O (mk T d) (turnR E T X again k) = body d again k) : Sound P H i w (loopO n E T X body) := by
  rw [isLoop_eq hw]
  exact loop_sound hE (codeR_sound hE hP (inn w) O (osOK_of hi)) hb

theorem range_ok (hE : EnvOK P E) (hP : P.follows .mixedOrders = true) {w : Code} {e : Ty} {p : Nat} {Oa Ob : List (Ev R)} {T : Templ} {F : List Nat} {X : List (Way × Templ)} {body : denU T.tys → e.den → (denU T.tys → Option R) → conts R X → Option R}
    (hw : isRange p w = true) (hfx : T.fx = []) (hpN : p < T.N) (hpF : p ∉ F) (hX : (X.all fun x => x.2.fx.isEmpty) = true)
    (ha : SndL P (Hdl.no (R := R)) true (loopsOf (rgA w)) 0 Oa) (hb : SndL P (Hdl.no (R := R)) true (loopsOf (rgB w)) 0 Ob)
    (heq : ∀ d x again k, codeR E Hdl.no (rgA w) Oa (mkB T F p e d x) (thenB fun st => codeR E Hdl.no (rgB w) Ob st (turnB E T F X again k)) = body d x again k) :
    Sound P (Hdl.no (R := R)) false w (rangeO E e (rgG w) T X body) := by
  have := isRange_eq hw
  rw [this]
  simp only [rgG]
  exact range_sound hE rfl {
    fx := hfx
    pN := hpN
    pF := hpF
    xfx := fun x hx => by simpa using List.all_eq_true.1 hX x hx
    a := codeR_sound hE hP _ _ (osOK_of ha)
    b := codeR_sound hE hP _ _ (osOK_of hb)
    eq := heq }

theorem func_ok (hE : EnvOK P E) (hP : P.follows .mixedOrders = true) {f : FuncId} {fn : Func} (hf : P.funcs[f]? = some fn) (hn : (fn.name == "runtime.NumGoroutine") = false) (hb : fn.body.isSome = true)
    {ins caps outs : List Ty} {g : denL ins → denL caps → Option (denL outs)} {fresh : Bool} {O : List (Ev (denL outs))} (hO : SndL P (Hdl.no (R := denL outs)) false (loopsOf (bd fn)) 0 O)
    (heq : ∀ x y, funR E fn ins caps outs fresh O x y = g x y) : ConOK P f ⟨ins, caps, outs, g, fresh⟩ :=
  fun_ok hE hP hf hn (fun c hc => osOK_of (by have := hO; unfold bd at this; rw [hc] at this; exact this)) heq hb

theorem itf1_ok (hE : EnvOK P E) (hP : P.follows .mixedOrders = true) {f : FuncId} {fn : Func} (hf : P.funcs[f]? = some fn) (hn : (fn.name == "runtime.NumGoroutine") = false) (hb : fn.body.isSome = true)
    {e : Ty} {caps : List Ty} {g : denL caps → Option (List e.den)} {O : List (Ev (List (denL [e])))} (hO : SndL P (hdlL [e]) false (loopsOf (bd fn)) 0 O)
    (heq : ∀ y, iterR E fn [e] caps O y = g y) : IConOK P f ⟨caps, .seq e, g⟩ :=
  iter1_ok hE hP hf hn (fun c hc => osOK_of (by have := hO; unfold bd at this; rw [hc] at this; exact this)) heq hb

theorem itf2_ok (hE : EnvOK P E) (hP : P.follows .mixedOrders = true) {f : FuncId} {fn : Func} (hf : P.funcs[f]? = some fn) (hn : (fn.name == "runtime.NumGoroutine") = false) (hb : fn.body.isSome = true)
    {a b : Ty} {caps : List Ty} {g : denL caps → Option (List (a.den × b.den))} {O : List (Ev (List (denL [a, b])))} (hO : SndL P (hdlL [a, b]) false (loopsOf (bd fn)) 0 O)
    (heq : ∀ y, iterR E fn [a, b] caps O y = g y) : IConOK P f ⟨caps, .seq2 a b, g⟩ :=
  iter2_ok hE hP hf hn (fun c hc => osOK_of (by have := hO; unfold bd at this; rw [hc] at this; exact this)) heq hb

end Go.Abs

namespace Go.Proofs
open Go.Shelf
def Try.lays219_ren : Go.Shelf.Ren := ⟨fun | 219 => 157 | 217 => 164 | 225 => 165 | 224 => 166 | 267 => 167 | 266 => 169 | 314 => 170 | n => n, fun | 9 => 9 | 3 => 3 | 4 => 4 | 5 => 5 | 46 => 182 | 146 => 206 | 51 => 193 | n => n, fun | 1 => 0 | n => n⟩
theorem Try.lays219 : Go.Proofs.Lays.n219 Try.prog Try.lays219_ren := {
  mixed := by kernel_rfl
  f217 := Try.func164.trans (congrArg some (by kernel_rfl))
  f219 := Try.func157.trans (congrArg some (by kernel_rfl))
  f224 := Try.func166.trans (congrArg some (by kernel_rfl))
  f225 := Try.func165.trans (congrArg some (by kernel_rfl))
  f266 := Try.func169.trans (congrArg some (by kernel_rfl))
  f267 := Try.func167.trans (congrArg some (by kernel_rfl))
  f314 := Try.func170.trans (congrArg some (by kernel_rfl))
  t3 := Try.underlying3
  a3 := Try.isAgg3
  z3 := Try.sizeOf3
  v3 := Try.zeroValue3
  t4 := Try.underlying4
  a4 := Try.isAgg4
  z4 := Try.sizeOf4
  v4 := Try.zeroValue4
  t5 := Try.underlying5
  a5 := Try.isAgg5
  z5 := Try.sizeOf5
  v5 := Try.zeroValue5
  t9 := Try.underlying9
  a9 := Try.isAgg9
  z9 := Try.sizeOf9
  v9 := Try.zeroValue9
  t46 := Try.underlying182
  a46 := Try.isAgg182
  z46 := Try.sizeOf182
  v46 := Try.zeroValue182
  t51 := Try.underlying193
  a51 := Try.isAgg193
  z51 := Try.sizeOf193
  v51 := Try.zeroValue193
  t146 := Try.underlying206
  a146 := Try.isAgg206
  z146 := Try.sizeOf206
  v146 := Try.zeroValue206
  g1 := by kernel_rfl }
open Go.RowKit Go.Lib in
/-- internal/stringslite.Index (what strings.Index calls) AT A substr OF ONE BYTE c: IT RETURNS 'Lib.indexByte s c'; the world is as it was. (LAID: no walk: one application.) -/
theorem Try.stringslite_Index_one (s : ByteArray) (c : UInt8) (w : World) :
    Calls Try.prog 157 #[.string s, .string ⟨#[c]⟩] w fun e w' => e = .returned (.int .i64 (Lib.indexByte s.data.toList c)) ∧ w' = w := Any.stringslite_Index_one Try.lays219 s c w
def Try.lays189_ren : Go.Shelf.Ren := ⟨fun | 189 => 123 | 125 => 142 | 257 => 141 | 128 => 155 | 129 => 156 | 294 => 146 | 295 => 147 | 296 => 148 | 297 => 149 | 298 => 150 | 299 => 151 | 216 => 152 | 300 => 153 | 301 => 154 | 328 => 158 | 329 => 159 | 330 => 160 | 331 => 161 | 332 => 162 | 215 => 163 | 343 => 168 | n => n, fun | 28 => 26 | 3 => 3 | 46 => 182 | 0 => 0 | 51 => 193 | 53 => 195 | 4 => 4 | 183 => 187 | 182 => 186 | 131 => 158 | 5 => 5 | 9 => 9 | 218 => 197 | 222 => 201 | 228 => 204 | 229 => 61 | n => n, fun | n => n⟩
theorem Try.lays189 : Go.Proofs.Lays.n189 Try.prog Try.lays189_ren := {
  mixed := by kernel_rfl
  f125 := Try.func142.trans (congrArg some (by kernel_rfl))
  f128 := Try.func155.trans (congrArg some (by kernel_rfl))
  f129 := Try.func156.trans (congrArg some (by kernel_rfl))
  f189 := Try.func123.trans (congrArg some (by kernel_rfl))
  f215 := Try.func163.trans (congrArg some (by kernel_rfl))
  f216 := Try.func152.trans (congrArg some (by kernel_rfl))
  f257 := Try.func141.trans (congrArg some (by kernel_rfl))
  f294 := Try.func146.trans (congrArg some (by kernel_rfl))
  f295 := Try.func147.trans (congrArg some (by kernel_rfl))
  f296 := Try.func148.trans (congrArg some (by kernel_rfl))
  f297 := Try.func149.trans (congrArg some (by kernel_rfl))
  f298 := Try.func150.trans (congrArg some (by kernel_rfl))
  f299 := Try.func151.trans (congrArg some (by kernel_rfl))
  f300 := Try.func153.trans (congrArg some (by kernel_rfl))
  f301 := Try.func154.trans (congrArg some (by kernel_rfl))
  f328 := Try.func158.trans (congrArg some (by kernel_rfl))
  f329 := Try.func159.trans (congrArg some (by kernel_rfl))
  f330 := Try.func160.trans (congrArg some (by kernel_rfl))
  f331 := Try.func161.trans (congrArg some (by kernel_rfl))
  f332 := Try.func162.trans (congrArg some (by kernel_rfl))
  f343 := Try.func168.trans (congrArg some (by kernel_rfl))
  t0 := Try.underlying0
  a0 := Try.isAgg0
  z0 := Try.sizeOf0
  v0 := Try.zeroValue0
  t3 := Try.underlying3
  a3 := Try.isAgg3
  z3 := Try.sizeOf3
  v3 := Try.zeroValue3
  t4 := Try.underlying4
  a4 := Try.isAgg4
  z4 := Try.sizeOf4
  v4 := Try.zeroValue4
  t5 := Try.underlying5
  a5 := Try.isAgg5
  z5 := Try.sizeOf5
  v5 := Try.zeroValue5
  t9 := Try.underlying9
  a9 := Try.isAgg9
  z9 := Try.sizeOf9
  v9 := Try.zeroValue9
  t28 := Try.underlying26
  a28 := Try.isAgg26
  z28 := Try.sizeOf26
  v28 := Try.zeroValue26
  t46 := Try.underlying182
  a46 := Try.isAgg182
  z46 := Try.sizeOf182
  v46 := Try.zeroValue182
  t51 := Try.underlying193
  a51 := Try.isAgg193
  z51 := Try.sizeOf193
  v51 := Try.zeroValue193
  t53 := Try.underlying195
  a53 := Try.isAgg195
  z53 := Try.sizeOf195
  v53 := Try.zeroValue195
  t131 := Try.underlying158
  a131 := Try.isAgg158
  z131 := Try.sizeOf158
  v131 := Try.zeroValue158
  t182 := Try.underlying186
  a182 := Try.isAgg186
  z182 := Try.sizeOf186
  v182 := Try.zeroValue186
  t183 := Try.underlying187
  a183 := Try.isAgg187
  z183 := Try.sizeOf187
  v183 := Try.zeroValue187
  t218 := Try.underlying197
  a218 := Try.isAgg197
  z218 := Try.sizeOf197
  v218 := Try.zeroValue197
  t222 := Try.underlying201
  a222 := Try.isAgg201
  z222 := Try.sizeOf201
  v222 := Try.zeroValue201
  t228 := Try.underlying204
  a228 := Try.isAgg204
  z228 := Try.sizeOf204
  v228 := Try.zeroValue204
  t229 := Try.underlying61
  a229 := Try.isAgg61
  z229 := Try.sizeOf61
  v229 := Try.zeroValue61 }
open Go.Sort Go.RowKit in
theorem Try.slices_Sort_int (blk off cap : Nat) (zs : List Int) (w : World) (hH : Holds (Value.int .i64) w blk off zs.toArray) (hblk : blk < w.heap.size) (hsz : zs.length < 4611686018427387904) :
    Calls Try.prog 123 #[.slice (some ⟨blk, off, none⟩) zs.length cap] w fun e w' =>
      e = .returned (.tuple #[]) ∧ ∃ n os, w' = grow (putRow (Value.int .i64) (Sort.ahead w n) blk off (zs.mergeSort fun x y => decide (x ≤ y)).toArray) os := Any.slices_Sort_int Try.lays189 blk off cap zs w hH hblk hsz
def Try.laysNm216_ren : Go.Shelf.Ren := ⟨fun | 16 => 120 | n => n, fun | 24 => 22 | 9 => 9 | 4 => 4 | n => n, fun | n => n⟩
theorem Try.laysNm216 : Go.Proofs.Lays2.n16 Try.prog Try.laysNm216_ren := {
  mixed := by kernel_rfl
  f16 := Try.func120.trans (congrArg some (by kernel_rfl))
  t4 := Try.underlying4
  a4 := Try.isAgg4
  z4 := Try.sizeOf4
  v4 := Try.zeroValue4
  t9 := Try.underlying9
  a9 := Try.isAgg9
  z9 := Try.sizeOf9
  v9 := Try.zeroValue9
  t24 := Try.underlying22
  a24 := Try.isAgg22
  z24 := Try.sizeOf22
  v24 := Try.zeroValue22
  i9 := by kernel_rfl }
open Go.RowKit Go.Lib in
/-- slices.Clone at []string: "Clone returns a copy of the slice. The elements are copied using assignment, so this is a shallow clone. The result may have additional unused capacity. The result preserves the nilness of s.": OF A SLICE THAT IS NOT nil IT RETURNS A SLICE THAT IS NOT nil, OF THE SAME ELEMENTS, IN MEMORY OF THE CALL's OWN: in the how-to's words (6f): 'w'.ownsRow B e 1 v' n cells': v' begins at the head of a row among the blocks from B on (B: the heap's size at the call), not frozen, whose first cells are the elements · 'Below B w w'': below B all is as it was. The capacity is whatever the run-time gives. 'zs': what the cells behind the slice's address hold; 'zs.take n': its elements. (LAID: no walk: one application.) -/
theorem Try.slices_Clone_string (b off n c : Nat) (zs : List ByteArray) (w : World) (hz : n ≤ zs.length) (hbig : n * 16 ≤ 140737488355328) (hc : ∀ j, j < zs.length → w.cell? ⟨b, off + j, none⟩ = some (.string (zs.getD j ByteArray.empty))) :
    Calls Try.prog 120 #[.slice (some ⟨b, off, none⟩) n c] w fun e w' => ∃ v', e = .returned v' ∧ w'.ownsRow w.heap.size 9 1 v' n ((zs.take n).map (Value.string)) ∧ v' ≠ .slice none 0 0 ∧ Below w.heap.size w w' := Any.slices_Clone_string Try.laysNm216 b off n c zs w hz hbig hc
open Go.RowKit Go.Lib in
/-- The same at nil: nil comes back; the world is as it was. (LAID: no walk: one application.) -/
theorem Try.slices_Clone_string_nil (n c : Nat) (w : World) :
    Calls Try.prog 120 #[.slice none n c] w fun e w' => e = .returned (.slice none 0 0) ∧ w' = w := Any.slices_Clone_string_nil Try.laysNm216 n c w
open Go.RowKit Go.Lib in
/-- The same at a slice of length 0 that is not nil, WHATEVER ITS ADDRESS (no cell is asked for): a slice that is not nil and owns nothing comes back. (LAID: no walk: one application.) -/
theorem Try.slices_Clone_string_zero (a : Addr) (c : Nat) (w : World) :
    Calls Try.prog 120 #[.slice (some a) 0 c] w fun e w' => ∃ v', e = .returned v' ∧ w'.ownsRow w.heap.size 9 1 v' 0 [] ∧ v' ≠ .slice none 0 0 ∧ Below w.heap.size w w' := Any.slices_Clone_string_zero Try.laysNm216 a c w
end Go.Proofs

set_option linter.unusedVariables false
namespace Go.Abs
open Go

def clRen : Go.Shelf.Ren := ⟨fun _ => 135, fun x => bif Nat.beq x 22 then 26 else x, fun x => x⟩

theorem clLays : Go.Proofs.Lays2.n15 Go.Proofs.Try.prog clRen where
  mixed := by kernel_rfl
  f15 := by kernel_rfl
  t3 := by kernel_rfl
  a3 := fun w => by kernel_rfl
  z3 := fun w => by kernel_rfl
  v3 := fun w => by kernel_rfl
  i3 := by kernel_rfl
  t4 := by kernel_rfl
  a4 := fun w => by kernel_rfl
  z4 := fun w => by kernel_rfl
  v4 := fun w => by kernel_rfl
  t22 := by kernel_rfl
  a22 := fun w => by kernel_rfl
  z22 := fun w => by kernel_rfl
  v22 := fun w => by kernel_rfl

/-- slices.Clone, at elements of one cell: what its contract says, as a contract of this make. -/
theorem clone_call {f T : Nat} {t : Ty} {enc : t.den → Value} (h1 : t.sz = 1) (hrep : ∀ w ok vs x, Rep Go.Proofs.Try.prog t w ok vs x ↔ vs = [enc x])
    (hnil : ∀ cap w, Calls Go.Proofs.Try.prog f #[.slice none 0 cap] w fun e w' => e = .returned (.slice none 0 0) ∧ w' = w)
    (hzero : ∀ ad cap w, Calls Go.Proofs.Try.prog f #[.slice (some ad) 0 cap] w fun e w' => ∃ v', e = .returned v' ∧ w'.ownsRow w.heap.size T 1 v' 0 [] ∧ v' ≠ .slice none 0 0 ∧ Go.RowKit.Below w.heap.size w w')
    (hall : ∀ b off (r : List t.den) cap w, r.length ≤ 4294967296 → (∀ j (hj : j < r.length), w.cell? ⟨b, off + j, none⟩ = some (enc r[j])) →
      Calls Go.Proofs.Try.prog f #[.slice (some ⟨b, off, none⟩) r.length cap] w fun e w' => ∃ v', e = .returned v' ∧ w'.ownsRow w.heap.size T 1 v' r.length (r.map enc) ∧ v' ≠ .slice none 0 0 ∧ Go.RowKit.Below w.heap.size w w')
    (r : List t.den) (w : World) (ok : Nat → Prop) (ad : Option Addr) (cap : Nat) (hmost : r.length ≤ most)
    (hr : r = [] ∨ ∃ b off cs T fr, ad = some ⟨b, off, none⟩ ∧ ok b ∧ w.heap[b]? = some (.cells cs T fr) ∧ off + r.length * t.sz ≤ cs.size ∧ ∀ i x, r[i]? = some x → Rep Go.Proofs.Try.prog t w ok (chunk cs.toList (off + i * t.sz) t.sz) x) :
    Calls Go.Proofs.Try.prog f #[.slice ad r.length cap] w fun e w' => ∃ v, e = .returned v ∧ Keeps w w' ∧ ResRep Go.Proofs.Try.prog w' (newOk ok w) [.slice t] v r ∧ (true = true → FreshC Go.Proofs.Try.prog w.heap.size w' (newOk ok w) [.slice t] v r) := by
  have fin : ∀ (w' : World) (v' : Value), w'.ownsRow w.heap.size T 1 v' r.length (r.map enc) → Go.RowKit.Below w.heap.size w w' →
      ∃ v, Ending.returned v' = .returned v ∧ Keeps w w' ∧ ResRep Go.Proofs.Try.prog w' (newOk ok w) [.slice t] v r ∧ (true = true → FreshC Go.Proofs.Try.prog w.heap.size w' (newOk ok w) [.slice t] v r) := by
    intro w' v' ho hb
    have hf : FreshRep Go.Proofs.Try.prog w.heap.size w' (newOk ok w) t v' r := by
      obtain ⟨_, ⟨g1, g2⟩ | ⟨g, c, cur, g1, g2, g3, g4, g5, g6, g7⟩⟩ := ho
      · exact .inl ⟨g1, List.length_eq_zero_iff.1 g2⟩
      · refine .inr ⟨g, 0, c, cur, T, g1, g2, g3, g4, g5, by simp [h1, g6], fun i z hi => ?_⟩
        have hlt : i < r.length := (List.getElem?_eq_some_iff.1 hi).1
        have hz : cur.toList[i]? = some (enc z) := by
          have : (cur.toList.take (r.length * 1))[i]? = some (enc z) := by rw [g7, List.getElem?_map, hi]; rfl
          rw [List.getElem?_take] at this
          split at this
          · exact this
          · cases this
        rw [hrep, h1, Nat.zero_add, Nat.mul_one]
        have hl2 : i < cur.toList.length := (List.getElem?_eq_some_iff.1 hz).1
        unfold chunk
        rw [List.drop_eq_getElem_cons hl2]
        have := (List.getElem?_eq_some_iff.1 hz).2
        simp [this]
    refine ⟨v', rfl, ⟨hb.os, hb.tape, hb.output, hb.size, hb.block⟩, ⟨[v'], rfl, ?_⟩, fun _ => hf⟩
    rcases hf with ⟨g1, g2⟩ | ⟨g, off, c, cur, T', g1, g2, g3, g4, g5, g6, g7⟩
    · refine ⟨none, 0, by rw [g1, g2]; rfl, by rw [g2]; exact Nat.le_refl _, .inl g2⟩
    · refine ⟨_, c, by rw [g1], g4, .inr ⟨g, off, cur, T', _, rfl, .inr g2, g3, ?_, fun i z hi => ?_⟩⟩
      · exact Nat.le_trans (Nat.add_le_add_left (Nat.mul_le_mul_right _ g4) _) g6
      · exact (g7 i z hi).re fun b hb _ => hb.1
  cases ad with
  | none =>
    have hn : r = [] := by
      rcases hr with h | ⟨b, off, cs, T, fr, h, _⟩
      · exact h
      · cases h
    subst hn
    refine (hnil cap w).mono ?_
    rintro e w' ⟨rfl, rfl⟩
    exact fin w' _ ⟨by simp, .inl ⟨rfl, rfl⟩⟩ (Go.RowKit.Below.refl _ _)
  | some ad =>
    by_cases hne : r = []
    · subst hne
      refine (hzero ad cap w).mono ?_
      rintro e w' ⟨v', rfl, g1, _, g2⟩
      exact fin w' v' g1 g2
    · rcases hr with h | ⟨b, off, cs, T', fr, h, hok, hheap, hsz, hel⟩
      · exact absurd h hne
      · cases h
        refine (hall b off r cap w (by unfold most at hmost; exact hmost) (fun j hj => ?_)).mono ?_
        · rw [cell_of_row w b (off + j) cs T' fr hheap]
          have g1 := (hrep w ok _ _).1 (hel j _ (List.getElem?_eq_getElem hj))
          rw [h1, Nat.mul_one] at g1
          have g2 : (chunk cs.toList (off + j) 1)[0]? = some (enc (r[j]'hj)) := by rw [g1]; rfl
          obtain ⟨_, g3⟩ := chunk_get g2
          simpa using g3
        · rintro e w' ⟨v', rfl, g1, _, g2⟩
          exact fin w' v' g1 g2

/-- slices.Clone at []int. -/
def s135 (n : Nat) (s : List Int) : Option (List Int) := (chk (List.length s)).bind fun _ => some s

def s135_c (n : Nat) : Con := ⟨[.slice (.int .i64)], [], [.slice (.int .i64)], fun x y => s135 n x, true⟩

theorem s135_ok (n : Nat) : ConOK Go.Proofs.Try.prog 135 (s135_c n) := by
  refine ⟨⟨_, Go.Proofs.Try.func135, by kernel_rfl, by kernel_rfl⟩, ?_⟩
  intro w ok vs cs x y r hx hy hr
  obtain ⟨us, rfl, ad, cap, rfl, hcap, hrep⟩ := hx
  have hcs : cs = [] := hy
  subst hcs
  have hr : (chk (List.length (α := Int) x)).bind (fun _ => some x) = some r := hr
  have hmost : List.length (α := Int) x ≤ most ∧ r = x := by
    unfold chk at hr
    split at hr
    · rename_i h; cases hr; exact ⟨h, rfl⟩
    · cases hr
  obtain ⟨hmost, rfl⟩ := hmost
  refine clone_call (t := .int .i64) (enc := fun (z : Int) => .int .i64 z) rfl (fun _ _ _ _ => Iff.rfl) (Go.Proofs.Any.slices_Clone_int_nil clLays 0) (Go.Proofs.Any.slices_Clone_int_zero clLays) ?_ r w ok ad cap hmost hrep
  intro b off r cap w hl hc
  refine (Go.Proofs.Any.slices_Clone_int clLays b off (List.length (α := Int) r) cap r w (Nat.le_refl _) (by omega) (fun j hj => ?_)).mono ?_
  · rw [hc j hj, List.getD_eq_getElem?_getD, List.getElem?_eq_getElem hj]; rfl
  · rintro e w' ⟨v', h1, h2, h3⟩
    rw [List.take_length] at h2
    exact ⟨v', h1, h2, h3⟩

/-- slices.Clone at []string. -/
def s120 (n : Nat) (s : List (List UInt8)) : Option (List (List UInt8)) := (chk (List.length s)).bind fun _ => some s

def s120_c (n : Nat) : Con := ⟨[.slice .str], [], [.slice .str], fun x y => s120 n x, true⟩

theorem s120_ok (n : Nat) : ConOK Go.Proofs.Try.prog 120 (s120_c n) := by
  refine ⟨⟨_, Go.Proofs.Try.func120, by kernel_rfl, by kernel_rfl⟩, ?_⟩
  intro w ok vs cs x y r hx hy hr
  obtain ⟨us, rfl, ad, cap, rfl, hcap, hrep⟩ := hx
  have hcs : cs = [] := hy
  subst hcs
  have hr : (chk (List.length (α := List UInt8) x)).bind (fun _ => some x) = some r := hr
  have hmost : List.length (α := List UInt8) x ≤ most ∧ r = x := by
    unfold chk at hr
    split at hr
    · rename_i h; cases hr; exact ⟨h, rfl⟩
    · cases hr
  obtain ⟨hmost, rfl⟩ := hmost
  refine clone_call (t := .str) (enc := fun (z : List UInt8) => .string ⟨⟨z⟩⟩) rfl (fun _ _ _ _ => Iff.rfl) (Go.Proofs.Try.slices_Clone_string_nil 0) (Go.Proofs.Try.slices_Clone_string_zero) ?_ r w ok ad cap hmost hrep
  intro b off r cap w hl hc
  have hlen : (List.map (fun z => (⟨⟨z⟩⟩ : ByteArray)) r).length = List.length (α := List UInt8) r := by simp
  have := Go.Proofs.Try.slices_Clone_string b off (List.length (α := List UInt8) r) cap (List.map (fun z => (⟨⟨z⟩⟩ : ByteArray)) r) w (by rw [hlen]; exact Nat.le_refl _) (by omega) (fun j hj => ?_)
  · refine this.mono ?_
    rintro e w' ⟨v', h1, h2, h3⟩
    rw [List.take_of_length_le (by rw [hlen]; exact Nat.le_refl _), List.map_map] at h2
    exact ⟨v', h1, h2, h3⟩
  · have hj' : j < List.length (α := List UInt8) r := by rw [← hlen]; exact hj
    rw [hc j hj', List.getD_eq_getElem?_getD, List.getElem?_map, List.getElem?_eq_getElem hj']; rfl

end Go.Abs

set_option linter.unusedVariables false
set_option linter.unusedSimpArgs false
namespace Go.Abs
open Go Go.Sort

/-- slices.Sort at []int (of one that is not nil). -/
def s123 (n : Nat) (l : List Int) : Option (List Int) := bif l.isEmpty then none else (chk (List.length l)).bind fun _ => some (l.mergeSort fun x y => decide (x ≤ y))

def s123_c (n : Nat) : MCon := ⟨.int .i64, [], fun l _ => s123 n l, false⟩

theorem sort_call {w : World} {ok : Nat → Prop} {v : Value} {l l' : List Int} (ho : OwnBuf Go.Proofs.Try.prog w ok (.int .i64) v l) (hr : s123 0 l = some l') :
    Calls Go.Proofs.Try.prog 123 #[v] w fun e w' => ∃ r, e = .returned r ∧ KeepsBut v w w' ∧ r = .tuple #[] ∧ OwnBuf Go.Proofs.Try.prog w' (newOk ok w) (.int .i64) v l' := by
  have hne : l ≠ [] ∧ List.length l ≤ most ∧ l' = l.mergeSort fun x y => decide (x ≤ y) := by
    unfold s123 at hr
    cases l with
    | nil => simp at hr
    | cons a l =>
      simp only [List.isEmpty_cons, cond_false] at hr
      unfold chk at hr
      split at hr
      · rename_i h
        simp only [Option.bind_some, Option.some.injEq] at hr
        exact ⟨by simp, h, hr.symm⟩
      · cases hr
  obtain ⟨hne, hmost, rfl⟩ := hne
  rcases ho with ⟨_, h⟩ | ⟨b, off, cap, cs, T, rfl, h2, h3, h4, h5, h6⟩
  · exact absurd h hne
  · have hlen : off + l.length ≤ cs.size := by
      simp only [Ty.sz, Nat.mul_one] at h5
      omega
    have hc : ∀ j (hj : j < l.length), cs[off + j]? = some (.int .i64 l[j]) := by
      intro j hj
      have h1 : chunk cs.toList (off + j * 1) 1 = [.int .i64 (l[j]'hj)] := h6 j _ (List.getElem?_eq_getElem hj)
      rw [Nat.mul_one] at h1
      have h2 : (chunk cs.toList (off + j) 1)[0]? = some (.int .i64 (l[j]'hj)) := by rw [h1]; rfl
      obtain ⟨_, h3⟩ := chunk_get h2
      simpa using h3
    have hH : Holds (Value.int .i64) w b off l.toArray := by
      intro j hj
      have hj' : j < l.length := by simpa using hj
      have e : l.toArray[j]! = l[j] := by rw [getElem!_pos _ j hj]; simp
      rw [e]
      refine ⟨?_, ?_⟩
      · unfold World.cell?
        simp only [h2]
        simpa using hc j hj'
      · unfold World.frozen?
        simp only [h2]
        simp
    have hb : b < w.heap.size := (Array.getElem?_eq_some_iff.1 h2).1
    have hl4 : l.length < 4611686018427387904 := by unfold most at hmost; omega
    refine (Go.Proofs.Try.slices_Sort_int b off cap l w hH hb hl4).mono ?_
    rintro e w' ⟨rfl, n, os, rfl⟩
    generalize hm : (l.mergeSort fun x y => decide (x ≤ y)) = m
    have hml : m.length = l.length := by rw [← hm]; exact List.length_mergeSort l
    have hheap : (grow (putRow (Value.int .i64) (Sort.ahead w n) b off m.toArray) os).heap = (w.heap.modify b (onCells (putCells (Value.int .i64) off m.toArray))) ++ os := rfl
    have hsz : (w.heap.modify b (onCells (putCells (Value.int .i64) off m.toArray))).size = w.heap.size := by simp
    have hget : ∀ k, k < w.heap.size → (grow (putRow (Value.int .i64) (Sort.ahead w n) b off m.toArray) os).heap[k]? = if b = k then (w.heap[k]?).map (onCells (putCells (Value.int .i64) off m.toArray)) else w.heap[k]? := by
      intro k hk
      rw [hheap, Array.getElem?_append_left (by rw [hsz]; exact hk), Array.getElem?_modify]
    refine ⟨_, rfl, ⟨rfl, rfl, rfl, ?_, fun k hk hne => ?_⟩, rfl, .inr ⟨b, off, cap, putCells (Value.int .i64) off m.toArray cs, T, by rw [hml], ?_, by rw [hml]; exact h3, h4, ?_, fun i x hi => ?_⟩⟩
    · rw [hheap, Array.size_append, hsz]; omega
    · rw [hget k hk, if_neg fun e => hne (by rw [e]; rfl)]
    · rw [hget b hb, if_pos rfl, h2]; rfl
    · simpa [putCells] using h5
    · have hil : i < m.length := (List.getElem?_eq_some_iff.1 hi).1
      have hlt : off + i < cs.size := by omega
      have hp : (putCells (Value.int .i64) off m.toArray cs)[off + i]? = some (.int .i64 x) := by
        unfold putCells
        rw [Array.getElem?_mapIdx, Array.getElem?_eq_getElem hlt]
        simp only [Option.map_some, Option.some.injEq]
        rw [if_pos ⟨by omega, by simp; omega⟩, show off + i - off = i by omega, getElem!_pos _ i (by simpa using hil)]
        have := (List.getElem?_eq_some_iff.1 hi).2
        simp [this]
      show chunk _ (off + i * 1) 1 = [.int .i64 x]
      rw [Nat.mul_one]
      have hl2 : off + i < (putCells (Value.int .i64) off m.toArray cs).toList.length := by simpa [putCells] using hlt
      rw [chunk_one hl2]
      rw [Array.getElem?_eq_getElem (by simpa using hl2)] at hp
      simpa using hp

theorem s123_ok (n : Nat) : MConOK Go.Proofs.Try.prog 123 (s123_c n) := by
  refine ⟨⟨_, Go.Proofs.Try.func123, by kernel_rfl, by kernel_rfl⟩, ?_⟩
  intro w ok v vs l y l' ho hy _ hr
  have : vs = [] := hy
  subst this
  refine (sort_call ho hr).mono ?_
  rintro e w' ⟨r, h1, h2, h3, h4⟩
  exact ⟨r, h1, h2, .inr ⟨rfl, h3, h4⟩⟩

/-- internal/stringslite.Index at a text of one byte. -/
def s157 (n : Nat) (s : List UInt8) (t : List UInt8) : Option Int := match t with
  | [c] => some (Lib.indexByte s c)
  | _ => none

def s157_c (n : Nat) : Con := ⟨[.str, .str], [], [.int .i64], fun x y => s157 n x.1 x.2, false⟩

theorem s157_ok (n : Nat) : ConOK Go.Proofs.Try.prog 157 (s157_c n) := by
  refine ⟨⟨_, Go.Proofs.Try.func157, by kernel_rfl, by kernel_rfl⟩, ?_⟩
  intro w ok vs cs x y r hx hy hr
  obtain ⟨s, t⟩ := x
  obtain ⟨us, rest, rfl, h1, us2, h2, h3⟩ := hx
  have hcs : cs = [] := hy
  subst hcs
  have hr : s157 n s t = some r := hr
  unfold s157 at hr
  split at hr
  · rename_i c _
    cases hr
    have e1 : us = [.string ⟨⟨s⟩⟩] := h1
    have e2 : us2 = [.string ⟨⟨[c]⟩⟩] := h3
    subst e1 e2
    rw [h2]
    refine (Go.Proofs.Try.stringslite_Index_one ⟨⟨s⟩⟩ c w).mono ?_
    rintro e w' ⟨rfl, rfl⟩
    exact ⟨_, rfl, Keeps.refl _, ⟨[_], rfl, rfl⟩, fun h => by cases h⟩
  · cases hr

end Go.Abs

set_option linter.unusedSimpArgs false
set_option linter.unusedVariables false
namespace Go.Abs
open Go
variable {P : Program}

/-- The bounds of numbers and lengths. -/
def Ty.wf : (t : Ty) → t.den → Prop
  | .int k, n => k.min ≤ n ∧ (n : Int) ≤ k.max
  | .bool, _ => True
  | .str, l => List.length (α := UInt8) l ≤ maxLen
  | .unit, _ => True
  | .slice e, l => List.length l ≤ maxLen ∧ ∀ x ∈ (l : List e.den), e.wf x
  | .pair a b, (x, y) => a.wf x ∧ b.wf y
  | .fn1 _ _, _ => True
  | .fn2 _ _ _, _ => True
  | .seq _, _ => True
  | .seq2 _ _, _ => True
  | .map _ _, _ => True

mutual
def shp (P : Program) : Nat → Nat → Ty → Bool
  | 0, _, _ => false
  | n + 1, T, t => match P.underlying T, t with
    | some (.int k), .int k' => decide (k = k')
    | some .bool, .bool => true
    | some .string, .str => true
    | some (.slice T'), .slice e => Nat.beq (P.cellsOf T') e.sz && Nat.blt 0 e.sz && shp P n T' e
    | some (.struct fs), .pair a b => Nat.beq (P.cellsOf T) (Ty.pair a b).sz && shpF P n fs.toList 0 (.pair a b)
    | _, _ => false

def shpF (P : Program) : Nat → List Field → Nat → Ty → Bool
  | 0, _, _, _ => false
  | n + 1, [f], off, t => Nat.beq f.offset off && Nat.beq (P.cellsOf f.type) t.sz && shp P n f.type t
  | n + 1, f :: g :: r, off, .pair a b => Nat.beq f.offset off && Nat.beq (P.cellsOf f.type) a.sz && shp P n f.type a && shpF P n (g :: r) (off + a.sz) b
  | _ + 1, _, _, _ => false
end

theorem mapM_cons_some {α β : Type} {f : α → Option β} {x : α} {l : List α} {ys : List β} (h : (x :: l).mapM f = some ys) : ∃ y r, f x = some y ∧ l.mapM f = some r ∧ ys = y :: r := by
  rw [List.mapM_cons] at h
  cases hx : f x with
  | none => rw [hx] at h; cases h
  | some y =>
    rw [hx] at h
    cases hl : l.mapM f with
    | none => rw [hl] at h; cases h
    | some r => rw [hl] at h; cases h; exact ⟨y, r, rfl, rfl, rfl⟩

theorem mapM_get {α β : Type} {f : α → Option β} : {l : List α} → {ys : List β} → l.mapM f = some ys → ∀ (i : Nat) x, l[i]? = some x → ∃ y, f x = some y
  | [], ys, h, i, x, hx => by simp at hx
  | a :: l, ys, h, i, x, hx => by
    obtain ⟨y, r, h1, h2, h3⟩ := mapM_cons_some h
    cases i with
    | zero => simp at hx; subst hx; exact ⟨y, h1⟩
    | succ i => exact mapM_get h2 i x (by simpa using hx)

theorem mapM_len {α β : Type} {f : α → Option β} : {l : List α} → {ys : List β} → l.mapM f = some ys → ys.length = l.length
  | [], ys, h => by cases h; rfl
  | a :: l, ys, h => by
    obtain ⟨y, r, h1, h2, h3⟩ := mapM_cons_some h
    subst h3
    simp [mapM_len h2]

theorem mapM_at {α β : Type} {f : α → Option β} : {l : List α} → {ys : List β} → l.mapM f = some ys → ∀ (i : Nat) x y, l[i]? = some x → ys[i]? = some y → f x = some y
  | [], ys, h, i, x, y, hx, hy => by simp at hx
  | a :: l, ys, h, i, x, y, hx, hy => by
    obtain ⟨y', r, h1, h2, h3⟩ := mapM_cons_some h
    subst h3
    cases i with
    | zero => simp at hx hy; subst hx; subst hy; exact h1
    | succ i => exact mapM_at h2 i x y (by simpa using hx) (by simpa using hy)

/-- Cells that are read one by one. -/
theorem cells_read {W : World} {b off n : Nat} {sp : Option Nat} {cs : List Value} (h : W.cells? 0 ⟨b, off, sp⟩ n = some cs) (hn : 0 < n) : sp = none ∨ True := .inr trivial

theorem exists_choice {α : Type} {n : Nat} {Q : Nat → α → Prop} (h : ∀ i, i < n → ∃ x, Q i x) : ∃ l : List α, l.length = n ∧ ∀ (i : Nat) x, l[i]? = some x → Q i x := by
  induction n with
  | zero => exact ⟨[], rfl, fun i x hx => by simp at hx⟩
  | succ n ih =>
    obtain ⟨l, h1, h2⟩ := ih fun i hi => h i (by omega)
    obtain ⟨x, hx⟩ := h n (by omega)
    refine ⟨l ++ [x], by simp [h1], fun i y hy => ?_⟩
    by_cases hi : i < l.length
    · rw [List.getElem?_append_left hi] at hy
      exact h2 i y hy
    · rw [List.getElem?_append_right (by omega)] at hy
      have : i - l.length = 0 := by
        cases hk : i - l.length with
        | zero => rfl
        | succ k => rw [hk] at hy; simp at hy
      rw [this] at hy
      simp at hy
      subst hy
      have : i = n := by omega
      subst this
      exact hx

section
variable {H : Type} {enc : TypeId × Value → H} {W : World} {spare : Nat → Bool} {held : Bool}

mutual
theorem open_ty : (n : Nat) → (T : Nat) → (t : Ty) → shp P n T t = true → ∀ (fuel : Nat) (cs : List Value) (d : DataW H) (ps : List MemPlace), DataW.trod enc P W 0 spare held fuel T cs = some (d, ps) →
    ∃ x : t.den, Rep P t W (fun b => b < W.heap.size) cs x ∧ t.wf x
  | 0, T, t, h, fuel, cs, d, ps, hd => by simp [shp] at h
  | n + 1, T, t, h, 0, cs, d, ps, hd => by cases hd
  | n + 1, T, t, h, fuel + 1, cs, d, ps, hd => by
    unfold shp at h
    unfold DataW.trod at hd
    split at h
    · rename_i k k' hu
      have hk : k = k' := of_decide_eq_true h
      subst hk
      rw [hu] at hd
      match cs, hd with
      | [.int k2 m], hd =>
        simp only at hd
        split at hd
        · rename_i hh
          obtain ⟨rfl, hw⟩ := hh
          refine ⟨m, rfl, ?_⟩
          simpa [Lit.wf, Ty.wf] using hw
        · cases hd
    · rename_i hu
      rw [hu] at hd
      match cs, hd with
      | [.bool b], hd => exact ⟨b, rfl, trivial⟩
    · rename_i hu
      rw [hu] at hd
      match cs, hd with
      | [.string s], hd =>
        simp only at hd
        split at hd
        · rename_i hs
          obtain ⟨⟨s⟩⟩ := s
          exact ⟨s, rfl, hs⟩
        · cases hd
    · rename_i T' e hu
      simp only [Bool.and_eq_true] at h
      obtain ⟨⟨h1, h2⟩, h3⟩ := h
      have hc := nbeq_true h1
      have hpos : 0 < e.sz := Nat.le_of_ble_eq_true h2
      rw [hu] at hd
      match cs, hd with
      | [.slice none 0 0], hd => exact ⟨([] : List e.den), ⟨none, 0, rfl, Nat.le_refl _, .inl rfl⟩, ⟨Nat.zero_le _, fun _ h => (by cases h)⟩⟩
      | [.slice (some a) len cap], hd =>
        simp only at hd
        split at hd
        · rename_i hh
          obtain ⟨_, hlc, hcm⟩ := hh
          cases hm : (List.range len).mapM (fun i => (W.cells? 0 (a.add (i * P.cellsOf T')) (P.cellsOf T')).bind (DataW.trod enc P W 0 spare held fuel T')) with
          | none => rw [hm] at hd; cases hd
          | some els =>
            clear hd
            have hel : ∀ i, i < len → ∃ ds y, W.cells? 0 (a.add (i * e.sz)) e.sz = some ds ∧ Rep P e W (fun b => b < W.heap.size) ds y ∧ e.wf y := by
              intro i hi
              obtain ⟨z, hz⟩ := mapM_get hm i i (by simp [hi])
              rw [hc] at hz
              cases hcs : W.cells? 0 (a.add (i * e.sz)) e.sz with
              | none => rw [hcs] at hz; cases hz
              | some ds =>
                rw [hcs] at hz
                obtain ⟨y, hy1, hy2⟩ := open_ty n T' e h3 fuel ds z.1 z.2 hz
                exact ⟨ds, y, rfl, hy1, hy2⟩
            by_cases hlen : len = 0
            · subst hlen
              exact ⟨([] : List e.den), ⟨some a, cap, rfl, Nat.zero_le _, .inl rfl⟩, ⟨Nat.zero_le _, fun _ h => (by cases h)⟩⟩
            · -- each cell of each element
              have hcell : ∀ i, i < len → ∀ j, j < e.sz → ∃ v, W.cell? ((a.add (i * e.sz)).add j) = some v := by
                intro i hi j hj
                obtain ⟨ds, y, q1, _⟩ := hel i hi
                unfold World.cells? at q1
                rw [if_pos (Nat.zero_le _)] at q1
                exact mapM_get q1 j j (by simp [hj])
              obtain ⟨b, off, sp⟩ := a
              obtain ⟨v0, hv0⟩ := hcell 0 (by omega) 0 hpos
              have e0 : (Addr.mk b off sp).add (0 * e.sz) = ⟨b, off, sp⟩ := by simp [Addr.add]
              rw [e0, show (Addr.mk b off sp).add 0 = ⟨b, off, sp⟩ from rfl] at hv0
              unfold World.cell? at hv0
              cases hb : W.heap[b]? with
              | none => simp only [hb] at hv0; cases hv0
              | some o =>
                cases o with
                | cells C U fr =>
                  simp only [hb] at hv0
                  cases sp with
                  | some s => simp at hv0
                  | none =>
                    have addoff : ∀ i j, (((Addr.mk b off none).add (i * e.sz)).add j) = ⟨b, off + i * e.sz + j, none⟩ := by
                      intro i j
                      unfold Addr.add
                      by_cases h1 : i * e.sz = 0 <;> by_cases h2 : j = 0 <;> simp [h1, h2]
                    have hin : ∀ i, i < len → ∀ j, j < e.sz → ∃ v, C[off + i * e.sz + j]? = some v := by
                      intro i hi j hj
                      obtain ⟨v, hv⟩ := hcell i hi j hj
                      rw [addoff] at hv
                      unfold World.cell? at hv
                      simp only [hb] at hv
                      exact ⟨v, by simpa using hv⟩
                    have hds : ∀ i, i < len → ∀ ds, W.cells? 0 ((Addr.mk b off none).add (i * e.sz)) e.sz = some ds → ds = chunk C.toList (off + i * e.sz) e.sz := by
                      intro i hi ds q1
                      unfold World.cells? at q1
                      rw [if_pos (Nat.zero_le _)] at q1
                      have hl := mapM_len q1
                      rw [List.length_range] at hl
                      apply List.ext_getElem?
                      intro j
                      by_cases hj : j < e.sz
                      · obtain ⟨v, hv⟩ := hin i hi j hj
                        have hdj : ds[j]? = some ds[j] := List.getElem?_eq_getElem (by omega)
                        have hat := mapM_at q1 j j _ (by simp [hj]) hdj
                        rw [addoff] at hat
                        unfold World.cell? at hat
                        simp only [hb] at hat
                        simp only [Option.isSome_none, Bool.false_eq_true, if_false] at hat
                        rw [hdj, ← hat]
                        unfold chunk
                        rw [List.getElem?_take_of_lt hj, List.getElem?_drop]
                        simp
                      · rw [List.getElem?_eq_none (by omega), List.getElem?_eq_none (by unfold chunk; simp; omega)]
                    obtain ⟨l, hl1, hl2⟩ := exists_choice (Q := fun i y => Rep P e W (fun b => b < W.heap.size) (chunk C.toList (off + i * e.sz) e.sz) y ∧ e.wf y) fun i hi => by
                      obtain ⟨ds, y, q1, q2, q3⟩ := hel i hi
                      rw [hds i hi ds q1] at q2
                      exact ⟨y, q2, q3⟩
                    refine ⟨l, ⟨some ⟨b, off, none⟩, cap, by rw [hl1], by rw [hl1]; exact hlc, .inr ⟨b, off, C, U, fr, rfl, (Array.getElem?_eq_some_iff.1 hb).1, hb, ?_, fun i x hx => (hl2 i x hx).1⟩⟩, ⟨by rw [hl1]; omega, fun x hx => ?_⟩⟩
                    · obtain ⟨v, hv⟩ := hin (len - 1) (by omega) (e.sz - 1) (by omega)
                      have := (Array.getElem?_eq_some_iff.1 hv).1
                      rw [hl1]
                      have e1 : len * e.sz = (len - 1) * e.sz + e.sz := by
                        conv => lhs; rw [show len = (len - 1) + 1 from by omega]
                        rw [Nat.succ_mul]
                      omega
                    · obtain ⟨i, hi, rfl⟩ := List.getElem_of_mem hx
                      exact (hl2 i l[i] (List.getElem?_eq_getElem hi)).2
                | _ => simp only [hb] at hv0; cases hv0
        · cases hd
    · rename_i fs x y hu
      simp only [Bool.and_eq_true] at h
      obtain ⟨h1, h2⟩ := h
      have hc := nbeq_true h1
      rw [hu] at hd
      have hd' : (if cs.length = P.cellsOf T then (fs.toList.mapM fun f => DataW.trod enc P W 0 spare held fuel f.type ((cs.drop f.offset).take (P.cellsOf f.type))).map fun xs => ((DataW.agg (xs.map (·.1)) : DataW H), xs.flatMap (·.2)) else none) = some (d, ps) := by
        match cs, hd with
        | [], hd => exact hd
        | [_], hd => exact hd
        | _ :: _ :: _, hd => exact hd
      split at hd'
      · rename_i hl
        cases hm : fs.toList.mapM fun f => DataW.trod enc P W 0 spare held fuel f.type ((cs.drop f.offset).take (P.cellsOf f.type)) with
        | none => rw [hm] at hd'; cases hd'
        | some xs =>
          have := open_fields n fs.toList 0 (.pair x y) h2 fuel cs (by rw [hl, hc]; simp) xs hm
          simpa using this
      · cases hd'
    · cases h

theorem open_fields : (n : Nat) → (l : List Field) → (off : Nat) → (t : Ty) → shpF P n l off t = true → ∀ (fuel : Nat) (cs : List Value), cs.length = off + t.sz → ∀ xs : List (DataW H × List MemPlace),
    (l.mapM fun f => DataW.trod enc P W 0 spare held fuel f.type ((cs.drop f.offset).take (P.cellsOf f.type))) = some xs → ∃ x : t.den, Rep P t W (fun b => b < W.heap.size) (cs.drop off) x ∧ t.wf x
  | 0, l, off, t, h, fuel, cs, hl, xs, hm => by simp [shpF] at h
  | n + 1, [], off, t, h, fuel, cs, hl, xs, hm => by cases t <;> simp [shpF] at h
  | n + 1, [f], off, t, h, fuel, cs, hl, xs, hm => by
    rw [shpF] at h
    simp only [Bool.and_eq_true] at h
    obtain ⟨⟨h1, h2⟩, h3⟩ := h
    have e1 := nbeq_true h1
    have e2 := nbeq_true h2
    obtain ⟨y, r, g1, _, _⟩ := mapM_cons_some hm
    rw [e1, e2, List.take_of_length_le (by simp; omega)] at g1
    exact open_ty n f.type t h3 fuel _ y.1 y.2 g1
  | n + 1, f :: g :: r, off, t, h, fuel, cs, hl, xs, hm => by
    cases t with
    | pair a b =>
      rw [shpF] at h
      simp only [Bool.and_eq_true] at h
      obtain ⟨⟨⟨h1, h2⟩, h3⟩, h4⟩ := h
      have e1 := nbeq_true h1
      have e2 := nbeq_true h2
      obtain ⟨y, r', g1, g2, _⟩ := mapM_cons_some hm
      rw [e1, e2] at g1
      obtain ⟨x1, k1, k2⟩ := open_ty n f.type a h3 fuel _ y.1 y.2 g1
      obtain ⟨x2, k3, k4⟩ := open_fields n (g :: r) (off + a.sz) b h4 fuel cs (by rw [hl]; simp [Ty.sz]; omega) r' g2
      refine ⟨(x1, x2), ⟨k1, ?_⟩, k2, k4⟩
      rw [List.drop_drop]
      exact k3
    | _ => simp [shpF] at h
end

end
end Go.Abs

set_option linter.unusedSimpArgs false
set_option linter.unusedVariables false
namespace Go.Abs
open Go Go.ChangeShapes Go.WideShapes Go.RowKit
variable {P : Program}

def wfL : (ts : List Ty) → denL ts → Prop
  | [], _ => True
  | [t], x => t.wf x
  | t :: u :: ts, (x, y) => t.wf x ∧ wfL (u :: ts) y

def shpL (P : Program) (n : Nat) : List Nat → List Ty → Bool
  | [], [] => true
  | T :: Ts, t :: ts => shp P n T t && shpL P n Ts ts
  | _, _ => false

theorem shp_val {n T : Nat} {t : Ty} (h : shp P n T t = true) {w : World} {r : Reach} {b0 : Nat} {v : Value} (hv : Value.okWide P w r b0 T v) : v = t.val v.cells.toList := by
  cases n with
  | zero => simp [shp] at h
  | succ n =>
    unfold shp at h
    split at h
    · rename_i k k' hu
      obtain ⟨m, rfl⟩ := okWide_int hu hv
      rfl
    · rename_i hu
      obtain ⟨m, rfl⟩ := okWide_bool hu hv
      rfl
    · rename_i hu
      obtain ⟨m, rfl⟩ := okWide_string hu hv
      rfl
    · rename_i hu
      obtain ⟨a, l, c, rfl⟩ := okWide_slice hu hv
      rfl
    · rename_i hu
      obtain ⟨cs, rfl, _⟩ := okWide_struct hu hv
      simp [Ty.val, Ty.isPair, Value.cells]
    · cases h

section
variable {H : Type} {enc : TypeId × Value → H} {W : World} {spare : Nat → Bool} {held : Bool}

theorem open_args (n : Nat) : (Ts : List Nat) → (ts : List Ty) → shpL P n Ts ts = true → ∀ (vs : List Value) (ds : List (DataW H)) (ps : List MemPlace) (b0 : Nat),
    (∀ (j : Nat) T v, Ts[j]? = some T → vs[j]? = some v → Value.okWide P W .any b0 T v) → DataW.TrodAll enc P W 0 spare held Ts vs ds ps →
    ∃ x : denL ts, ArgsRep P W (fun b => b < W.heap.size) ts vs x ∧ wfL ts x
  | [], [], _, vs, ds, ps, b0, _, h => by
    obtain ⟨rfl, _⟩ := trodAll_nil h
    exact ⟨(), rfl, trivial⟩
  | [T], [t], hs, vs, ds, ps, b0, hv, h => by
    obtain ⟨v, vs', d, ds', p, q, rfl, rfl, rfl, h1, h2⟩ := trodAll_cons h
    obtain ⟨rfl, _⟩ := trodAll_nil h2
    simp only [shpL, Bool.and_true] at hs
    obtain ⟨fuel, h1⟩ := h1
    obtain ⟨x, k1, k2⟩ := open_ty n T t hs fuel _ d p h1
    exact ⟨x, ⟨_, by rw [← shp_val hs (hv 0 T v rfl rfl)], k1⟩, k2⟩
  | T :: U :: Ts, t :: u :: ts, hs, vs, ds, ps, b0, hv, h => by
    obtain ⟨v, vs', d, ds', p, q, rfl, rfl, rfl, h1, h2⟩ := trodAll_cons h
    rw [shpL] at hs
    simp only [Bool.and_eq_true] at hs
    obtain ⟨hs1, hs2⟩ := hs
    obtain ⟨fuel, h1⟩ := h1
    obtain ⟨x, k1, k2⟩ := open_ty n T t hs1 fuel _ d p h1
    obtain ⟨y, k3, k4⟩ := open_args n (U :: Ts) (u :: ts) hs2 vs' ds' q b0 (fun j T' v' hT hv' => hv (j + 1) T' v' (by simpa using hT) (by simpa using hv')) h2
    exact ⟨(x, y), ⟨v.cells.toList, vs', by rw [← shp_val hs1 (hv 0 T v rfl rfl)], k1, k3⟩, k2, k4⟩
  | [], _ :: _, hs, _, _, _, _, _, _ => by simp [shpL] at hs
  | _ :: _, [], hs, _, _, _, _, _, _ => by simp [shpL] at hs
  | [_], _ :: _ :: _, hs, _, _, _, _, _, _ => by simp [shpL] at hs
  | _ :: _ :: _, [_], hs, _, _, _, _, _, _ => by simp [shpL] at hs

theorem trodAll_stays {W' : World} (hl : laidOutB P = true) (hb : Below W.heap.size W W') : (Ts : List Nat) → (∀ T ∈ Ts, P.readableRec T = true ∧ T < P.types.size) → ∀ (vs : List Value) (ds : List (DataW H)) (ps : List MemPlace),
    DataW.TrodAll enc P W 0 (fun _ => true) true Ts vs ds ps → (∀ x ∈ ps, x.block < W.heap.size) → DataW.TrodAll enc P W' 0 (fun b => decide (b < W.heap.size)) true Ts vs ds ps
  | [], _, vs, ds, ps, h, _ => by
    obtain ⟨rfl, rfl, rfl⟩ := trodAll_nil h
    rfl
  | T :: Ts, hT, vs, ds, ps, h, hlt => by
    obtain ⟨v, vs', d, ds', p, q, rfl, rfl, rfl, h1, h2⟩ := trodAll_cons h
    obtain ⟨g1, g2⟩ := hT T (List.mem_cons_self ..)
    refine ⟨p, q, Below.trod hl g1 g2 h1 hb (fun x hx => hlt x (List.mem_append_left _ hx)), ?_, rfl⟩
    exact trodAll_stays hl hb Ts (fun T' h' => hT T' (List.mem_cons_of_mem _ h')) vs' ds' q h2 (fun x hx => hlt x (List.mem_append_right _ hx))
end

theorem Keeps.below {w w' : World} (h : Keeps w w') : Below w.heap.size w w' := ⟨h.os, h.tape, h.output, h.size, h.block⟩

theorem law_lifted {C : Checked} {os : Os} {f : FuncId} {fn : Func} {s : ChangeSpec} {ins : List Ty} {Ts : List Nat} {tb : Nat} {g : Nat → denL ins → Option Bool} {nn : Nat} {apart : Bool}
    {H : Type} {enc : TypeId × Value → H}
    (own : ownKnob C.prog.godebug = none) (started : os.Started) (noInit : C.prog.inits.idxOf? f = none) (hfn : C.prog.funcs[f]? = some fn)
    (witness : ∃ (w : World) (tape : Tape) (i : Input), w.os = os ∧ (w.forCall tape i).Shaped C.prog ∧ i.vars = [] ∧ Input.okWide C.prog (w.forCall tape i) .any w.heap.size f i ∧
      s.pre6 enc C.prog fn [] apart (w.forCall tape i).memory i.args ∧ ({} : Assume).holds C.prog (lone (Frame.enter C.prog f i.args .normal) [] (w.forCall tape i)))
    (hpar : fn.params.toList = Ts) (hres : fn.resultTypes = #[tb]) (hb : C.prog.underlying tb = some .bool) (hl : laidOutB C.prog = true)
    (hsh : shpL C.prog nn Ts ins = true) (hrd : (Ts.all fun T => C.prog.readableRec T && decide (T < C.prog.types.size)) = true) (hvars : s.vars = [])
    (hspec : ∀ (ds : List (DataW H)), ds.length = Ts.length → s.fn H ds = { results := [.lit (.bool true)], args := ds })
    (hcon : ∀ n, ConOK C.prog f ⟨ins, [], [.bool], fun x _ => g n x, false⟩)
    (hplain : ∀ x, wfL ins x → ∃ n, g n x = some true) :
    ReturnsInHanded {} C os f .any (s.pre6 enc C.prog fn [] apart) (s.post enc C.prog fn apart true false false) := by
  refine returnsInHanded_of_change own started noInit hfn witness ?_
  intro W base args ds gs before hval hW _ _
  have hW' := hW
  obtain ⟨p, q, hA, hV, rfl, _, _⟩ := hW
  rw [hvars] at hV
  have hgs : gs = [] ∧ q = [] := by
    cases gs with
    | nil => exact ⟨rfl, hV⟩
    | cons a b => simp [DataW.TrodVars] at hV
  obtain ⟨rfl, rfl⟩ := hgs
  rw [hpar] at hA
  have hlen : ds.length = Ts.length := by
    have : ∀ (Ts : List Nat) (vs : List Value) (ds : List (DataW H)) ps, DataW.TrodAll enc C.prog W 0 (fun _ => true) true Ts vs ds ps → ds.length = Ts.length := by
      intro Ts
      induction Ts with
      | nil => intro vs ds ps h; obtain ⟨_, rfl, _⟩ := trodAll_nil h; rfl
      | cons T Ts ih =>
        intro vs ds ps h
        obtain ⟨v, vs', d, ds', p, q, rfl, rfl, rfl, h1, h2⟩ := trodAll_cons h
        simp [ih _ _ _ h2]
    exact this _ _ _ _ hA
  obtain ⟨x, hx, hwf⟩ := open_args nn Ts ins hsh args.toList ds p base (fun j T v hT hv => by
    refine hval j T v ?_ (by simpa using hv)
    have : fn.params.toList[j]? = some T := by rw [hpar]; exact hT
    simpa using this) hA
  obtain ⟨n, hn⟩ := hplain x hwf
  obtain ⟨_, hc⟩ := hcon n
  have hcall := hc W _ args.toList [] x () true hx rfl hn
  simp only [List.append_nil, Array.toArray_toList] at hcall
  refine hcall.mono ?_
  rintro e w' ⟨v, rfl, hk, hr, _⟩
  obtain ⟨cs, rfl, hr⟩ := hr
  simp only [Rep] at hr
  subst hr
  have hbl := hk.below
  refine ⟨_, rfl, ds, [], p ++ [], [], p, [], hW', ?_, ?_, ?_, ?_, fun h => (by cases h)⟩
  · rw [hres]
    have : s.fn H (ds ++ []) = { results := [.lit (.bool true)], args := ds } := by rw [List.append_nil]; exact hspec ds hlen
    rw [this]
    exact trodAll_mk1 (shut_bool hb true)
  · have : s.fn H (ds ++ []) = { results := [.lit (.bool true)], args := ds } := by rw [List.append_nil]; exact hspec ds hlen
    rw [this, hpar]
    refine trodAll_stays hl hbl Ts (fun T hT => ?_) _ _ _ hA (fun x hx => hW'.lt x (List.mem_append_left _ hx))
    have := List.all_eq_true.1 hrd T hT
    simpa using this
  · have : s.fn H (ds ++ []) = { results := [.lit (.bool true)], args := ds } := by rw [List.append_nil]; exact hspec ds hlen
    rw [this, hvars]
    rfl
  · exact hbl.frame _

end Go.Abs

set_option linter.unusedSimpArgs false
set_option linter.unusedVariables false
namespace Go.Abs
open Go

theorem wrap_id {x : Int} (h1 : -9223372036854775808 ≤ x) (h2 : x ≤ 9223372036854775807) : IntKind.wrap .i64 x = x := by
  simp [IntKind.wrap, IntKind.bits, IntKind.signed]
  omega

theorem wrap_lo (x : Int) : -9223372036854775808 ≤ IntKind.wrap .i64 x := by
  simp [IntKind.wrap, IntKind.bits, IntKind.signed]
  omega
theorem wrap_hi (x : Int) : IntKind.wrap .i64 x ≤ 9223372036854775807 := by
  simp [IntKind.wrap, IntKind.bits, IntKind.signed]
  omega

theorem geti_nat {α : Type} (l : List α) (i : Nat) : geti l (i : Int) = l[i]? := by simp [geti]
theorem geti_neg {α : Type} {l : List α} {i : Int} (h : i < 0) : geti l i = none := by
  unfold geti
  rw [if_neg (by omega)]
theorem geti_of {α : Type} {l : List α} {i : Int} (h0 : 0 ≤ i) (h1 : i < (l.length : Int)) : geti l i = some (l[i.toNat]'(by omega)) := by
  unfold geti
  rw [if_pos h0, List.getElem?_eq_getElem]
theorem seti_nat {α : Type} (l : List α) (i : Nat) (x : α) (h : i < l.length) : seti l (i : Int) x = some (l.set i x) := by
  unfold seti
  rw [if_pos ⟨by omega, by simpa using h⟩]
  simp
theorem cut_nat {α : Type} (l : List α) (i j : Nat) (h : i ≤ j) (hj : j ≤ l.length) : cut l (i : Int) (j : Int) = some ((l.take j).drop i) := by
  unfold cut
  rw [if_pos ⟨by omega, by omega, by omega⟩]
  simp
theorem cut_zero {α : Type} (l : List α) (j : Nat) (hj : j ≤ l.length) : cut l 0 (j : Int) = some (l.take j) := by
  have := cut_nat l 0 j (Nat.zero_le _) hj
  simpa using this
theorem chk_ok {n : Nat} (h : n ≤ 4294967296) : chk n = some () := by unfold chk most; rw [if_pos h]
theorem chki_ok {n : Int} (h0 : 0 ≤ n) (h : n ≤ 4294967296) : chki n = some () := by
  unfold chki most
  rw [if_pos ⟨h0, by simpa using h⟩]

theorem part_false {α : Type} (m : Option α) (d : α) : part false m d = some d := rfl

section
variable {D Ks R : Type} {body : D → (D → Option R) → Ks → Option R} {ks : Ks}

/-- A loop, by a relation between what stands in the slots and the result, and a measure. -/
theorem loop_rule (I : D → Option R → Prop) (μ : D → Nat)
    (h : ∀ d r, I d r → ∀ again, (∀ d' r', I d' r' → μ d' < μ d → again d' = r') → body d again ks = r) :
    ∀ (n : Nat) (d : D) (r : Option R), I d r → μ d < n → loopG body n d ks = r := by
  intro n
  induction n with
  | zero => intro d r _ hn; omega
  | succ n ih =>
    intro d r hI hn
    exact h d r hI _ fun d' r' hI' hm => ih d' r' hI' (by omega)

/-- A loop over a list, with what is gathered. -/
theorem list_loop {α A : Type} {n : Nat} (l : List α) (F : Nat → A → D) (G : Nat → A → List α → Option R) (Inv : Nat → A → Prop) (hl : l.length ≤ maxLen)
    (hs : ∀ i acc x r, i < l.length → l[i]? = some x → l.drop i = x :: r → geti l (i : Int) = some x → decide ((i : Int) < (l.length : Int)) = true → IntKind.wrap .i64 ((i : Int) + 1) = ((i + 1 : Nat) : Int) → Inv i acc →
      ∀ again, (∀ acc', Inv (i + 1) acc' → again (F (i + 1) acc') = G (i + 1) acc' r) → body (F i acc) again ks = G i acc (x :: r))
    (he : ∀ acc, decide ((l.length : Int) < (l.length : Int)) = false → Inv l.length acc → ∀ again, body (F l.length acc) again ks = G l.length acc [])
    (acc : A) (h0 : Inv 0 acc) (hn : l.length < n) : loopG body n (F 0 acc) ks = G 0 acc l := by
  have key : ∀ (m i : Nat) (acc : A), i ≤ l.length → Inv i acc → l.length - i < m → loopG body m (F i acc) ks = G i acc (l.drop i) := by
    intro m
    induction m with
    | zero => intro i acc _ _ h; omega
    | succ m ih =>
      intro i acc hi hI hm
      rw [loopG]
      by_cases h : i = l.length
      · subst h
        rw [List.drop_length]
        exact he acc (by simp) hI _
      · have hlt : i < l.length := by omega
        have hd : l.drop i = l[i] :: l.drop (i + 1) := List.drop_eq_getElem_cons hlt
        rw [hd]
        refine hs i acc l[i] (l.drop (i + 1)) hlt (List.getElem?_eq_getElem hlt) hd (by rw [geti_nat, List.getElem?_eq_getElem hlt]) (by simpa using hlt) (by rw [wrap_id] <;> unfold maxLen at hl <;> omega) hI _ fun acc' hI' => ?_
        exact ih (i + 1) acc' (by omega) hI' (by omega)
  have := key n 0 acc (Nat.zero_le _) h0 (by omega)
  simpa using this

theorem list_loop0 {α : Type} {n : Nat} (l : List α) (F : Nat → D) (G : Nat → List α → Option R) (hl : l.length ≤ maxLen)
    (hs : ∀ i x r, i < l.length → l[i]? = some x → l.drop i = x :: r → geti l (i : Int) = some x → decide ((i : Int) < (l.length : Int)) = true → IntKind.wrap .i64 ((i : Int) + 1) = ((i + 1 : Nat) : Int) →
      ∀ again, again (F (i + 1)) = G (i + 1) r → body (F i) again ks = G i (x :: r))
    (he : decide ((l.length : Int) < (l.length : Int)) = false → ∀ again, body (F l.length) again ks = G l.length [])
    (hn : l.length < n) : loopG body n (F 0) ks = G 0 l :=
  list_loop (A := Unit) l (fun i _ => F i) (fun i _ r => G i r) (fun _ _ => True) hl (fun i _ x r h1 h2 h3 h4 h5 h6 _ again ih => hs i x r h1 h2 h3 h4 h5 h6 again (ih () trivial)) (fun _ h _ again => he h again) () trivial hn

/-- A loop over the numbers below one. -/
theorem count_loop {A : Type} {n : Nat} (len : Nat) (F : Nat → A → D) (G : Nat → A → Option R) (Inv : Nat → A → Prop) (hl : len ≤ maxLen)
    (hs : ∀ i acc, i < len → decide ((i : Int) < (len : Int)) = true → IntKind.wrap .i64 ((i : Int) + 1) = ((i + 1 : Nat) : Int) → Inv i acc →
      ∀ again, (∀ acc', Inv (i + 1) acc' → again (F (i + 1) acc') = G (i + 1) acc') → body (F i acc) again ks = G i acc)
    (he : ∀ acc, decide ((len : Int) < (len : Int)) = false → Inv len acc → ∀ again, body (F len acc) again ks = G len acc)
    (acc : A) (h0 : Inv 0 acc) (hn : len < n) : loopG body n (F 0 acc) ks = G 0 acc := by
  have key : ∀ (m i : Nat) (acc : A), i ≤ len → Inv i acc → len - i < m → loopG body m (F i acc) ks = G i acc := by
    intro m
    induction m with
    | zero => intro i acc _ _ h; omega
    | succ m ih =>
      intro i acc hi hI hm
      rw [loopG]
      by_cases h : i = len
      · subst h
        exact he acc (by simp) hI _
      · have hlt : i < len := by omega
        refine hs i acc hlt (by simpa using hlt) (by rw [wrap_id] <;> unfold maxLen at hl <;> omega) hI _ fun acc' hI' => ?_
        exact ih (i + 1) acc' (by omega) hI' (by omega)
  exact key n 0 acc (Nat.zero_le _) h0 (by omega)
end

theorem cast_pred {n : Nat} (h : 0 < n) (hm : n ≤ maxLen) : IntKind.wrap .i64 ((n : Int) - 1) = ((n - 1 : Nat) : Int) := by
  unfold maxLen at hm
  rw [wrap_id] <;> omega

theorem bif_eq {α : Type} (b : Bool) (x y : α) : (bif b then x else y) = if b = true then x else y := by cases b <;> rfl

end Go.Abs
