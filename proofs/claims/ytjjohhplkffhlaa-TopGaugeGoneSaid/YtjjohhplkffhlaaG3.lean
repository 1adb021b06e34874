/- Parts of one proof, joined: A function's contract is what the evaluator makes of its body. Data that are compared, and keys of maps: by a checker of their types. The evaluator's tables are checked against the program's by evaluation. What a function's text is put together from. What can be read as data is data of the evaluator. From a contract and a plain fact to a law's statement. Plain facts on the printed functions' words: rounds of loops, elements, wraps. No program. The root of floats: math.Sqrt returns it. No condition but that the root is a number. DERIVED: THE SHELF's CONTRACTS AT THIS DUMP, IN PLAIN WORDS (tools/lay-plain.mjs out of 'TryShelf.lean', which tools/lay-shelf.mjs wrote): THE SAME DECLARATIONS UNDER THE SAME NAMES: 'import', 'namespace', 'open', 'def', 'theorem' AND NOTHING ELSE: no command of the shelf's: FOR A HAND-IN. Each laying: the table of numbers ('.._ren') and one theorem, a field a fac -/
import Derived.ChangeKeysEq
import Derived.ProofKit
import Derived.ChangeSlices
import Derived.Test.YtjjohhplkffhlaaProg
import Derived.WalkKit
import Derived.Laws.Externs
import Derived.Shelf.Sort.Plain
import Derived.Ground.Names2Prog
import Derived.Shelf.Slices.CompactI
import Derived.Shelf.Slices.In.SortNone
import Derived.Lib.RowBridge
import Derived.Test.YtjjohhplkffhlaaG2
set_option linter.unusedSimpArgs false
set_option linter.unusedVariables false
namespace Go.Abs
open Go
variable {P : Program} {E : Env} {w0 : Start} {w : World} {conc : Conc} {st : ASt} {a : Act}

theorem load_of_loadAt {T : Nat} {v u : Value} (h : (Instr.loadAt T v).run P w = .ok u w) : (do loadVar T (← asAddr v) : Sem Value).run P w = .ok u w := by
  cases v with
  | pointer p =>
    cases p with
    | none => simp [Instr.loadAt, Instr.sureAddr, stuck] at h
    | some q => exact h
  | _ => simp [Instr.loadAt, Instr.sureAddr, stuck] at h

def resVal (a : Act) : ResultVar → Sem Value
  | .tmp t => pure (a.tmps.getD t undef)
  | .cell c t => do loadVar t (← asAddr (a.tmps.getD c undef))

theorem resOf_spec (hE : EnvOK P E) (h : Mod P w0 conc st a w) : {rs : List ResultVar} → {l : List SVal} → (resOf E rs).run st = some l →
    ∃ vs, (rs.mapM (resVal a)).run P w = .ok vs w ∧ All2 (SRel P w conc (okOf conc)) l vs ∧ vs.length = rs.length
  | [], l, hr => by cases hr; exact ⟨[], by simp, trivial, rfl⟩
  | .tmp t :: r, l, hr => by
    obtain ⟨s, h1, h2⟩ := RM.bind_some hr
    obtain ⟨m, h3, h4⟩ := RM.bind_some h2
    cases h4
    have := rd_rel h (labs_nil _) h1
    obtain ⟨vs, e1, e2, e3⟩ := resOf_spec hE h h3
    refine ⟨a.eval (.tmp t) :: vs, ?_, ⟨this, e2⟩, by simp [e3]⟩
    have he : a.eval (.tmp t) = a.tmps.getD t undef := by simp [Act.eval]
    simp [List.mapM_cons, resVal, he, e1]
  | .cell c T :: r, l, hr => by
    simp only [resOf] at hr
    cases hT : E.ty T with
    | none => rw [hT] at hr; cases hr
    | some t =>
      rw [hT] at hr
      dsimp only at hr
      obtain ⟨b, h0, hr⟩ := RM.bind_some hr
      obtain ⟨s, h1, h2⟩ := RM.bind_some hr
      obtain ⟨m, h3, h4⟩ := RM.bind_some h2
      cases h4
      have hb := rdA_rel h (labs_nil _) h0
      obtain ⟨u, f1, f2⟩ := loadAt_sound hE h hT h1 hb
      have f3 := load_of_loadAt f1
      obtain ⟨vs, e1, e2, e3⟩ := resOf_spec hE h h3
      refine ⟨u :: vs, ?_, ⟨f2, e2⟩, by simp [e3]⟩
      have he : a.eval (.tmp c) = a.tmps.getD c undef := by simp [Act.eval]
      rw [he] at f3
      have : (resVal a (.cell c T)).run P w = .ok u w := f3
      simp [List.mapM_cons, this, e1]

theorem results_run {fn : Func} {vs : List Value} (h : (fn.results.toList.mapM (resVal a)).run P w = .ok vs w) : (results fn a.tmps).run P w = .ok (if vs.length = 1 then vs.headD undef else .tuple vs.toArray) w := by
  unfold results
  have e : ∀ g : ResultVar → Sem Value, (∀ r, g r = resVal a r) → fn.results.mapM g = Functor.map List.toArray (fn.results.toList.mapM (resVal a)) := by
    intro g hg
    rw [Array.mapM_eq_mapM_toList, show g = resVal a from funext hg]
  rw [e _ (fun r => by cases r <;> rfl)]
  simp only [map_eq_pure_bind, bind_assoc, pure_bind]
  rw [Sem.run_bind, h]
  simp only [Result.andThen_ok]
  match vs with
  | [] => rfl
  | [v] => rfl
  | v :: u :: r => simp

/-! A call's start. -/

theorem number_get : (l : List AVal) → (n d : Nat) → {sl : Slot} → Map.get (number n l) d = some sl → ∃ i x, d = n + i ∧ l[i]? = some x ∧ sl = ⟨[], true, .v x⟩
  | [], n, d, sl, h => by cases h
  | x :: r, n, d, sl, h => by
    simp only [number, Map.get, nbeq] at h
    by_cases hd : n = d
    · simp [hd] at h
      exact ⟨0, x, by omega, rfl, h.symm⟩
    · simp [hd] at h
      obtain ⟨i, y, h1, h2, h3⟩ := number_get r (n + 1) d h
      exact ⟨i + 1, y, by omega, by simpa using h2, h3⟩

theorem tupOf_len : (ts : List Ty) → (x : denL ts) → (tupOf ts x).length = ts.length
  | [], _ => rfl
  | [t], x => rfl
  | t :: u :: ts, (x, y) => by simp [tupOf, tupOf_len (u :: ts) y]

theorem ptrs_rel {ok : Nat → Prop} : (ts : List Ty) → {vs : List Value} → {x : denL ts} → CapsRep P w ok ts vs x → All2 (VRel P w conc ok) (ptrs (tupOf ts x)) vs
  | [], vs, x, h => by cases h; trivial
  | [t], vs, x, ⟨v, h1, h2⟩ => by subst h1; exact ⟨h2, trivial⟩
  | t :: u :: ts, vs, x, ⟨v, r, h1, h2, h3⟩ => by subst h1; exact ⟨h2, ptrs_rel (u :: ts) h3⟩

theorem ptrs_len : ∀ l : List AVal, (ptrs l).length = l.length
  | [] => rfl
  | a :: l => by cases a <;> simp [ptrs, ptrs_len l]

theorem start_ok (ok : Nat → Prop) (w : World) (tm : Array Value) (l : Nat) : StartOK ⟨w, newOk ok w, fun _ => False, [], tm, l, w.heap.size⟩ where
  up := fun b hb => .inr hb
  mB := fun b hb => hb.elim
  ds := (fun _ h => (by cases h))
  dn := List.nodup_nil
  lo := Nat.le_refl _

theorem entry_models {ok : Nat → Prop} {N : Nat} {ins caps : List Ty} {vs cs : List Value} {x : denL ins} {y : denL caps} (hN : ins.length + caps.length ≤ N) (hx : ArgsRep P w ok ins vs x) (hy : CapsRep P w ok caps cs y) (tm : Array Value) :
    Models P ⟨w, newOk ok w, fun _ => False, [], tm, 0, w.heap.size⟩ (entry N ins caps x y) { tmps := (vs ++ cs).toArray ++ Array.replicate (N - (vs ++ cs).toArray.size) undef, defers := [] } w := by
  let conc : Conc := ⟨fun _ => none, newOk ok w, 0⟩
  have hok : ∀ b, ok b → okOf conc b := fun b hb => ⟨.inl hb, (fun _ _ _ h => (by cases h))⟩
  have h1 : All2 (VRel P w conc (okOf conc)) (tupOf ins x) vs := (tup_rel (conc := conc) ins hx).imp fun a b h => VRel.mono ⟨Nat.le_refl _, fun _ _ _ => rfl⟩ (fun b hb _ => hok b hb) (CLe.refl _) a h
  have h2 : All2 (VRel P w conc (okOf conc)) (ptrs (tupOf caps y)) cs := (ptrs_rel (conc := conc) caps hy).imp fun a b h => VRel.mono ⟨Nat.le_refl _, fun _ _ _ => rfl⟩ (fun b hb _ => hok b hb) (CLe.refl _) a h
  have h3 := h1.append h2
  have hl1 := h1.length
  have hl2 := h2.length
  rw [tupOf_len] at hl1
  rw [ptrs_len, tupOf_len] at hl2
  refine ⟨conc, { defers := rfl, size := ?_, marks := ?_, slots := ?_, heap := (fun id ver o h => (by cases h)), dead := fun _ _ => rfl, inj := (fun _ _ _ _ _ _ _ h => (by cases h)), base := (fun _ _ _ _ h => (by cases h)), keeps := ⟨rfl, rfl, rfl, Nat.le_refl _, fun _ _ _ => rfl⟩, cB := rfl, cY := rfl, okS := start_ok ok w tm 0, fixed := (fun _ h => (by cases h)) }⟩
  · simp [entry]
    omega
  · intro d sl hd p hp
    obtain ⟨i, a, _, _, e⟩ := number_get _ _ _ hd
    rw [e] at hp
    cases hp
  · intro d sl hd
    obtain ⟨i, a, e1, e2, e3⟩ := number_get _ _ _ hd
    rw [Nat.zero_add] at e1
    subst e1
    obtain ⟨v, g1, g2⟩ := All2.get d a h3 e2
    refine ⟨v, ?_, ?_⟩
    · have hlt : d < (vs ++ cs).length := (List.getElem?_eq_some_iff.1 g1).1
      rw [Array.getElem?_append_left (by simpa using hlt)]
      simpa using g1
    · rw [e3]
      exact ⟨fun _ => ⟨rfl, g2⟩, fun hn => absurd (labs_nil _) hn⟩

/-- How an iterator starts: its first argument is the function to be called. -/
def entryY (N : Nat) (caps : List Ty) (y : denL caps) : ASt :=
  { N, marks := [], slots := (0, ⟨[], true, .v .yld⟩) :: number 1 (ptrs (tupOf caps y)), heap := [], fixed := [] }

theorem entryY_models {ok : Nat → Prop} {N : Nat} {caps : List Ty} {cs : List Value} {y : denL caps} (l : Nat) (hN : 1 + caps.length ≤ N) (hy : CapsRep P w ok caps cs y) (tm : Array Value) :
    Models P ⟨w, newOk ok w, fun _ => False, [], tm, l, w.heap.size⟩ (entryY N caps y) { tmps := (#[Value.func (.yield l) #[] #[]] ++ cs.toArray) ++ Array.replicate (N - (#[Value.func (.yield l) #[] #[]] ++ cs.toArray).size) undef, defers := [] } w := by
  let conc : Conc := ⟨fun _ => none, newOk ok w, l⟩
  have hok : ∀ b, ok b → okOf conc b := fun b hb => ⟨.inl hb, (fun _ _ _ h => (by cases h))⟩
  have h2 : All2 (VRel P w conc (okOf conc)) (ptrs (tupOf caps y)) cs := (ptrs_rel (conc := conc) caps hy).imp fun a b h => VRel.mono ⟨Nat.le_refl _, fun _ _ _ => rfl⟩ (fun b hb _ => hok b hb) (CLe.refl _) a h
  have hl2 := h2.length
  rw [ptrs_len, tupOf_len] at hl2
  have hget : ∀ d sl, Map.get (entryY N caps y).slots d = some sl → (d = 0 ∧ sl = ⟨[], true, .v .yld⟩) ∨ ∃ i a, d = 1 + i ∧ (ptrs (tupOf caps y))[i]? = some a ∧ sl = ⟨[], true, .v a⟩ := by
    intro d sl hd
    simp only [entryY, Map.get, nbeq] at hd
    by_cases h0 : 0 = d
    · simp [h0] at hd
      exact .inl ⟨h0.symm, hd.symm⟩
    · simp [h0] at hd
      exact .inr (number_get _ _ _ hd)
  refine ⟨conc, { defers := rfl, size := ?_, marks := ?_, slots := ?_, heap := (fun id ver o h => (by cases h)), dead := fun _ _ => rfl, inj := (fun _ _ _ _ _ _ _ h => (by cases h)), base := (fun _ _ _ _ h => (by cases h)), keeps := ⟨rfl, rfl, rfl, Nat.le_refl _, fun _ _ _ => rfl⟩, cB := rfl, cY := rfl, okS := start_ok ok w tm l, fixed := (fun _ h => (by cases h)) }⟩
  · simp [entryY]
    omega
  · intro d sl hd p hp
    rcases hget d sl hd with ⟨_, e⟩ | ⟨i, a, _, _, e⟩
    · rw [e] at hp; cases hp
    · rw [e] at hp; cases hp
  · intro d sl hd
    rcases hget d sl hd with ⟨e1, e⟩ | ⟨i, a, e1, e2, e3⟩
    · subst e1 e
      refine ⟨.func (.yield l) #[] #[], ?_, ⟨fun _ => ⟨rfl, rfl⟩, fun hn => absurd (labs_nil _) hn⟩⟩
      rw [Array.getElem?_append_left (by simp), Array.getElem?_append_left (by simp)]
      rfl
    · obtain ⟨v, g1, g2⟩ := All2.get i a h2 e2
      refine ⟨v, ?_, ?_⟩
      · have hlt : i < cs.length := (List.getElem?_eq_some_iff.1 g1).1
        subst e1
        rw [Array.getElem?_append_left (by simp; omega)]
        rw [Array.getElem?_append_right (by simp)]
        simpa using g1
      · rw [e3]
        exact ⟨fun _ => ⟨rfl, g2⟩, fun hn => absurd (labs_nil _) hn⟩

theorem args_len {ok : Nat → Prop} : (ts : List Ty) → {vs : List Value} → {x : denL ts} → ArgsRep P w ok ts vs x → vs.length = ts.length
  | [], vs, x, h => by cases h; rfl
  | [t], vs, x, ⟨cs, h1, h2⟩ => by subst h1; rfl
  | t :: u :: ts, vs, x, ⟨cs, r, h1, h2, h3⟩ => by subst h1; simp [args_len (u :: ts) h3]

theorem args_mono {ok ok' : Nat → Prop} (hs : Sub w ok ok') : (ts : List Ty) → {vs : List Value} → {x : denL ts} → ArgsRep P w ok ts vs x → ArgsRep P w ok' ts vs x
  | [], vs, x, h => h
  | [t], vs, x, ⟨cs, h1, h2⟩ => ⟨cs, h1, h2.re hs⟩
  | t :: u :: ts, vs, x, ⟨cs, r, h1, h2, h3⟩ => ⟨cs, r, h1, h2.re hs, args_mono hs (u :: ts) h3⟩

theorem res_of_args {ok : Nat → Prop} : (ts : List Ty) → {vs : List Value} → {x : denL ts} → ArgsRep P w ok ts vs x → ResRep P w ok ts (if vs.length = 1 then vs.headD undef else .tuple vs.toArray) x
  | [], vs, x, h => by cases h; rfl
  | [t], vs, x, ⟨cs, h1, h2⟩ => by subst h1; exact ⟨cs, rfl, h2⟩
  | t :: u :: ts, vs, x, h => by
    have hl := args_len _ h
    simp only [List.length_cons] at hl
    rw [if_neg (by omega)]
    exact ⟨vs, rfl, h⟩

theorem FreshT.sub {n : Nat} {ok ok' : Nat → Prop} (hs : Sub w ok ok') : (t : Ty) → {vs : List Value} → {d : t.den} → {bs : List Nat} → FreshT P n w ok t vs d bs → FreshT P n w ok' t vs d bs
  | .slice e, vs, d, bs, h => by
    rcases h with h | ⟨b, off, cap, cs, T, h1, h2, h3, h4, h5, h6, h7, h8⟩
    · exact .inl h
    · exact .inr ⟨b, off, cap, cs, T, h1, h2, h3, h4, h5, h6, h7, fun i x hi => (h8 i x hi).re hs⟩
  | .pair a b, vs, (x, y), bs, ⟨b1, b2, h1, h2, h3⟩ => ⟨b1, b2, h1, FreshT.sub hs a h2, FreshT.sub hs b h3⟩
  | .int k, vs, d, bs, ⟨h1, h2⟩ => ⟨h1, h2.re hs⟩
  | .bool, vs, d, bs, ⟨h1, h2⟩ => ⟨h1, h2.re hs⟩
  | .str, vs, d, bs, ⟨h1, h2⟩ => ⟨h1, h2.re hs⟩
  | .unit, vs, d, bs, ⟨h1, h2⟩ => ⟨h1, h2.re hs⟩
  | .fn1 _ _, vs, d, bs, ⟨h1, h2⟩ => ⟨h1, h2.re hs⟩
  | .fn2 _ _ _, vs, d, bs, ⟨h1, h2⟩ => ⟨h1, h2.re hs⟩
  | .seq _, vs, d, bs, ⟨h1, h2⟩ => ⟨h1, h2.re hs⟩
  | .seq2 _ _, vs, d, bs, ⟨h1, h2⟩ => ⟨h1, h2.re hs⟩
  | .map _ _, vs, d, bs, ⟨h1, h2⟩ => ⟨h1, h2.re hs⟩

/-- Fresh data are data. -/
theorem FreshT.rep {n : Nat} {ok ok' : Nat → Prop} (hs : Sub w ok ok') (hn : ∀ b, n ≤ b → ok' b) : (t : Ty) → {vs : List Value} → {d : t.den} → {bs : List Nat} → FreshT P n w ok t vs d bs → Rep P t w ok' vs d
  | .slice e, vs, l, bs, h => by
    rcases h with ⟨h1, h2, _⟩ | ⟨b, off, cap, cs, T, h1, h2, h3, h4, h5, h6, h7, h8⟩
    · refine ⟨none, 0, ?_, ?_, .inl h2⟩
      · rw [h1, h2]; rfl
      · rw [h2]; exact Nat.le_refl _
    · refine ⟨some ⟨b, off, none⟩, cap, h1, h5, .inr ⟨b, off, cs, T, _, rfl, hn b h3, h4, ?_, fun i y hi => ?_⟩⟩
      · exact Nat.le_trans (Nat.add_le_add_left (Nat.mul_le_mul_right _ h5) _) h7
      · exact (h8 i y hi).re hs
  | .pair a b, vs, (x, y), bs, ⟨b1, b2, h1, h2, h3⟩ => ⟨FreshT.rep hs hn a h2, FreshT.rep hs hn b h3⟩
  | .int k, vs, d, bs, ⟨h1, h2⟩ => h2.re hs
  | .bool, vs, d, bs, ⟨h1, h2⟩ => h2.re hs
  | .str, vs, d, bs, ⟨h1, h2⟩ => h2.re hs
  | .unit, vs, d, bs, ⟨h1, h2⟩ => h2.re hs
  | .fn1 _ _, vs, d, bs, ⟨h1, h2⟩ => h2.re hs
  | .fn2 _ _ _, vs, d, bs, ⟨h1, h2⟩ => h2.re hs
  | .seq _, vs, d, bs, ⟨h1, h2⟩ => h2.re hs
  | .seq2 _ _, vs, d, bs, ⟨h1, h2⟩ => h2.re hs
  | .map _ _, vs, d, bs, ⟨h1, h2⟩ => h2.re hs

def blk (conc : Conc) (id : Nat) : Option Nat := (conc id).bind fun p => blockOf p.2.1

theorem freshCells_one {n : Nat} {t : Ty} (ht : ∀ w ok vs d bs, FreshT P n w ok t vs d bs ↔ bs = [] ∧ Rep P t w ok vs d) {x : AVal} {r : List AVal} {us : List Value} {q : (t.den × List Nat) × List AVal}
    (hq : (freshOne t x r).run st = some q) (hs : t.sz = 1) (hp : t.isPair = false) (hv : All2 (VRel P w conc (okOf conc)) (x :: r) us) :
    ∃ vs ws bs, us = vs ++ ws ∧ All2 (VRel P w conc (okOf conc)) q.2 ws ∧ vs.length = t.sz ∧ FreshT P n w (okOf conc) t vs q.1.1 bs ∧ bs = q.1.2.filterMap (blk conc) ∧ ∀ id ∈ q.1.2, ∃ cv c, conc id = some (cv, c, true) := by
  unfold freshOne at hq
  split at hq
  · split at hq
    · rename_i y hy
      cases hq
      obtain ⟨e, he⟩ := castTy_some hy
      subst e
      subst he
      match us, hv with
      | v :: us, hv =>
        obtain ⟨zs, h1, h2⟩ := hv.1
        have hl := h2.len
        rw [hs] at hl
        match zs, hl with
        | [z], _ =>
          have : v = z := by rw [h1]; simp [Ty.val, hp]
          subst this
          exact ⟨[v], us, [], rfl, hv.2, by rw [hs]; rfl, (ht _ _ _ _ _).2 ⟨rfl, h2⟩, rfl, fun _ h => (by cases h)⟩
    · cases hq
  · cases hq

theorem freshCells_spec {n : Nat} (h : Mod P w0 conc st a w) (hn : ∀ b, ownedB conc b → n ≤ b) : (t : Ty) → {l : List AVal} → {us : List Value} → {q : (t.den × List Nat) × List AVal} → (freshCells t l).run st = some q → All2 (VRel P w conc (okOf conc)) l us →
    ∃ vs ws bs, us = vs ++ ws ∧ All2 (VRel P w conc (okOf conc)) q.2 ws ∧ vs.length = t.sz ∧ FreshT P n w (okOf conc) t vs q.1.1 bs ∧ bs = q.1.2.filterMap (blk conc) ∧ ∀ id ∈ q.1.2, ∃ cv c, conc id = some (cv, c, true)
  | .slice e, .hand id ver :: r, v :: us, q, hr, hv => by
    simp only [freshCells, RM.run] at hr
    split at hr
    · rename_i cv e' l ho
      obtain ⟨g1, g2⟩ := cond_some hr
      have := nbeq_true g1
      subst this
      split at g2
      · rename_i x hx
        cases g2
        obtain ⟨he, hx⟩ := castTy_some hx
        cases he
        subst hx
        obtain ⟨c, ow, k1, k2⟩ := obj_rel h ho
        obtain ⟨cv', c', ow', m1, m2, mo, m3⟩ := hv.1
        rw [k1] at m1; cases m1
        have hvc := m3 rfl
        subst hvc
        obtain ⟨rfl, k2⟩ := k2
        rcases k2 with ⟨q1, q2⟩ | ⟨b, off, cap, cs, T, q1, q2, q3, q4, q5, q6⟩
        · refine ⟨[v], us, [], rfl, hv.2, rfl, .inl ⟨by rw [q1], q2, rfl⟩, ?_, ?_⟩
          · simp [blk, k1, q1, blockOf]
          · intro j hj; rw [List.mem_singleton] at hj; subst hj; exact ⟨_, _, k1⟩
        · refine ⟨[v], us, [b], rfl, hv.2, rfl, .inr ⟨b, off, cap, cs, T, by rw [q1], rfl, hn b ⟨id, cv, v, k1, by rw [q1]; rfl⟩, q2, q3, q4, q5, q6⟩, ?_, ?_⟩
          · simp [blk, k1, q1, blockOf]
          · intro j hj; rw [List.mem_singleton] at hj; subst hj; exact ⟨_, _, k1⟩
      · cases g2
    · cases hr
  | .slice e, .nils :: r, v :: us, q, hr, hv => by
    cases hr
    have hvn : v = .slice none 0 0 := hv.1
    subst hvn
    exact ⟨[_], us, [], rfl, hv.2, rfl, .inl ⟨rfl, rfl, rfl⟩, rfl, fun _ h => (by cases h)⟩
  | .pair x y, l, us, q, hr, hv => by
    simp only [freshCells] at hr
    obtain ⟨p1, g1, hr⟩ := RM.bind_some hr
    obtain ⟨p2, g2, hr⟩ := RM.bind_some hr
    cases hr
    obtain ⟨vs1, ws1, bs1, e1, e2, e3, e4, e5, e6⟩ := freshCells_spec h hn x g1 hv
    obtain ⟨vs2, ws2, bs2, f1, f2, f3, f4, f5, f6⟩ := freshCells_spec h hn y g2 e2
    refine ⟨vs1 ++ vs2, ws2, bs1 ++ bs2, by rw [e1, f1, List.append_assoc], f2, by simp [Ty.sz, e3, f3], ⟨bs1, bs2, rfl, ?_, ?_⟩, by simp [e5, f5], ?_⟩
    · rw [List.take_left' e3]; exact e4
    · rw [List.drop_left' e3]; exact f4
    · intro id hid
      rcases List.mem_append.1 hid with hid | hid
      · exact e6 id hid
      · exact f6 id hid
  | .int k, x :: r, us, q, hr, hv => freshCells_one (fun _ _ _ _ _ => Iff.rfl) hr rfl rfl hv
  | .bool, x :: r, us, q, hr, hv => freshCells_one (fun _ _ _ _ _ => Iff.rfl) hr rfl rfl hv
  | .str, x :: r, us, q, hr, hv => freshCells_one (fun _ _ _ _ _ => Iff.rfl) hr rfl rfl hv
  | .int k, [], us, q, hr, hv => by cases hr
  | .bool, [], us, q, hr, hv => by cases hr
  | .str, [], us, q, hr, hv => by cases hr
  | .slice e, .hand id ver :: r, [], q, hr, hv => hv.elim
  | .slice e, .nils :: r, [], q, hr, hv => hv.elim
  | .slice e, [], us, q, hr, hv => by cases hr
  | .slice e, .pure _ _ :: r, us, q, hr, hv => by cases hr
  | .slice e, .bptr _ _ _ :: r, us, q, hr, hv => by cases hr
  | .slice e, .pptr _ _ :: r, us, q, hr, hv => by cases hr
  | .slice e, .eptr _ _ _ _ :: r, us, q, hr, hv => by cases hr
  | .slice e, .epart _ _ _ _ _ :: r, us, q, hr, hv => by cases hr
  | .slice e, .fref _ :: r, us, q, hr, hv => by cases hr
  | .slice e, .flt _ :: r, us, q, hr, hv => by cases hr
  | .slice e, .junk :: r, us, q, hr, hv => by cases hr
  | .slice e, .yld :: r, us, q, hr, hv => by cases hr
  | .unit, l, us, q, hr, hv => by cases l <;> first | cases hr | (rename_i x r; cases x <;> cases hr)
  | .fn1 _ _, l, us, q, hr, hv => by cases l <;> first | cases hr | (rename_i x r; cases x <;> cases hr)
  | .fn2 _ _ _, l, us, q, hr, hv => by cases l <;> first | cases hr | (rename_i x r; cases x <;> cases hr)
  | .seq _, l, us, q, hr, hv => by cases l <;> first | cases hr | (rename_i x r; cases x <;> cases hr)
  | .seq2 _ _, l, us, q, hr, hv => by cases l <;> first | cases hr | (rename_i x r; cases x <;> cases hr)
  | .map _ _, l, us, q, hr, hv => by cases l <;> first | cases hr | (rename_i x r; cases x <;> cases hr)

theorem nodupN_ok : {l : List Nat} → nodupN l = true → l.Nodup
  | [], _ => List.nodup_nil
  | i :: r, h => by
    simp only [nodupN, Bool.and_eq_true, Bool.not_eq_true', List.any_eq_false] at h
    refine List.nodup_cons.2 ⟨fun hm => h.1 i hm (by simp [nbeq]), nodupN_ok h.2⟩

theorem blks_nodup (h : Mod P w0 conc st a w) : {l : List Nat} → l.Nodup → (∀ id ∈ l, ∃ cv c, conc id = some (cv, c, true)) → (l.filterMap (blk conc)).Nodup
  | [], _, _ => List.nodup_nil
  | i :: r, hn, ho => by
    rw [List.nodup_cons] at hn
    have ih := blks_nodup h hn.2 fun id hid => ho id (List.mem_cons_of_mem _ hid)
    rw [List.filterMap_cons]
    split
    · exact ih
    · rename_i b hb
      refine List.nodup_cons.2 ⟨fun hm => ?_, ih⟩
      obtain ⟨j, hj, hbj⟩ := List.mem_filterMap.1 hm
      obtain ⟨cv, c, hc⟩ := ho i List.mem_cons_self
      obtain ⟨cv', c', hc'⟩ := ho j (List.mem_cons_of_mem _ hj)
      simp only [blk, hc, Option.bind_some] at hb
      simp only [blk, hc', Option.bind_some] at hbj
      have := h.inj i j _ _ _ _ b hc hc' hb hbj
      subst this
      exact hn.1 hj

theorem freshOf_spec {n : Nat} {ok : Nat → Prop} (h : Mod P w0 conc st a w) (hn : ∀ b, ownedB conc b → n ≤ b) (hnB : ∀ b, n ≤ b → ok b) (hsB : ∀ b, conc.B b → ok b) : (outs : List Ty) → {l : List SVal} → {vs : List Value} → {r : denL outs} → (freshOf outs l).run st = some r → All2 (SRel P w conc (okOf conc)) l vs →
    ∃ v, vs = [v] ∧ ResRep P w ok outs v r ∧ FreshC P n w conc.B outs v r := by
  intro outs l vs r hr hv
  unfold freshOf at hr
  split at hr
  · rename_i e id ver
    match vs, hv with
    | [v], hv =>
      simp only [RM.run] at hr
      split at hr
      · rename_i cv e' l ho
        obtain ⟨g1, g2⟩ := cond_some hr
        have := nbeq_true g1
        subst this
        split at g2
        · rename_i x hx
          cases g2
          obtain ⟨he, hx⟩ := castTy_some hx
          obtain ⟨c, ow, k1, k2⟩ := obj_rel h ho
          obtain ⟨cv', c', ow', m1, m2, mo, m3⟩ := hv.1
          rw [k1] at m1; cases m1
          have hvc := m3 rfl
          subst hvc
          cases he
          subst hx
          obtain ⟨rfl, k2⟩ := k2
          refine ⟨v, rfl, ?_, ?_⟩
          · refine ⟨[v], rfl, ?_⟩
            rcases k2 with ⟨q1, q2⟩ | ⟨b, off, cap, cs, T, q1, q2, q3, q4, q5, q6⟩
            · refine ⟨none, 0, ?_, ?_, .inl q2⟩
              · rw [q1, q2]; rfl
              · rw [q2]; exact Nat.le_refl _
            · refine ⟨some ⟨b, off, none⟩, cap, by rw [q1], q3, .inr ⟨b, off, cs, T, _, rfl, ?_, q2, ?_, fun i y hi => ?_⟩⟩
              · exact hnB b (hn b ⟨id, cv, v, k1, by rw [q1]; rfl⟩)
              · exact Nat.le_trans (Nat.add_le_add_left (Nat.mul_le_mul_right _ q3) _) q5
              · exact (q6 i y hi).re fun b hb _ => hsB b hb.1
          · rcases k2 with q | ⟨b, off, cap, cs, T, q1, q2, q3, q4, q5, q6⟩
            · exact .inl q
            · refine .inr ⟨b, off, cap, cs, T, q1, hn b ⟨id, cv, v, k1, by rw [q1]; rfl⟩, q2, q3, q4, q5, fun i y hi => (q6 i y hi).re fun b' hb' _ => ⟨hb'.1, fun e => ?_⟩⟩
              subst e
              exact hb'.2 id cv v k1 (by rw [q1]; rfl)
        · cases g2
      · cases hr
    | [], hv => exact hv.elim
    | _ :: _ :: _, hv => exact hv.2.elim
  · rename_i e
    match vs, hv with
    | [v], hv =>
      cases hr
      have hvn : v = .slice none 0 0 := hv.1
      subst hvn
      exact ⟨_, rfl, ⟨[_], rfl, Rep.nilS⟩, .inl ⟨rfl, rfl⟩⟩
    | [], hv => exact hv.elim
    | _ :: _ :: _, hv => exact hv.2.elim
  · rename_i x y l
    match vs, hv with
    | [v], hv =>
      obtain ⟨q, g1, g2⟩ := RM.bind_some hr
      obtain ⟨us, hu1, hu2, hu3⟩ := hv.1
      obtain ⟨cs, ws, bs, e1, e2, e3, e4, e5, e6⟩ := freshCells_spec h hn _ g1 hu3
      split at g2
      · rename_i hnil
        obtain ⟨hnd, g3⟩ := cond_some g2
        cases g3
        rw [hnil] at e2
        match ws, e2 with
        | [], _ =>
          rw [List.append_nil] at e1
          subst e1
          have hval : v = (Ty.pair x y).val us := by rw [hu1]; simp [Ty.val, Ty.isPair]
          refine ⟨v, rfl, ⟨us, hval, e4.rep (fun b hb _ => hsB b hb.1) hnB⟩, us, bs, hval, hu2, ?_, e3, e4.sub fun b hb _ => ⟨hb.1, fun hm => ?_⟩⟩
          · rw [e5]; exact blks_nodup h (nodupN_ok hnd) e6
          · rw [e5] at hm
            obtain ⟨id, hid, hbl⟩ := List.mem_filterMap.1 hm
            obtain ⟨cv, c, hc⟩ := e6 id hid
            simp only [blk, hc, Option.bind_some] at hbl
            exact hb.2 id cv c hc hbl
        | _ :: _, e2 => exact e2.elim
      · cases g2
    | [], hv => exact hv.elim
    | _ :: _ :: _, hv => exact hv.2.elim
  · cases hr

theorem FreshC.sub {n : Nat} {ok ok' : Nat → Prop} (hs : Sub w ok ok') {ts : List Ty} {v : Value} {r : denL ts} (h : FreshC P n w ok ts v r) : FreshC P n w ok' ts v r := by
  unfold FreshC at h ⊢
  split at h
  · rcases h with h | ⟨b, off, cap, cs, T, h1, h2, h3, h4, h5, h6, h7⟩
    · exact .inl h
    · exact .inr ⟨b, off, cap, cs, T, h1, h2, h3, h4, h5, h6, fun i x hi => (h7 i x hi).re fun b' hb' hl => ⟨hs b' hb'.1 hl, hb'.2⟩⟩
  · obtain ⟨vs, bs, h1, h2, h3, h4, h5⟩ := h
    exact ⟨vs, bs, h1, h2, h3, h4, h5.sub fun b' hb' hl => ⟨hs b' hb'.1 hl, hb'.2⟩⟩
  · trivial

theorem resRep_sub {ok ok' : Nat → Prop} (hs : Sub w ok ok') {ts : List Ty} {v : Value} {r : denL ts} (h : ResRep P w ok ts v r) : ResRep P w ok' ts v r := ResRep.mono ⟨Nat.le_refl _, fun _ _ _ => rfl⟩ hs ts h

/-- The deferred calls are fewer. -/
theorem Mod.fewer {s : Start} (h : Mod P s conc st a w) (r : List Deferred) (hS : StartOK { s with ds := r }) : Mod P { s with ds := r } conc st { a with defers := r } w :=
  { defers := rfl, size := h.size, marks := h.marks, slots := h.slots, heap := h.heap, dead := h.dead, inj := h.inj, base := h.base, keeps := ⟨h.keeps.os, h.keeps.tape, h.keeps.output, h.keeps.size, h.keeps.block⟩, cB := h.cB, cY := h.cY, okS := hS, fixed := h.fixed }

/-- A mark is come to. -/
theorem mark_step {s0 s : Start} (hl : LinkR s0 s) (hlo : s0.lo = s0.w.heap.size) (h : Mod P s conc st a w) {d : Deferred} {r : List Deferred} (hd : a.defers = d :: r) :
    ∃ D, d = { target := .collected D, args := #[] } ∧ (Instr.takeDeferred D).run P w = .ok [] (w.putObj D (.deferred none)) ∧ ∃ s', LinkR s0 s' ∧ Models P s' st { a with defers := r } (w.putObj D (.deferred none)) := by
  have hds : s.ds = d :: r := h.defers.symm.trans hd
  obtain ⟨D, e, h1, h2, h3⟩ := h.okS.ds d (by rw [hds]; exact List.mem_cons_self)
  have hlt := (Array.getElem?_eq_some_iff.1 h1).1
  have hD : w.heap[D]? = some (.deferred (some [])) := (h.keeps.block D hlt fun g => h2 (h.okS.mB D g)).trans h1
  have hdn := h.okS.dn
  rw [hds, List.nodup_cons] at hdn
  have hot : ∀ b, b ≠ D → (w.putObj D (.deferred none)).heap[b]? = w.heap[b]? := fun b hb => World.putObj_heap_other hb
  have hsz : (w.putObj D (.deferred none)).heap.size = w.heap.size := by simp
  have hk := h.keeps.size
  refine ⟨D, e, run_takeDeferred hD, ⟨w.putObj D (.deferred none), s.B, ownedB conc, r, s.tmps, s.yl, s.lo⟩, ?_, ?_⟩
  · have l1 := hl.trans h.link.toR
    exact {
      os := l1.os
      tape := l1.tape
      output := l1.output
      size := by
        have := l1.size
        show s0.w.heap.size ≤ (w.putObj D (.deferred none)).heap.size
        have h2 : s0.w.heap.size ≤ w.heap.size := this
        omega
      block := fun b hb hm => (hot b fun g => by
        have := hl.lo
        omega).trans (l1.block b hb hm)
      M := l1.M
      B1 := l1.B1
      B2 := l1.B2
      lo := l1.lo }
  · have hr : Mod P { s with ds := r } conc st { a with defers := r } w := h.fewer r {
      up := h.okS.up
      mB := h.okS.mB
      ds := fun d' hd' => h.okS.ds d' (by rw [hds]; exact List.mem_cons_of_mem _ hd')
      dn := hdn.2
      lo := h.okS.lo }
    refine ⟨_, Mod.move' hr s.B (by omega) (fun b _ hb => hot b fun g => h2 (by rw [← g, ← h.cB]; exact hb)) (fun b _ hb => by rw [← h.cB]; exact hb) rfl rfl (fun b hb => hb) rfl rfl rfl {
      up := fun b hb => h.okS.up b (by
        have h1 : (w.putObj D (.deferred none)).heap.size ≤ b := hb
        omega)
      mB := fun b ⟨i, v, c, g1, g2⟩ => h.inB g1 g2
      ds := fun d' hd' => by
        obtain ⟨D', e', k1, k2, k3⟩ := h.okS.ds d' (by rw [hds]; exact List.mem_cons_of_mem _ hd')
        have hlt' := (Array.getElem?_eq_some_iff.1 k1).1
        refine ⟨D', e', (hot D' fun g => ?_).trans ((h.keeps.block D' hlt' fun g => k2 (h.okS.mB D' g)).trans k1), k2, k3⟩
        subst g
        exact hdn.1 (by rw [e, ← e']; exact hd')
      dn := hdn.2
      lo := by
        have := h.okS.lo
        show s.lo ≤ (w.putObj D (.deferred none)).heap.size
        omega }⟩

theorem fin_sound (hE : EnvOK P E) {fn : Func} {outs : List Ty} {fresh : Bool} {ex : Exit} {ans : denL outs} {ok : Nat → Prop} {w1 : World} {tm : Array Value} {n : Nat} : ∀ (ds : List Deferred) {s : Start} {a : Act} {w : World}, a.defers = ds →
    LinkR ⟨w1, newOk ok w1, fun _ => False, [], tm, 0, w1.heap.size⟩ s → Models P s st a w → finR E fresh fn.results.toList outs ex st = some ans →
    LeavesInM Fence.wide n P fn a.tmps (fun e w' => ∃ v, e = .returned v ∧ Keeps w1 w' ∧ ResRep P w' (newOk ok w1) outs v ans ∧ (fresh = true → FreshC P w1.heap.size w' (newOk ok w1) outs v ans)) ds .returning w
  | d :: r, s, a, w, hd, hl, ⟨conc, hm⟩, h => by
    obtain ⟨D, e, hrun, s', hl', hm'⟩ := mark_step hl rfl hm hd
    subst e
    exact ⟨by simp, .inl ⟨D, _, rfl, hrun, fin_sound hE r (a := { a with defers := r }) rfl hl' hm' h⟩⟩
  | [], s, a, w, hd, hl, ⟨conc, hm⟩, h => by
    have l1 := hl.trans hm.link.toR
    have hk : Keeps w1 w := ⟨l1.os, l1.tape, l1.output, l1.size, fun b hb => l1.block b hb id⟩
    have hsub : Sub w conc.B (newOk ok w1) := fun b hb _ => by
      rw [hm.cB] at hb
      by_cases hlt : b < w1.heap.size
      · exact hl.B2 b hlt hb
      · exact .inr (by omega)
    have hn : ∀ b, ownedB conc b → w1.heap.size ≤ b := fun b hb => by
      rcases l1.M b hb with g | g
      · exact g.elim
      · exact g
    have key : (bif fresh then ((resOf E fn.results.toList).bind fun l => freshOf outs l).runK st some
      else ((resOf E fn.results.toList).bind fun l => packArgs E outs l).runK st fun x => some x.1) = some ans → ∃ v, (results fn a.tmps).run P w = .ok v w ∧
        ∃ v', Ending.returned v = .returned v' ∧ Keeps w1 w ∧ ResRep P w (newOk ok w1) outs v' ans ∧ (fresh = true → FreshC P w1.heap.size w (newOk ok w1) outs v' ans) := by
      intro h
      cases fresh with
      | true =>
        simp only [cond_true] at h
        rw [RM.runK_eq] at h
        cases hr : ((resOf E fn.results.toList).bind fun l => freshOf outs l).run st with
        | none => rw [hr] at h; cases h
        | some x =>
          rw [hr] at h
          cases h
          obtain ⟨l, g1, g2⟩ := RM.bind_some hr
          obtain ⟨vs, e1, e2, e3⟩ := resOf_spec hE hm g1
          obtain ⟨v, f1, f2, f3⟩ := freshOf_spec (ok := fun b => conc.B b ∨ w1.heap.size ≤ b) hm hn (fun b hb => .inr hb) (fun b hb => .inl hb) outs g2 e2
          refine ⟨_, results_run e1, v, ?_, hk, resRep_sub (fun b hb hlt => ?_) f2, fun _ => f3.sub hsub⟩
          · rw [f1]; rfl
          · rcases hb with hb | hb
            · exact hsub b hb hlt
            · exact .inr hb
      | false =>
        simp only [cond_false] at h
        rw [RM.runK_eq] at h
        cases hr : ((resOf E fn.results.toList).bind fun l => packArgs E outs l).run st with
        | none => rw [hr] at h; cases h
        | some x =>
          rw [hr] at h
          cases h
          obtain ⟨l, g1, g2⟩ := RM.bind_some hr
          obtain ⟨vs, e1, e2, e3⟩ := resOf_spec hE hm g1
          have hp := (packArgs_spec hE hm outs g2 e2 (ids x.2) fun _ h => h).2
          have hp' : ArgsRep P w (newOk ok w1) outs vs x.1 := args_mono (fun b hb hlt => hsub b hb.1 hlt) outs hp
          exact ⟨_, results_run e1, _, rfl, hk, res_of_args outs hp', (fun h => (by cases h))⟩
    cases ex <;> simp only [finR] at h <;> first | exact key h | cases h

/-- What a function's body comes to. -/
def funR (E : Env) (fn : Func) (ins caps outs : List Ty) (fresh : Bool) (O : List (Ev (denL outs))) (x : denL ins) (y : denL caps) : Option (denL outs) :=
  match fn.body with
  | some c => bif Nat.ble (ins.length + caps.length) fn.ntmps then codeR E Hdl.no c O (entry fn.ntmps ins caps x y) (finR E fresh fn.results.toList outs) else none
  | none => none

theorem fun_ok (hE : EnvOK P E) (hP : P.follows .mixedOrders = true) {f : FuncId} {fn : Func} (hf : P.funcs[f]? = some fn) (hn : (fn.name == "runtime.NumGoroutine") = false)
    {ins caps outs : List Ty} {g : denL ins → denL caps → Option (denL outs)} {fresh : Bool} {O : List (Ev (denL outs))} (hO : ∀ c, fn.body = some c → OsOK P (Hdl.no (R := denL outs)) false c O)
    (heq : ∀ x y, funR E fn ins caps outs fresh O x y = g x y) (hb : fn.body.isSome = true) : ConOK P f ⟨ins, caps, outs, g, fresh⟩ := by
  obtain ⟨c, hc⟩ := Option.isSome_iff_exists.1 hb
  refine ⟨⟨fn, hf, hn, by rw [hc]; rfl⟩, ?_⟩
  intro w ok vs cs x y r hx hy hr
  dsimp only at hx hy hr
  rw [← heq] at hr
  unfold funR at hr
  rw [hc] at hr
  dsimp only at hr
  cases hle : Nat.ble (ins.length + caps.length) fn.ntmps with
  | false => rw [hle] at hr; cases hr
  | true =>
    rw [hle] at hr
    simp only [cond_true] at hr
    let s0 : Start := ⟨w, newOk ok w, fun _ => False, [], #[], 0, w.heap.size⟩
    have hI : InvOK P (Hdl.no (R := denL outs)) false (fun s b => b = r ∧ LinkR s0 s) := {
      link := fun s s' b hb hl => ⟨hb.1, hb.2.trans hl.toR⟩
      nods := fun h => absurd rfl h
      fnl := fun _ _ => ⟨s0, r, fun _ _ => Iff.rfl⟩
      yld := fun h => absurd rfl h }
    refine callsIn_wide.1 (callsIn_of_wp_marks (n := 7) hf hc trivial (wpIn_mono (codeR_sound hE hP c O (hO c hc) none rfl _ hI _ _ _ _ _ _ hr (entry_models (Nat.le_of_ble_eq_true hle) hx hy #[]) ⟨rfl, LinkR.refl _⟩) ?_))
    rintro e a' w' ⟨s', ans', st', hm, ⟨rfl, hl⟩, h'⟩
    cases e with
    | normal => exact fin_sound hE a'.defers rfl hl hm h'
    | ret => exact fin_sound (ex := .ret) hE a'.defers rfl hl hm h'
    | exit i => cases h'
    | goto i => cases h'
    | panic c => cases h'
    | outgrown => cases h'

/-! Iterators. -/
def finI {α : Type} : Exit → ASt → Option (List α)
  | .normal, _ => some []
  | .ret, _ => some []
  | _, _ => none

def hdlL (tys : List Ty) : Hdl (List (denL tys)) := ⟨tys, fun x A B => emitL x A B⟩

def iterR (E : Env) (fn : Func) (tys caps : List Ty) (O : List (Ev (List (denL tys)))) (y : denL caps) : Option (List (denL tys)) :=
  match fn.body with
  | some c => bif fn.results.toList.isEmpty && Nat.ble (1 + caps.length) fn.ntmps then codeR E (hdlL tys) c O (entryY fn.ntmps caps y) finI else none
  | none => none

def InvIt {α : Type} (l : Nat) (w1 : World) (ok : Nat → Prop) (xs : List α) (J : Nat → (Nat → Prop) → (Nat → Prop) → World → Prop) (Jx : (Nat → Prop) → (Nat → Prop) → World → Prop) (s : Start) (ans : List α) : Prop :=
  s.ds = [] ∧ s.yl = l ∧ w1.heap.size ≤ s.w.heap.size ∧ ∃ A : Nat → Prop, (∀ b, A b → w1.heap.size ≤ b ∧ b < s.w.heap.size) ∧ (∀ b, s.M b → A b) ∧ (∀ b, b < s.w.heap.size → s.B b → (ok b ∧ b < w1.heap.size) ∨ A b) ∧
    ((∃ k, k ≤ xs.length ∧ xs.drop k = ans ∧ J k A s.M s.w) ∨ (ans = [] ∧ Jx A s.M s.w))

theorem InvIt.link {α : Type} {l : Nat} {w1 : World} {ok : Nat → Prop} {xs : List α} {J : Nat → (Nat → Prop) → (Nat → Prop) → World → Prop} {Jx : (Nat → Prop) → (Nat → Prop) → World → Prop}
    (hJ : ∀ k A S W A' S' W', J k A S W → Steps A S W A' S' W' → J k A' S' W') (hJx : ∀ A S W A' S' W', Jx A S W → Steps A S W A' S' W' → Jx A' S' W')
    {s s' : Start} {ans : List α} (h : InvIt l w1 ok xs J Jx s ans) (hl : Link s s') : InvIt l w1 ok xs J Jx s' ans := by
  obtain ⟨h1, h2, h3, A, h4, h5, h6, h7⟩ := h
  have hsz := hl.size
  have hst : Steps A s.M s.w (fun b => A b ∨ (s.w.heap.size ≤ b ∧ b < s'.w.heap.size)) s'.M s'.w := {
    os := hl.os
    tape := hl.tape
    output := hl.output
    size := hsz
    block := hl.block
    A1 := fun b hb => .inl hb
    A2 := fun b hb => hb.imp id fun g => g.1
    A3 := fun b hb => by
      rcases hb with g | g
      · have := (h4 b g).2; omega
      · exact g.2
    S2 := fun b hb => (hl.M b hb).imp id fun g => g.1
    SA := fun b hb => (hl.M b hb).imp (h5 b) id }
  refine ⟨hl.ds.trans h1, hl.yl.trans h2, by omega, _, fun b hb => ?_, hst.SA, fun b hb hB => ?_, ?_⟩
  · rcases hb with g | g
    · have := h4 b g; omega
    · omega
  · by_cases hlt : b < s.w.heap.size
    · exact (h6 b hlt ((hl.B b).1 hB)).imp id .inl
    · exact .inr (.inr ⟨by omega, hb⟩)
  · rcases h7 with ⟨k, g1, g2, g3⟩ | ⟨g1, g2⟩
    · exact .inl ⟨k, g1, g2, hJ _ _ _ _ _ _ _ g3 hst⟩
    · exact .inr ⟨g1, hJx _ _ _ _ _ _ g2 hst⟩

theorem opt_cond {α : Type} {b : Bool} {x : Option α} {y : α} (h : (bif b then x else none) = some y) : b = true ∧ x = some y := by
  cases b with
  | true => exact ⟨rfl, h⟩
  | false => cases h

theorem emitL_some {α : Type} {x : α} {A B : Option (List α)} {ans : List α} (h : emitL x A B = some ans) : ∃ ys, A = some ys ∧ B = some [] ∧ ans = x :: ys := by
  unfold emitL at h
  cases A with
  | none => cases h
  | some ys =>
    cases B with
    | none => cases h
    | some zs =>
      cases zs with
      | nil => cases h; exact ⟨ys, rfl, rfl, rfl⟩
      | cons _ _ => cases h

theorem iter_seq (hE : EnvOK P E) (hP : P.follows .mixedOrders = true) {tys : List Ty} (hne : tys ≠ []) {AR : World → (Nat → Prop) → Array Value → denL tys → Prop} (hAR : ∀ W o vas x, ArgsRep P W o tys vas x → AR W o vas.toArray x)
    {f : FuncId} {fn : Func} (hf : P.funcs[f]? = some fn) {caps : List Ty} {O : List (Ev (List (denL tys)))} {c : Code} (hc : fn.body = some c) (hO : OsOK P (hdlL tys) false c O)
    {w1 : World} {ok : Nat → Prop} {cs : List Value} {y : denL caps} {xs : List (denL tys)} (hy : CapsRep P w1 ok caps cs y) (hr : iterR E fn tys caps O y = some xs) : SeqOK P AR f cs.toArray w1 ok xs := by
  intro l J Jx hJ hJx hY h0
  unfold iterR at hr
  rw [hc] at hr
  dsimp only at hr
  obtain ⟨g, hr⟩ := opt_cond hr
  simp only [Bool.and_eq_true] at g
  have hres : fn.results.toList = [] := by simpa using g.1
  have hI : InvOK P (hdlL tys) false (InvIt l w1 ok xs J Jx) := {
    link := fun s s' ans h hl => h.link hJ hJx hl
    nods := fun _ s ans h => h.1
    fnl := fun _ h => absurd h hne
    yld := fun _ s ans x A B vas hinv hS he hargs => by
      obtain ⟨ys, rfl, rfl, rfl⟩ := emitL_some he
      obtain ⟨h1, h2, h3, A, h4, h5, h6, h7⟩ := hinv
      rcases h7 with ⟨k, q1, q2, q3⟩ | ⟨q1, _⟩
      · have hlt : k < xs.length := by
          rcases Nat.lt_or_ge k xs.length with q | q
          · exact q
          · rw [List.drop_eq_nil_of_le q] at q2
            cases q2
        rw [List.drop_eq_getElem_cons hlt] at q2
        have q2 := List.cons.inj q2
        have hk : xs[k]? = some x := by rw [List.getElem?_eq_getElem hlt]; exact congrArg some q2.1
        have hAR' : AR s.w (fun b => (ok b ∧ b < w1.heap.size) ∨ (A b ∧ ¬ s.M b)) vas.toArray x := hAR _ _ _ _ (args_mono (fun b hb hlt => (h6 b hlt hb.1).imp id fun g => ⟨g, hb.2⟩) tys hargs)
        obtain ⟨fn1, tm1, as1, bd1, y1, y2⟩ := hY k x A s.M s.w vas.toArray q3 hk h5 h4 h3 hAR'
        rw [h2]
        refine ⟨fn1, tm1, as1, bd1, y1, y2.mono ?_⟩
        rintro e W' ⟨k1, k2⟩
        have hsz := k1.size
        have hA' : ∀ b, A b → w1.heap.size ≤ b ∧ b < W'.heap.size := fun b hb => ⟨(h4 b hb).1, Nat.lt_of_lt_of_le (h4 b hb).2 hsz⟩
        have hB' : ∀ b, b < W'.heap.size → (s.after W').B b → (ok b ∧ b < w1.heap.size) ∨ A b := fun b hb hB => by
          rcases hB with ⟨g1, g2⟩ | g
          · exact h6 b g1 g2
          · omega
        refine ⟨⟨k1.os, k1.tape, k1.output, k1.size, fun b hb hB => k1.block b hb (h6 b hb hB)⟩, ?_⟩
        rcases k2 with ⟨rfl, k2⟩ | ⟨rfl, k2⟩
        · exact ⟨true, rfl, ys, rfl, h1, h2, Nat.le_trans h3 hsz, A, hA', h5, hB', .inl ⟨k + 1, hlt, q2.2, k2⟩⟩
        · exact ⟨false, rfl, [], rfl, h1, h2, Nat.le_trans h3 hsz, A, hA', h5, hB', .inr ⟨rfl, k2⟩⟩
      · cases q1 }
  have hent := entryY_models (P := P) (w := w1) (ok := ok) (N := fn.ntmps) l (Nat.le_of_ble_eq_true g.2) hy #[]
  refine callsIn_wide.1 (callsIn_of_wp (n := 7) hf hc trivial (wpIn_mono (codeR_sound hE hP c O hO none rfl _ hI _ _ _ _ _ _ hr hent
    ⟨rfl, rfl, Nat.le_refl _, fun _ => False, (fun _ h => h.elim), (fun _ h => h.elim), fun b hb hB => ?_, .inl ⟨0, Nat.zero_le _, rfl, h0⟩⟩) ?_))
  · rcases hB with hB | hB
    · exact .inl ⟨hB, hb⟩
    · exact absurd hb (Nat.not_lt.2 hB)
  rintro e a' w' ⟨s', ans', st', ⟨conc, hm⟩, hinv, h'⟩
  have hd : a'.defers = [] := hm.defers.trans hinv.1
  have hfin : InvIt l w1 ok xs J Jx (s'.now conc a' w') ans' := hinv.link hJ hJx hm.link
  have key : ans' = [] → a'.defers = [] ∧ ∃ v, (results fn a'.tmps).run P w' = .ok v w' ∧ ((∃ u, Ending.returned v = .returned u) ∧ ((∃ A S, J xs.length A S w') ∨ ∃ A S, Jx A S w')) := by
    intro ha
    subst ha
    refine ⟨hd, _, results_run (a := a') (vs := []) (by rw [hres]; simp), ⟨_, rfl⟩, ?_⟩
    obtain ⟨h1, h2, h3, A, h4, h5, h6, h7⟩ := hfin
    rcases h7 with ⟨k, q1, q2, q3⟩ | ⟨_, q2⟩
    · have : k = xs.length := by
        have := List.drop_eq_nil_iff.1 q2
        omega
      subst this
      exact .inl ⟨_, _, q3⟩
    · exact .inr ⟨_, _, q2⟩
  cases e with
  | normal => exact key (by cases h'; rfl)
  | ret => exact key (by cases h'; rfl)
  | exit i => cases h'
  | goto i => cases h'
  | panic c => cases h'
  | outgrown => cases h'

theorem iter1_ok (hE : EnvOK P E) (hP : P.follows .mixedOrders = true) {f : FuncId} {fn : Func} (hf : P.funcs[f]? = some fn) (hn : (fn.name == "runtime.NumGoroutine") = false) {e : Ty} {caps : List Ty} {g : denL caps → Option (List e.den)}
    {O : List (Ev (List (denL [e])))} (hO : ∀ c, fn.body = some c → OsOK P (hdlL [e]) false c O) (heq : ∀ y, iterR E fn [e] caps O y = g y) (hb : fn.body.isSome = true) : IConOK P f ⟨caps, .seq e, g⟩ := by
  obtain ⟨c, hc⟩ := Option.isSome_iff_exists.1 hb
  refine ⟨rfl, fun w ok cs y xs hy hx => ?_⟩
  dsimp only at hy hx
  refine ⟨f, cs.toArray, rfl, ⟨fn, hf, hn, by rw [hc]; rfl⟩, fun w' ok' hext hsub => ?_⟩
  exact iter_seq hE hP (tys := [e]) (by simp) (fun W o vas x ⟨us, h1, h2⟩ => ⟨us, by rw [h1], h2⟩) hf hc (hO c hc) (hy.mono hext hsub caps) ((heq y).trans hx)

theorem iter2_ok (hE : EnvOK P E) (hP : P.follows .mixedOrders = true) {f : FuncId} {fn : Func} (hf : P.funcs[f]? = some fn) (hn : (fn.name == "runtime.NumGoroutine") = false) {a b : Ty} {caps : List Ty} {g : denL caps → Option (List (a.den × b.den))}
    {O : List (Ev (List (denL [a, b])))} (hO : ∀ c, fn.body = some c → OsOK P (hdlL [a, b]) false c O) (heq : ∀ y, iterR E fn [a, b] caps O y = g y) (hb : fn.body.isSome = true) : IConOK P f ⟨caps, .seq2 a b, g⟩ := by
  obtain ⟨c, hc⟩ := Option.isSome_iff_exists.1 hb
  refine ⟨rfl, fun w ok cs y xs hy hx => ?_⟩
  dsimp only at hy hx
  refine ⟨f, cs.toArray, rfl, ⟨fn, hf, hn, by rw [hc]; rfl⟩, fun w' ok' hext hsub => ?_⟩
  refine iter_seq hE hP (tys := [a, b]) (by simp) (fun W o vas x hx => ?_) hf hc (hO c hc) (hy.mono hext hsub caps) ((heq y).trans hx)
  obtain ⟨us, r, h1, h2, us', h3, h4⟩ := hx
  exact ⟨us, us', by rw [h1, h3], h2, h4⟩

end Go.Abs

set_option linter.unusedSimpArgs false
set_option linter.unusedVariables false
namespace Go.Abs
open Go
variable {P : Program} {w : World}

def partOK (P : Program) (T : Nat) (t : Ty) : Bool :=
  bif t.isPair then (match P.underlying T with
    | some (.struct _) => true
    | some (.array _ _) => true
    | _ => false) && (match P.info? T with
    | some i => Nat.beq i.size t.sz
    | none => false)
  else P.plainKey T && !t.isUnit

theorem chunk_take {l : List Value} {off a b : Nat} : (chunk l off (a + b)).take a = chunk l off a := by
  unfold chunk
  rw [List.take_take, Nat.min_eq_left (by omega)]
theorem chunk_drop {l : List Value} {off a b : Nat} : (chunk l off (a + b)).drop a = chunk l (off + a) b := by
  unfold chunk
  rw [List.drop_take, List.drop_drop, show a + b - a = b by omega]

theorem part_run {T : Nat} {t : Ty} (h : partOK P T t = true) {ok : Nat → Prop} {xs : Array Value} {off : Nat} {d : t.den} (hr : Rep P t w ok (chunk xs.toList off t.sz) d) :
    (Go.part T xs off).run P w = .ok (t.val (chunk xs.toList off t.sz)) w := by
  unfold partOK at h
  cases hp : t.isPair
  · rw [hp] at h
    simp only [cond_false, Bool.and_eq_true, Bool.not_eq_true'] at h
    have hu : t ≠ .unit := fun e => by rw [e] at h; cases h.2
    have hl := hr.len
    have h1 := sz_one hp hu
    rw [h1] at hl ⊢
    match hc : chunk xs.toList off 1, hl with
    | [v], _ =>
      have hg : (chunk xs.toList off 1)[0]? = some v := by rw [hc]; rfl
      obtain ⟨_, hx⟩ := chunk_get hg
      rw [Nat.add_zero, Array.getElem?_toList] at hx
      have : t.val [v] = v := by unfold Ty.val; rw [hp]; rfl
      rw [this]
      exact run_part_plain w h.1 hx
  · rw [hp] at h
    simp only [cond_true, Bool.and_eq_true] at h
    obtain ⟨h1, h2⟩ := h
    cases hi : P.info? T with
    | none => rw [hi] at h2; cases h2
    | some i =>
      rw [hi] at h2
      have hs := nbeq_true h2
      have hsz : (sizeOf T).run P w = .ok t.sz w := by simp [sizeOf, typeInfo, hi, hs]
      have hagg : (isAgg T).run P w = .ok true w := by
        unfold isAgg
        split at h1
        · rename_i fs hu
          rw [Sem.run_bind, run_underlying hu]; rfl
        · rename_i n e hu
          rw [Sem.run_bind, run_underlying hu]; rfl
        · cases h1
      have : t.val (chunk xs.toList off t.sz) = .agg (xs.extract off (off + t.sz)) := by
        unfold Ty.val
        rw [hp]
        simp only [if_true]
        congr 1
        apply Array.ext'
        rw [Array.toList_extract]
        simp [List.extract, chunk]
      rw [this]
      simp [Go.part, hagg, hsz]

/-- Two pieces of data of a type, compared. -/
def EqT (P : Program) (dd T : Nat) (t : Ty) : Prop :=
  ∀ (w : World) ok vs us x y, Rep P t w ok vs x → Rep P t w ok us y → (Op.equalIn dd T (t.val vs) (t.val us)).run P w = .ok (t.beq x y) w

/-- A key of a map is looked at. -/
def ChkT (P : Program) (dd T : Nat) (t : Ty) : Prop :=
  ∀ (w : World) ok vs x b, Rep P t w ok vs x → (Instr.checkKey b dd T (t.val vs)).run P w = .ok () w

def chkF (rec : Nat → Ty → Bool) (P : Program) : List Field → Nat → Ty → Bool
  | [f], off, t => f.name != "_" && Nat.beq f.offset off && partOK P f.type t && rec f.type t
  | f :: g :: r, off, .pair a b => f.name != "_" && Nat.beq f.offset off && partOK P f.type a && rec f.type a && chkF rec P (g :: r) (off + a.sz) b
  | _, _, _ => false

def chkEq (P : Program) : Nat → Nat → Ty → Bool
  | 0, _, _ => false
  | d + 1, T, t => match P.underlying T with
    | some (.int k) => decide (t = .int k)
    | some .bool => decide (t = .bool)
    | some .string => decide (t = .str)
    | some (.struct fs) => t.isPair && !P.stoodInHeld T && chkF (chkEq P d) P fs.toList 0 t
    | some (.array n T') => match t with
      | .pair e _ => decide (t = Ty.arr e n) && partOK P T' e && chkEq P d T' e && (match P.info? T' with
        | some i => Nat.beq i.size e.sz
        | none => false)
      | _ => false
    | _ => false

theorem beq_bytes (x y : List UInt8) : ((⟨⟨x⟩⟩ : ByteArray) == ⟨⟨y⟩⟩) = (x == y) := by
  rw [beq_toListBytes, ByteArray.toList_eq, ByteArray.toList_eq]

section
variable {dd : Nat}

theorem eqFields_run {rec : Nat → Ty → Bool} (hrec : ∀ T t, rec T t = true → EqT P dd T t) (w : World) {ok : Nat → Prop} {xs ys : Array Value} : ∀ (fs : List Field) (off : Nat) (t : Ty) {x y : t.den}, chkF rec P fs off t = true →
    Rep P t w ok (chunk xs.toList off t.sz) x → Rep P t w ok (chunk ys.toList off t.sz) y → (Op.eqFields dd xs ys fs).run P w = .ok (t.beq x y) w
  | [], _, _, _, _, h, _, _ => by simp [chkF] at h
  | [f], off, t, x, y, h, hx, hy => by
    simp only [chkF, Bool.and_eq_true, bne_iff_ne, ne_eq] at h
    obtain ⟨⟨⟨hn, ho⟩, hp⟩, hr⟩ := h
    have ho := nbeq_true ho
    rw [← ho] at hx hy
    simp only [Op.eqFields, hn, ne_eq, not_false_eq_true, if_true, Sem.run_bind, part_run hp hx, part_run hp hy, Result.andThen_ok, hrec _ _ hr w ok _ _ x y hx hy]
    cases t.beq x y <;> simp
  | f :: g :: r, off, .pair a b, (x, x'), (y, y'), h, hx, hy => by
    simp only [chkF, Bool.and_eq_true, bne_iff_ne, ne_eq] at h
    obtain ⟨⟨⟨⟨hn, ho⟩, hp⟩, hr⟩, hrest⟩ := h
    have ho := nbeq_true ho
    obtain ⟨hx1, hx2⟩ := hx
    obtain ⟨hy1, hy2⟩ := hy
    simp only [Ty.sz] at hx1 hx2 hy1 hy2
    rw [chunk_take] at hx1 hy1
    rw [chunk_drop] at hx2 hy2
    rw [← ho] at hx1 hy1
    have ih := eqFields_run hrec w (g :: r) (off + a.sz) b hrest hx2 hy2
    rw [Op.eqFields]
    simp only [hn, ne_eq, not_false_eq_true, if_true, Sem.run_bind, part_run hp hx1, part_run hp hy1, Result.andThen_ok, hrec _ _ hr w ok _ _ x y hx1 hy1, Ty.beq]
    cases a.beq x y
    · simp
    · simpa using ih
  | _ :: _ :: _, _, .int _, _, _, h, _, _ => by simp [chkF] at h
  | _ :: _ :: _, _, .bool, _, _, h, _, _ => by simp [chkF] at h
  | _ :: _ :: _, _, .str, _, _, h, _, _ => by simp [chkF] at h
  | _ :: _ :: _, _, .unit, _, _, h, _, _ => by simp [chkF] at h
  | _ :: _ :: _, _, .slice _, _, _, h, _, _ => by simp [chkF] at h
  | _ :: _ :: _, _, .fn1 _ _, _, _, h, _, _ => by simp [chkF] at h
  | _ :: _ :: _, _, .fn2 _ _ _, _, _, h, _, _ => by simp [chkF] at h
  | _ :: _ :: _, _, .seq _, _, _, h, _, _ => by simp [chkF] at h
  | _ :: _ :: _, _, .seq2 _ _, _, _, h, _, _ => by simp [chkF] at h
  | _ :: _ :: _, _, .map _ _, _, _, h, _, _ => by simp [chkF] at h

theorem chkFields_run {rec : Nat → Ty → Bool} (hrec : ∀ T t, rec T t = true → ChkT P dd T t) (em : Bool) (w : World) {ok : Nat → Prop} {xs : Array Value} : ∀ (fs : List Field) (off : Nat) (t : Ty) {x : t.den}, chkF rec P fs off t = true →
    Rep P t w ok (chunk xs.toList off t.sz) x → (forIn (m := Sem) fs PUnit.unit fun f _ => if f.name ≠ "_" then (do Instr.checkKey em dd f.type (← Go.part f.type xs f.offset); pure (ForInStep.yield PUnit.unit)) else pure (ForInStep.yield PUnit.unit)).run P w = .ok PUnit.unit w
  | [], _, _, _, h, _ => by simp [chkF] at h
  | [f], off, t, x, h, hx => by
    simp only [chkF, Bool.and_eq_true, bne_iff_ne, ne_eq] at h
    obtain ⟨⟨⟨hn, ho⟩, hp⟩, hr⟩ := h
    have ho := nbeq_true ho
    rw [← ho] at hx
    simp only [List.forIn_cons, hn, ne_eq, not_false_eq_true, if_true, Sem.run_bind, part_run hp hx, Result.andThen_ok, hrec _ _ hr w ok _ x em hx, Sem.run_pure, List.forIn_nil]
  | f :: g :: r, off, .pair a b, (x, x'), h, hx => by
    simp only [chkF, Bool.and_eq_true, bne_iff_ne, ne_eq] at h
    obtain ⟨⟨⟨⟨hn, ho⟩, hp⟩, hr⟩, hrest⟩ := h
    have ho := nbeq_true ho
    obtain ⟨hx1, hx2⟩ := hx
    simp only [Ty.sz] at hx1 hx2
    rw [chunk_take] at hx1
    rw [chunk_drop] at hx2
    rw [← ho] at hx1
    have ih := chkFields_run hrec em w (g :: r) (off + a.sz) b hrest hx2
    rw [List.forIn_cons]
    simp only [hn, ne_eq, not_false_eq_true, if_true, Sem.run_bind, part_run hp hx1, Result.andThen_ok, hrec _ _ hr w ok _ x em hx1, Sem.run_pure]
    exact ih
  | _ :: _ :: _, _, .int _, _, h, _ => by simp [chkF] at h
  | _ :: _ :: _, _, .bool, _, h, _ => by simp [chkF] at h
  | _ :: _ :: _, _, .str, _, h, _ => by simp [chkF] at h
  | _ :: _ :: _, _, .unit, _, h, _ => by simp [chkF] at h
  | _ :: _ :: _, _, .slice _, _, h, _ => by simp [chkF] at h
  | _ :: _ :: _, _, .fn1 _ _, _, h, _ => by simp [chkF] at h
  | _ :: _ :: _, _, .fn2 _ _ _, _, h, _ => by simp [chkF] at h
  | _ :: _ :: _, _, .seq _, _, h, _ => by simp [chkF] at h
  | _ :: _ :: _, _, .seq2 _ _, _, h, _ => by simp [chkF] at h
  | _ :: _ :: _, _, .map _ _, _, h, _ => by simp [chkF] at h

theorem arr_sz (e : Ty) : ∀ n, (Ty.arr e n).sz = n * e.sz
  | 0 => by simp [Ty.arr, Ty.sz]
  | 1 => by simp [Ty.arr]
  | n + 2 => by
    simp only [Ty.arr, Ty.sz, arr_sz e (n + 1)]
    rw [Nat.succ_mul (n + 1)]; omega

theorem eqItems_run {T' : Nat} {e : Ty} (hp : partOK P T' e = true) (hr : EqT P dd T' e) (w : World) {ok : Nat → Prop} {xs ys : Array Value} : ∀ (k i : Nat) {x y : (Ty.arr e (k + 1)).den},
    Rep P (Ty.arr e (k + 1)) w ok (chunk xs.toList (i * e.sz) (Ty.arr e (k + 1)).sz) x → Rep P (Ty.arr e (k + 1)) w ok (chunk ys.toList (i * e.sz) (Ty.arr e (k + 1)).sz) y →
    (Op.eqItems dd T' e.sz xs ys (List.range' i (k + 1))).run P w = .ok ((Ty.arr e (k + 1)).beq x y) w
  | 0, i, x, y, hx, hy => by
    have hx : Rep P e w ok (chunk xs.toList (i * e.sz) e.sz) x := hx
    have hy : Rep P e w ok (chunk ys.toList (i * e.sz) e.sz) y := hy
    simp only [List.range'_succ, List.range'_zero, Op.eqItems, Sem.run_bind, part_run hp hx, part_run hp hy, Result.andThen_ok, hr w ok _ _ x y hx hy]
    show _ = Result.ok (e.beq x y) w
    cases e.beq x y <;> simp
  | k + 1, i, (x, x'), (y, y'), hx, hy => by
    obtain ⟨hx1, hx2⟩ := hx
    obtain ⟨hy1, hy2⟩ := hy
    simp only [Ty.arr, Ty.sz] at hx1 hx2 hy1 hy2
    rw [chunk_take] at hx1 hy1
    rw [chunk_drop] at hx2 hy2
    rw [← Nat.succ_mul] at hx2 hy2
    have ih := eqItems_run hp hr w k (i + 1) hx2 hy2
    rw [List.range'_succ, Op.eqItems]
    simp only [Sem.run_bind, part_run hp hx1, part_run hp hy1, Result.andThen_ok, hr w ok _ _ x y hx1 hy1]
    show _ = Result.ok (e.beq x y && (Ty.arr e (k + 1)).beq x' y') w
    cases e.beq x y
    · simp
    · simpa using ih

theorem chkItems_run {T' : Nat} {e : Ty} (hp : partOK P T' e = true) (hr : ChkT P dd T' e) (hs : ∀ w : World, (sizeOf T').run P w = .ok e.sz w) (em : Bool) (w : World) {ok : Nat → Prop} {xs : Array Value} : ∀ (k i : Nat) {x : (Ty.arr e (k + 1)).den},
    Rep P (Ty.arr e (k + 1)) w ok (chunk xs.toList (i * e.sz) (Ty.arr e (k + 1)).sz) x →
    (forIn (m := Sem) (List.range' i (k + 1)) PUnit.unit fun i _ => do Instr.checkKey em dd T' (← Go.part T' xs (i * (← sizeOf T'))); pure (ForInStep.yield PUnit.unit)).run P w = .ok PUnit.unit w
  | 0, i, x, hx => by
    have hx : Rep P e w ok (chunk xs.toList (i * e.sz) e.sz) x := hx
    simp only [List.range'_succ, List.range'_zero, List.forIn_cons, Sem.run_bind, hs, part_run hp hx, Result.andThen_ok, hr w ok _ x em hx, Sem.run_pure, List.forIn_nil]
  | k + 1, i, (x, x'), hx => by
    obtain ⟨hx1, hx2⟩ := hx
    simp only [Ty.arr, Ty.sz] at hx1 hx2
    rw [chunk_take] at hx1
    rw [chunk_drop] at hx2
    rw [← Nat.succ_mul] at hx2
    have ih := chkItems_run hp hr hs em w k (i + 1) hx2
    rw [List.range'_succ, List.forIn_cons]
    simp only [Sem.run_bind, hs, part_run hp hx1, Result.andThen_ok, hr w ok _ x em hx1, Sem.run_pure]
    exact ih
end

theorem chunk_all (vs : Array Value) (t : Ty) {ok : Nat → Prop} {x : t.den} (h : Rep P t w ok vs.toList x) : chunk vs.toList 0 t.sz = vs.toList := by
  unfold chunk
  rw [List.drop_zero, List.take_of_length_le]
  have := h.len
  omega

theorem pair_val {t : Ty} (hp : t.isPair = true) (vs : List Value) : t.val vs = .agg vs.toArray := by
  unfold Ty.val; rw [hp]; rfl

theorem arr_ne {a b e : Ty} {n : Nat} (h : Ty.pair a b = Ty.arr e n) (hn : e.sz ≠ 0 ∨ True) : 1 ≤ n := by
  cases n with
  | zero => cases h
  | succ n => omega

theorem chkEq_ok : ∀ (d : Nat) (T : Nat) (t : Ty), chkEq P d T t = true → ∀ m, EqT P (m + d) T t ∧ ChkT P (m + d) T t
  | 0, _, _, h, _ => by simp [chkEq] at h
  | d + 1, T, t, h, m => by
    unfold chkEq at h
    split at h
    · rename_i k hu
      have ht := of_decide_eq_true h
      subst ht
      refine ⟨fun w ok vs us x y hx hy => ?_, fun w ok vs x b hx => ?_⟩
      · simp only [Rep] at hx hy
        subst hx
        subst hy
        show (Op.equalIn (m + d + 1) T (.int k x) (.int k y)).run P w = .ok (x == y) w
        simp [Op.equalIn, run_underlying hu]
      · simp only [Rep] at hx
        subst hx
        show (Instr.checkKey b (m + d + 1) T (.int k x)).run P w = _
        simp only [Instr.checkKey, Sem.run_bind, run_underlying hu, Result.andThen_ok]
        rfl
    · rename_i hu
      have ht := of_decide_eq_true h
      subst ht
      refine ⟨fun w ok vs us x y hx hy => ?_, fun w ok vs x b hx => ?_⟩
      · simp only [Rep] at hx hy
        subst hx
        subst hy
        show (Op.equalIn (m + d + 1) T (.bool x) (.bool y)).run P w = .ok (x == y) w
        simp [Op.equalIn, run_underlying hu]
      · simp only [Rep] at hx
        subst hx
        show (Instr.checkKey b (m + d + 1) T (.bool x)).run P w = _
        simp only [Instr.checkKey, Sem.run_bind, run_underlying hu, Result.andThen_ok]
        rfl
    · rename_i hu
      have ht := of_decide_eq_true h
      subst ht
      refine ⟨fun w ok vs us x y hx hy => ?_, fun w ok vs x b hx => ?_⟩
      · simp only [Rep] at hx hy
        subst hx
        subst hy
        show (Op.equalIn (m + d + 1) T (.string ⟨⟨x⟩⟩) (.string ⟨⟨y⟩⟩)).run P w = .ok (x == y) w
        simp only [Op.equalIn, Sem.run_bind, run_underlying hu, Result.andThen_ok, beq_bytes, Sem.run_pure]
      · simp only [Rep] at hx
        subst hx
        show (Instr.checkKey b (m + d + 1) T (.string ⟨⟨x⟩⟩)).run P w = _
        simp only [Instr.checkKey, Sem.run_bind, run_underlying hu, Result.andThen_ok]
        rfl
    · rename_i fs hu
      simp only [Bool.and_eq_true, Bool.not_eq_true'] at h
      obtain ⟨⟨hp, hst⟩, hF⟩ := h
      have hfs : P.fieldsOf T = fs := by simp [Program.fieldsOf, hu]
      refine ⟨fun w ok vs us x y hx hy => ?_, fun w ok vs x b hx => ?_⟩
      · rw [pair_val hp, pair_val hp, show m + (d + 1) = (m + d) + 1 from rfl, run_equalIn_struct w (m + d) T _ _ (by rw [hfs]; exact hu) hst, hfs]
        refine eqFields_run (ok := ok) (fun T t ht => (chkEq_ok d T t ht m).1) w fs.toList 0 t hF ?_ ?_
        · rw [chunk_all (ok := ok) (x := x) vs.toArray t hx]; exact hx
        · rw [chunk_all (ok := ok) (x := y) us.toArray t hy]; exact hy
      · rw [pair_val hp, show m + (d + 1) = (m + d) + 1 from rfl, Instr.checkKey]
        simp only [Sem.run_bind, run_underlying hu, Result.andThen_ok]
        rw [← Array.forIn_toList]
        have := chkFields_run (ok := ok) (dd := m + d) (xs := vs.toArray) (fun T t ht => (chkEq_ok d T t ht m).2) b w fs.toList 0 t hF (by rw [chunk_all (ok := ok) (x := x) vs.toArray t hx]; exact hx)
        rw [this]
        rfl
    · rename_i n T' hu
      split at h
      · rename_i e r
        simp only [Bool.and_eq_true] at h
        obtain ⟨⟨⟨ht, hpt⟩, hrec⟩, hsz⟩ := h
        have ht := of_decide_eq_true ht
        have hn : 1 ≤ n := arr_ne ht (.inr trivial)
        obtain ⟨k, rfl⟩ : ∃ k, n = k + 1 := ⟨n - 1, by omega⟩
        cases hi : P.info? T' with
        | none => rw [hi] at hsz; cases hsz
        | some i =>
          rw [hi] at hsz
          have hsi := nbeq_true hsz
          have hc : P.cellsOf T' = e.sz := by simp [Program.cellsOf, hi, hsi]
          obtain ⟨ih1, ih2⟩ := chkEq_ok d T' e hrec m
          refine ⟨fun w ok vs us x y hx hy => ?_, fun w ok vs x b hx => ?_⟩
          · rw [pair_val rfl, pair_val rfl, show m + (d + 1) = (m + d) + 1 from rfl, run_equalIn_array w (m + d) _ _ hu hi, hc, List.range_eq_range']
            revert x y
            rw [ht]
            intro x y hx hy
            refine eqItems_run (ok := ok) hpt ih1 w k 0 ?_ ?_
            · rw [Nat.zero_mul, chunk_all (ok := ok) (x := x) vs.toArray _ hx]; exact hx
            · rw [Nat.zero_mul, chunk_all (ok := ok) (x := y) us.toArray _ hy]; exact hy
          · rw [pair_val rfl, show m + (d + 1) = (m + d) + 1 from rfl, Instr.checkKey]
            simp only [Sem.run_bind, run_underlying hu, Result.andThen_ok]
            simp only [Std.Legacy.Range.forIn_eq_forIn_range', Std.Legacy.Range.size, Nat.sub_zero, Nat.add_one_sub_one, Nat.div_one]
            revert x
            rw [ht]
            intro x hx
            have := chkItems_run (ok := ok) (dd := m + d) (xs := vs.toArray) hpt ih2 (fun w => by simp [sizeOf, typeInfo, hi, hsi]) b w k 0 (by rw [Nat.zero_mul, chunk_all (ok := ok) (x := x) vs.toArray _ hx]; exact hx)
            rw [this]
            rfl
      · cases h
    · cases h

theorem chkEq_eqs : ∀ (d : Nat) (T : Nat) (t : Ty), chkEq P d T t = true → t.eqs = true
  | 0, _, _, h => by simp [chkEq] at h
  | d + 1, T, t, h => by
    have arr : ∀ (e : Ty) (n : Nat), e.eqs = true → (Ty.arr e (n + 1)).eqs = true := by
      intro e n he
      induction n with
      | zero => exact he
      | succ n ih => simp only [Ty.arr, Ty.eqs, he, ih, Bool.and_self]
    have fld : ∀ (fs : List Field) (off : Nat) (t : Ty), chkF (chkEq P d) P fs off t = true → t.eqs = true := by
      intro fs
      induction fs with
      | nil => intro off t h; simp [chkF] at h
      | cons f fs ih =>
        intro off t h
        cases fs with
        | nil =>
          simp only [chkF, Bool.and_eq_true] at h
          exact chkEq_eqs d f.type t h.2
        | cons g r =>
          cases t <;> simp only [chkF, Bool.and_eq_true, Bool.false_eq_true] at h <;> try (exact h.elim)
          rename_i a b
          simp only [Ty.eqs, Bool.and_eq_true]
          exact ⟨chkEq_eqs d f.type a h.1.2, ih _ b h.2⟩
    unfold chkEq at h
    split at h
    · rw [of_decide_eq_true h]; rfl
    · rw [of_decide_eq_true h]; rfl
    · rw [of_decide_eq_true h]; rfl
    · simp only [Bool.and_eq_true] at h
      exact fld _ _ _ h.2
    · rename_i n T' hu
      split at h
      · rename_i e r
        simp only [Bool.and_eq_true] at h
        have ht := of_decide_eq_true h.1.1.1
        have hn := arr_ne ht (.inr trivial)
        obtain ⟨k, rfl⟩ : ∃ k, n = k + 1 := ⟨n - 1, by omega⟩
        rw [ht]
        exact arr e k (chkEq_eqs d T' e h.1.2)
      · cases h
    · cases h

theorem beq_symm : (t : Ty) → t.eqs = true → (x y : t.den) → t.beq x y = t.beq y x
  | .int _, _, x, y => (BEq.comm : ((x : Int) == y) = (y == x))
  | .bool, _, x, y => (BEq.comm : ((x : Bool) == y) = (y == x))
  | .str, _, x, y => (BEq.comm : ((x : List UInt8) == y) = (y == x))
  | .pair a b, h, (x, x'), (y, y') => by
    simp only [Ty.eqs, Bool.and_eq_true] at h
    simp only [Ty.beq, beq_symm a h.1 x y, beq_symm b h.2 x' y']
  | .unit, h, _, _ => by cases h
  | .slice _, h, _, _ => by cases h
  | .fn1 _ _, h, _, _ => by cases h
  | .fn2 _ _ _, h, _, _ => by cases h
  | .seq _, h, _, _ => by cases h
  | .seq2 _ _, h, _, _ => by cases h
  | .map _ _, h, _, _ => by cases h

theorem findAsking_run {K : Nat} {k : Ty} (he : EqT P 10000 K k) (hq : k.eqs = true) (w : World) {ok : Nat → Prop} {ks : List Value} {x : k.den} (hx : Rep P k w ok ks x) : ∀ (ys : List k.den) (es : List MapEntry) (j : Nat), es.length = ys.length →
    (∀ (i : Nat) y e, ys[i]? = some y → es[i]? = some e → ∃ us, e.key = k.val us ∧ Rep P k w ok us y) → (Instr.findAsking K (k.val ks) es j).run P w = .ok (findR k x ys es j) w
  | [], [], j, _, _ => by simp [Instr.findAsking, findR]
  | [], _ :: _, _, h, _ => by simp at h
  | _ :: _, [], _, h, _ => by simp at h
  | y :: ys, e :: es, j, h, hr => by
    obtain ⟨us, h1, h2⟩ := hr 0 y e rfl rfl
    have ih := findAsking_run he hq w hx ys es (j + 1) (by simpa using h) (fun i z f hz hf => hr (i + 1) z f (by simpa using hz) (by simpa using hf))
    have hb : (Op.equal K (k.val ks) e.key).run P w = .ok (k.beq y x) w := by
      rw [h1, beq_symm k hq]
      exact he w ok ks us x y hx h2
    simp only [Instr.findAsking, Sem.run_bind, hb, Result.andThen_ok, findR]
    cases k.beq y x
    · simpa using ih
    · simp

theorem keyOK_gen {K : Nat} {k : Ty} {d : Nat} (hd : d ≤ 10000) (h : chkEq P d K k = true) : KeyOK P K k := by
  obtain ⟨h1, h2⟩ := chkEq_ok d K k h (10000 - d)
  rw [show 10000 - d + d = 10000 by omega] at h1 h2
  have hq := chkEq_eqs d K k h
  refine ⟨hq, h2' h2, fun w ok ks x ys es hx hl hr => ?_⟩
  have hask := findAsking_run h1 hq w hx ys es 0 hl hr
  have now : ∀ (D : TypeDesc) (ys : List k.den) (es : List MapEntry) (j : Nat) r, es.length = ys.length → (∀ (i : Nat) y e, ys[i]? = some y → es[i]? = some e → ∃ us, e.key = k.val us ∧ Rep P k w ok us y) →
      Instr.findNow D (k.val ks) es j = some r → r = findR k x ys es j := by
    intro D ys
    induction ys with
    | nil =>
      intro es j r hl _ hf
      match es, hl with
      | [], _ => simp [Instr.findNow] at hf; simp [findR, hf]
    | cons y ys ih =>
      intro es j r hl hr hf
      match es, hl with
      | e :: es, hl =>
        obtain ⟨us, g1, g2⟩ := hr 0 y e rfl rfl
        have hs : ∀ b, Instr.sameNow D (k.val ks) e.key = some b → b = k.beq y x := by
          intro b hb
          rw [g1] at hb
          cases k <;> try (cases hq; done)
          · simp only [Rep] at hx g2
            subst hx
            subst g2
            simp only [Ty.val, Ty.isPair, Bool.false_eq_true, if_false, List.headD_cons] at hb
            unfold Instr.sameNow at hb
            split at hb
            · rename_i q k1 a k2 b' e1 e2
              cases e1
              cases e2
              simp at hb
              rw [← hb]
              exact BEq.comm
            · rename_i e1 _; cases e1
            · rename_i e1 _; cases e1
            · cases hb
          · simp only [Rep] at hx g2
            subst hx
            subst g2
            simp only [Ty.val, Ty.isPair, Bool.false_eq_true, if_false, List.headD_cons] at hb
            unfold Instr.sameNow at hb
            split at hb
            · rename_i e1 _; cases e1
            · rename_i e1 _; cases e1
            · rename_i e1 e2
              cases e1
              cases e2
              simp at hb
              rw [← hb]
              exact BEq.comm
            · cases hb
          · simp only [Rep] at hx g2
            subst hx
            subst g2
            simp only [Ty.val, Ty.isPair, Bool.false_eq_true, if_false, List.headD_cons] at hb
            unfold Instr.sameNow at hb
            split at hb
            · rename_i e1 _; cases e1
            · rename_i e1 e2
              cases e1
              cases e2
              simp only [Option.some.injEq] at hb
              rw [← hb, beq_bytes]
              exact BEq.comm
            · rename_i e1 _; cases e1
            · cases hb
          · rw [pair_val rfl, pair_val rfl] at hb
            unfold Instr.sameNow at hb
            split at hb
            · rename_i e1 _; cases e1
            · rename_i e1 _; cases e1
            · rename_i e1 _; cases e1
            · cases hb
        unfold Instr.findNow at hf
        cases hb : Instr.sameNow D (k.val ks) e.key with
        | none => rw [hb] at hf; cases hf
        | some b =>
          rw [hb] at hf
          have hbb := hs b hb
          unfold findR
          rw [← hbb]
          cases b
          · exact ih es (j + 1) r (by simpa using hl) (fun i z f hz hf => hr (i + 1) z f (by simpa using hz) (by simpa using hf)) hf
          · cases hf; rfl
  cases hu : P.underlying K with
  | none =>
    have : chkEq P d K k = false := by
      cases d with
      | zero => rfl
      | succ d => simp [chkEq, hu]
    rw [this] at h
    cases h
  | some D =>
    simp only [Instr.findKey, Sem.run_bind, run_underlying hu, Result.andThen_ok]
    cases hf : Instr.findNow D (k.val ks) es 0 with
    | none => exact hask
    | some r =>
      rw [now D ys es 0 r hl hr hf]
      rfl
where
  h2' {K : Nat} {k : Ty} (h : ChkT P 10000 K k) (w : World) (ok : Nat → Prop) (ks : List Value) (x : k.den) (b : Bool) (hr : Rep P k w ok ks x) : (Instr.checkKey b 10000 K (k.val ks)).run P w = .ok () w := h w ok ks x b hr

theorem beqTy_eqs : (t : Ty) → {x y : t.den} → {r : Bool} → beqTy t x y = some r → r = t.beq x y
  | .int _, _, _, _, h => by cases h; rfl
  | .bool, _, _, _, h => by cases h; rfl
  | .str, _, _, _, h => by cases h; rfl
  | .pair a b, (x, x'), (y, y'), r, h => by
    simp only [beqTy] at h
    cases h1 : beqTy a x y with
    | none => rw [h1] at h; cases h
    | some p =>
      cases h2 : beqTy b x' y' with
      | none => rw [h1, h2] at h; cases h
      | some q =>
        rw [h1, h2] at h
        cases h
        rw [beqTy_eqs a h1, beqTy_eqs b h2]
        rfl
  | .unit, _, _, _, h => by cases h
  | .slice _, _, _, _, h => by cases h
  | .fn1 _ _, _, _, _, h => by cases h
  | .fn2 _ _ _, _, _, _, h => by cases h
  | .seq _, _, _, _, h => by cases h
  | .seq2 _ _, _, _, _, h => by cases h
  | .map _ _, _, _, _, h => by cases h

/-- What is asked of a type that is compared. -/
def EqOK (P : Program) (T : Nat) (t : Ty) : Prop :=
  ∀ w ok vs vs' d d' r, Rep P t w ok vs d → Rep P t w ok vs' d' → beqTy t d d' = some r → ∀ (x y : Operand),
    (do eqGuard .eql T x y (t.val vs) (t.val vs'); Go.binOp .eql T (t.val vs) (t.val vs')).run P w = .ok (.bool r) w ∧
    (do eqGuard .neq T x y (t.val vs) (t.val vs'); Go.binOp .neq T (t.val vs) (t.val vs')).run P w = .ok (.bool (!r)) w

theorem eqOK_gen {T : Nat} {t : Ty} {d : Nat} (hd : d ≤ 10000) (h : chkEq P d T t = true) (hp : t.isPair = true) (hg : P.eqGuardType P.depth T = false) : EqOK P T t := by
  obtain ⟨h1, _⟩ := chkEq_ok d T t h (10000 - d)
  rw [show 10000 - d + d = 10000 by omega] at h1
  intro w ok vs vs' x y r hv hv' hr a b
  have hr := beqTy_eqs t hr
  have run := h1 w ok vs vs' x y hv hv'
  rw [pair_val hp, pair_val hp] at run ⊢
  constructor
  · rw [Sem.run_bind, run_eqGuard_agg w .eql T a b _ _ hg, Result.andThen_ok, run_eql_struct, run, hr]; rfl
  · rw [Sem.run_bind, run_eqGuard_agg w .neq T a b _ _ hg, Result.andThen_ok, run_neq_struct, run, hr]; rfl

end Go.Abs

set_option linter.unusedSimpArgs false
set_option linter.unusedVariables false
namespace Go.Abs
open Go
variable {P : Program}

def veq1 : Value → Value → Bool
  | .bool a, .bool b => a == b
  | .int k n, .int j m => decide (k = j) && decide (n = m)
  | .string a, .string b => decide (a.data.toList = b.data.toList)
  | .slice none a b, .slice none c d => Nat.beq a c && Nat.beq b d
  | .nilFunc, .nilFunc => true
  | .map none, .map none => true
  | _, _ => false

theorem veq1_eq {a b : Value} (h : veq1 a b = true) : a = b := by
  unfold veq1 at h
  split at h
  · have := eq_of_beq h; rw [this]
  · simp only [Bool.and_eq_true, decide_eq_true_eq] at h; rw [h.1, h.2]
  · rename_i a b
    have : a.data.toList = b.data.toList := of_decide_eq_true h
    obtain ⟨⟨a⟩⟩ := a
    obtain ⟨⟨b⟩⟩ := b
    simp at this
    rw [this]
  · simp only [Bool.and_eq_true] at h
    rw [nbeq_true h.1, nbeq_true h.2]
  · rfl
  · rfl
  · cases h

def veqL : List Value → List Value → Bool
  | [], [] => true
  | a :: l, b :: m => veq1 a b && veqL l m
  | _, _ => false

theorem veqL_eq : {l m : List Value} → veqL l m = true → l = m
  | [], [], _ => rfl
  | a :: l, b :: m, h => by
    simp only [veqL, Bool.and_eq_true] at h
    rw [veq1_eq h.1, veqL_eq h.2]
  | [], _ :: _, h => by cases h
  | _ :: _, [], h => by cases h

def veq : Value → Value → Bool
  | .agg a, .agg b => veqL a.toList b.toList
  | a, b => veq1 a b

theorem veq_eq {a b : Value} (h : veq a b = true) : a = b := by
  unfold veq at h
  split at h
  · rename_i a b
    have := veqL_eq h
    rw [show a = b from Array.toList_inj.1 this]
  · exact veq1_eq h

def chkEl (P : Program) (T : Nat) (t : Ty) : Bool :=
  match P.info? T with
  | some i => Nat.beq i.size t.sz && Nat.ble i.bytes 32768 && (match i.zero with | some z => veq z (t.val (zeroVals t)) | none => false) && Nat.blt 0 t.sz
  | none => false

theorem chkEl_ok {T : Nat} {t : Ty} (h : chkEl P T t = true) : ElOK P T t := by
  unfold chkEl at h
  split at h
  · rename_i i hi
    simp only [Bool.and_eq_true] at h
    obtain ⟨⟨⟨h1, h2⟩, h3⟩, h4⟩ := h
    refine ⟨i, hi, nbeq_true h1, Nat.le_of_ble_eq_true h2, ?_, Nat.le_of_ble_eq_true h4⟩
    split at h3
    · rename_i z hz
      rw [hz, veq_eq h3]
    · cases h3
  · cases h

def chkFields (P : Program) (te : TyE) : Nat → List Field → Bool
  | _, [] => true
  | i, f :: r => (match offOf te.nf i te.ty with | some o => Nat.beq o f.offset | none => false) && (match P.info? f.type with | some inf => !Nat.beq inf.size 0 | none => false) && chkFields P te (i + 1) r

theorem chkFields_ok {te : TyE} : (l : List Field) → (i : Nat) → chkFields P te i l = true → ∀ k f, l[k]? = some f → offOf te.nf (i + k) te.ty = some f.offset ∧ ∃ inf, P.info? f.type = some inf ∧ inf.size ≠ 0
  | [], i, h, k, f, hf => by simp at hf
  | g :: r, i, h, k, f, hf => by
    simp only [chkFields, Bool.and_eq_true] at h
    cases k with
    | zero =>
      simp only [List.getElem?_cons_zero, Option.some.injEq] at hf
      subst hf
      obtain ⟨⟨h1, h2⟩, _⟩ := h
      refine ⟨?_, ?_⟩
      · split at h1
        · rename_i o ho
          rw [Nat.add_zero, ho, nbeq_true h1]
        · cases h1
      · split at h2
        · rename_i inf hinf
          refine ⟨inf, hinf, fun e => ?_⟩
          rw [e] at h2
          cases h2
        · cases h2
    | succ k =>
      have := chkFields_ok r (i + 1) h.2 k f (by simpa using hf)
      rw [show i + 1 + k = i + (k + 1) from by omega] at this
      exact this

def chkPlaces (P : Program) : List Field → List (Nat × Nat) → Bool
  | [], [] => true
  | f :: r, (o, n) :: q => (match P.info? f.type with | some i => Nat.beq f.offset o && Nat.beq i.size n | none => false) && chkPlaces P r q
  | _, _ => false

theorem chkPlaces_ok : (l : List Field) → (q : List (Nat × Nat)) → chkPlaces P l q = true → l.mapM (fun f => (P.info? f.type).map fun i => (f.offset, i.size)) = some q
  | [], [], _ => rfl
  | f :: r, (o, n) :: q, h => by
    simp only [chkPlaces, Bool.and_eq_true] at h
    obtain ⟨h1, h2⟩ := h
    split at h1
    · rename_i i hi
      simp only [Bool.and_eq_true] at h1
      rw [List.mapM_cons, hi, chkPlaces_ok r q h2]
      have e1 := nbeq_true h1.1
      have e2 := nbeq_true h1.2
      subst e1
      subst e2
      rfl
    · cases h1
  | [], _ :: _, h => by cases h
  | _ :: _, [], h => by simp [chkPlaces] at h

def chkBytes (P : Program) (T : Nat) : Ty → Bool
  | .slice (.int .u8) => match P.underlying T with
    | some (.slice T') => match P.underlying T' with
      | some (.int .u8) => true
      | _ => false
    | _ => false
  | _ => true

theorem chkBytes_ok {T : Nat} {t : Ty} (h : chkBytes P T t = true) (ht : t = .slice (.int .u8)) : ∃ T', P.underlying T = some (.slice T') ∧ P.underlying T' = some (.int .u8) := by
  subst ht
  simp only [chkBytes] at h
  split at h
  · rename_i T' hT
    split at h
    · rename_i hu
      exact ⟨T', hT, hu⟩
    · cases h
  · cases h

def chkKey (P : Program) (K : Nat) (k : Ty) : Bool := chkEq P 40 K k

theorem chkKey_ok {K : Nat} {t : Ty} (h : chkKey P K t = true) : KeyOK P K t := keyOK_gen (by decide) h

def chkAgg (P : Program) (te : TyE) : Nat → List Field → Bool
  | _, [] => true
  | i, f :: r => (match typAt te.nf i te.ty, aggB P f.type, P.info? f.type with | some u, some b, some inf => (bif b then u.isPair else !u.isPair) && Nat.beq inf.size u.sz | _, _, _ => false) && chkAgg P te (i + 1) r

theorem chkAgg_ok {te : TyE} : (l : List Field) → (i : Nat) → chkAgg P te i l = true → ∀ k f u, l[k]? = some f → typAt te.nf (i + k) te.ty = some u → aggB P f.type = some u.isPair ∧ ∃ inf, P.info? f.type = some inf ∧ inf.size = u.sz
  | [], i, h, k, f, u, hf, hu => by simp at hf
  | g :: r, i, h, k, f, u, hf, hu => by
    simp only [chkAgg, Bool.and_eq_true] at h
    cases k with
    | zero =>
      simp only [List.getElem?_cons_zero, Option.some.injEq] at hf
      subst hf
      have h1 := h.1
      rw [Nat.add_zero] at hu
      rw [hu] at h1
      split at h1
      · rename_i u' b inf e1 e2 e3
        cases e1
        simp only [Bool.and_eq_true] at h1
        refine ⟨?_, inf, e3, nbeq_true h1.2⟩
        rw [e2]
        have h1 := h1.1
        cases b <;> simp at h1 <;> simp [h1]
      · cases h1
    | succ k =>
      exact chkAgg_ok r (i + 1) h.2 k f u (by simpa using hf) (by rw [show i + 1 + k = i + (k + 1) from by omega]; exact hu)

def chkAggs (P : Program) (T : Nat) (te : TyE) : Bool :=
  match P.underlying T with
  | some (.struct fs) => chkAgg P te 0 fs.toList
  | _ => true

theorem chkAggs_ok {T : Nat} {te : TyE} (h : chkAggs P T te = true) : ∀ fs, P.underlying T = some (.struct fs) → ∀ (i : Nat) (f : Field) (u : Ty), fs[i]? = some f → typAt te.nf i te.ty = some u → aggB P f.type = some u.isPair ∧ ∃ inf, P.info? f.type = some inf ∧ inf.size = u.sz := by
  intro fs hfs i f u hf hu
  unfold chkAggs at h
  rw [hfs] at h
  exact chkAgg_ok fs.toList 0 h i f u (by simpa using hf) (by rw [Nat.zero_add]; exact hu)

def chkTy (P : Program) (T : Nat) (te : TyE) : Bool :=
  chkEl P T te.ty && chkBytes P T te.ty && chkAggs P T te && (!te.arr || te.ty.isPair) && match P.underlying T, te.ty with
    | some (.int k), .int k' => decide (k = k')
    | some .bool, .bool => true
    | some .string, .str => true
    | some (.slice T'), .slice e => chkEl P T' e
    | some (.array n T'), .pair e _ => te.arr && decide (te.ty = Ty.arr e n) && Nat.beq te.nf n && chkEl P T' e
    | some (.struct fs), .pair _ _ => !te.arr && Nat.beq fs.size te.nf && chkFields P te 0 fs.toList && chkPlaces P fs.toList (placesOf te.nf te.ty)
    | some (.func _ _ _), .fn1 _ _ => true
    | some (.func _ _ _), .fn2 _ _ _ => true
    | some (.func _ _ _), .seq _ => true
    | some (.func _ _ _), .seq2 _ _ => true
    | some (.map K V), .map k v => chkKey P K k && chkEl P V v
    | _, _ => false

theorem chkTy_ok {T : Nat} {te : TyE} (h : chkTy P T te = true) : TyOK P T te := by
  unfold chkTy at h
  simp only [Bool.and_eq_true] at h
  obtain ⟨⟨⟨⟨h1, hby⟩, hag⟩, har⟩, h2⟩ := h
  have hag := chkAggs_ok hag
  have har : te.arr = true → te.ty.isPair = true := fun h => by rw [h] at har; simpa using har
  have hi := chkEl_ok h1
  have hby := chkBytes_ok hby
  have no : ∀ {d : TypeDesc}, P.underlying T = some d → (∀ fs, d ≠ .struct fs) → ∀ fs, P.underlying T = some (.struct fs) → (∀ i f, fs[i]? = some f → offOf te.nf i te.ty = some f.offset ∧ ∃ inf, P.info? f.type = some inf ∧ inf.size ≠ 0) ∧
      fs.toList.mapM (fun f => (P.info? f.type).map fun i => (f.offset, i.size)) = some (placesOf te.nf te.ty) := by
    intro d hd hn fs hfs
    rw [hd] at hfs
    cases hfs
    exact absurd rfl (hn fs)
  split at h2
  · rename_i k k' hu ht
    have hk : k = k' := of_decide_eq_true h2
    subst hk
    exact ⟨hi, by rw [ht]; exact hu, no hu (fun _ e => (by cases e)), har, hag, hby⟩
  · rename_i hu ht
    exact ⟨hi, by rw [ht]; exact hu, no hu (fun _ e => (by cases e)), har, hag, hby⟩
  · rename_i hu ht
    exact ⟨hi, by rw [ht]; exact hu, no hu (fun _ e => (by cases e)), har, hag, hby⟩
  · rename_i T' e hu ht
    exact ⟨hi, by rw [ht]; exact ⟨T', hu, chkEl_ok h2⟩, no hu (fun _ e => (by cases e)), har, hag, hby⟩
  · rename_i n T' e r hu ht
    simp only [Bool.and_eq_true] at h2
    obtain ⟨⟨⟨g0, g1⟩, g2⟩, g3⟩ := h2
    refine ⟨hi, ?_, no hu (fun _ e => (by cases e)), har, hag, hby⟩
    have g1 := of_decide_eq_true g1
    rw [ht]
    dsimp only
    rw [g0]
    exact ⟨n, T', e, hu, by rw [← g1, ht], nbeq_true g2, chkEl_ok g3⟩
  · rename_i fs a b hu ht
    simp only [Bool.and_eq_true, Bool.not_eq_true'] at h2
    obtain ⟨⟨⟨g0, g1⟩, g2⟩, g3⟩ := h2
    refine ⟨hi, by rw [ht]; dsimp only; rw [g0]; exact ⟨fs, hu, nbeq_true g1⟩, fun fs' hfs => ?_, har, hag, hby⟩
    rw [hu] at hfs
    cases hfs
    refine ⟨fun i f hf => ?_, chkPlaces_ok _ _ g3⟩
    have := chkFields_ok fs.toList 0 g2 i f (by simpa using hf)
    rwa [Nat.zero_add] at this
  · rename_i p q r a b hu ht
    exact ⟨hi, by rw [ht]; exact ⟨p, q, r, hu⟩, no hu (fun _ e => (by cases e)), har, hag, hby⟩
  · rename_i p q r a b c hu ht
    exact ⟨hi, by rw [ht]; exact ⟨p, q, r, hu⟩, no hu (fun _ e => (by cases e)), har, hag, hby⟩
  · rename_i p q r a hu ht
    exact ⟨hi, by rw [ht]; exact ⟨p, q, r, hu⟩, no hu (fun _ e => (by cases e)), har, hag, hby⟩
  · rename_i p q r a b hu ht
    exact ⟨hi, by rw [ht]; exact ⟨p, q, r, hu⟩, no hu (fun _ e => (by cases e)), har, hag, hby⟩
  · rename_i K V k v hu ht
    simp only [Bool.and_eq_true] at h2
    exact ⟨hi, by rw [ht]; exact ⟨K, V, hu, chkKey_ok h2.1, chkEl_ok h2.2⟩, no hu (fun _ e => (by cases e)), har, hag, hby⟩
  · cases h2

def chkG (P : Program) (G : List (Nat × TyE)) : Bool := G.all fun p => chkTy P p.1 p.2

theorem env_nil {G : List (Nat × TyE)} (h : chkG P G = true) : EnvOK P ⟨G, [], [], [], [], [], []⟩ where
  rt := (fun f h => (by cases h))
  fl := (fun f h => (by cases h))
  ty := fun T te hT => chkTy_ok (List.all_eq_true.1 h _ (Map.get_mem hT))
  con := (fun f c h => (by cases h))
  it := (fun f c h => (by cases h))
  mu := (fun f c h => (by cases h))
  eq := (fun f c h => (by cases h))

theorem env_add {G : List (Nat × TyE)} {C : List (Nat × Con)} {Q : List (Nat × Ty)} {I : List (Nat × ICon)} {M : List (Nat × MCon)} {S D : List Nat} (h : EnvOK P ⟨G, C, Q, I, M, S, D⟩) {f : Nat} {c : Con} (hc : ConOK P f c) : EnvOK P ⟨G, (f, c) :: C, Q, I, M, S, D⟩ where
  rt := h.rt
  fl := h.fl
  ty := h.ty
  con := fun g d hg => by
    simp only [Map.get, nbeq] at hg
    by_cases e : f = g
    · subst e
      simp at hg
      subst hg
      exact hc
    · simp [e] at hg
      exact h.con g d hg
  it := h.it
  mu := h.mu
  eq := h.eq

theorem env_it {G : List (Nat × TyE)} {C : List (Nat × Con)} {Q : List (Nat × Ty)} {I : List (Nat × ICon)} {M : List (Nat × MCon)} {S D : List Nat} (h : EnvOK P ⟨G, C, Q, I, M, S, D⟩) {f : Nat} {c : ICon} (hc : IConOK P f c) : EnvOK P ⟨G, C, Q, (f, c) :: I, M, S, D⟩ where
  rt := h.rt
  fl := h.fl
  ty := h.ty
  con := h.con
  it := fun g d hg => by
    simp only [Map.get, nbeq] at hg
    by_cases e : f = g
    · subst e
      simp at hg
      subst hg
      exact hc
    · simp [e] at hg
      exact h.it g d hg
  mu := h.mu
  eq := h.eq

theorem env_mu {G : List (Nat × TyE)} {C : List (Nat × Con)} {Q : List (Nat × Ty)} {I : List (Nat × ICon)} {M : List (Nat × MCon)} {S D : List Nat} (h : EnvOK P ⟨G, C, Q, I, M, S, D⟩) {f : Nat} {c : MCon} (hc : MConOK P f c) : EnvOK P ⟨G, C, Q, I, (f, c) :: M, S, D⟩ where
  rt := h.rt
  fl := h.fl
  ty := h.ty
  con := h.con
  it := h.it
  mu := fun g d hg => by
    simp only [Map.get, nbeq] at hg
    by_cases e : f = g
    · subst e
      simp at hg
      subst hg
      exact hc
    · simp [e] at hg
      exact h.mu g d hg
  eq := h.eq

theorem env_eq {G : List (Nat × TyE)} {C : List (Nat × Con)} {Q : List (Nat × Ty)} {I : List (Nat × ICon)} {M : List (Nat × MCon)} {S D : List Nat} (h : EnvOK P ⟨G, C, Q, I, M, S, D⟩) {T : Nat} {t : Ty} (hq : EqOK P T t) : EnvOK P ⟨G, C, (T, t) :: Q, I, M, S, D⟩ where
  rt := h.rt
  fl := h.fl
  ty := h.ty
  con := h.con
  it := h.it
  mu := h.mu
  eq := fun U u hu => by
    simp only [Map.get, nbeq] at hu
    by_cases e : T = U
    · subst e
      simp at hu
      subst hu
      exact hq
    · simp [e] at hu
      exact h.eq U u hu

theorem env_fl {G : List (Nat × TyE)} {C : List (Nat × Con)} {Q : List (Nat × Ty)} {I : List (Nat × ICon)} {M : List (Nat × MCon)} {S D : List Nat} (h : EnvOK P ⟨G, C, Q, I, M, S, D⟩) {f T : Nat} (hf : SqrtOK P f) (hT : P.underlying T = some (.float .f64)) : EnvOK P ⟨G, C, Q, I, M, f :: S, T :: D⟩ where
  rt := fun g hg => by
    rcases List.mem_cons.1 hg with rfl | hg
    · exact hf
    · exact h.rt g hg
  fl := fun U hU => by
    rcases List.mem_cons.1 hU with rfl | hU
    · exact hT
    · exact h.fl U hU
  ty := h.ty
  con := h.con
  it := h.it
  mu := h.mu
  eq := h.eq

end Go.Abs

set_option linter.unusedSimpArgs false
set_option linter.unusedVariables false
namespace Go.Abs
open Go
variable {P : Program} {E : Env} {R : Type} {H : Hdl R} {i : Bool}

def bd (f : Func) : Code := match f.body with
  | some c => c
  | none => .skip

/-- The outer loops. -/
def loopsOf : Code → List Code
  | .seq a b => loopsOf a ++ loopsOf b
  | .cond _ a b => loopsOf a ++ loopsOf b
  | .block _ c => loopsOf c
  | .loop c => [.loop c]
  | .rangeFunc g ps a b => [.rangeFunc g ps a b]
  | _ => []

def nth : List Code → Nat → Code
  | [], _ => .skip
  | c :: _, 0 => c
  | _ :: r, n + 1 => nth r n

def lp (c : Code) (i : Nat) : Code := nth (loopsOf c) i

/-- What is looped. -/
def inn : Code → Code
  | .loop c => c
  | _ => .skip

def isLoop : Code → Bool
  | .loop _ => true
  | _ => false

def rgG : Code → Operand
  | .rangeFunc g _ _ _ => g
  | _ => .func 0
def rgA : Code → Code
  | .rangeFunc _ _ a _ => a
  | _ => .skip
def rgB : Code → Code
  | .rangeFunc _ _ _ b => b
  | _ => .skip

def isRange (p : Nat) : Code → Bool
  | .rangeFunc _ ps _ _ => match ps.toList with
    | [q] => Nat.beq q p
    | _ => false
  | _ => false

theorem isLoop_eq {w : Code} (h : isLoop w = true) : w = .loop (inn w) := by
  cases w <;> first | rfl | cases h

theorem isRange_eq {p : Nat} {w : Code} (h : isRange p w = true) : w = .rangeFunc (rgG w) #[p] (rgA w) (rgB w) := by
  cases w <;> try (cases h; done)
  rename_i g ps a b
  simp only [isRange] at h
  split at h
  · rename_i q hq
    have := nbeq_true h
    subst this
    have : ps = #[q] := by rw [← Array.toArray_toList (xs := ps), hq]
    subst this
    rfl
  · cases h

def SndL (P : Program) (H : Hdl R) (i : Bool) (l : List Code) : Nat → List (Ev R) → Prop
  | _, [] => True
  | n, f :: r => Sound P H i (nth l n) f ∧ SndL P H i l (n + 1) r

theorem loopsOf_len : (c : Code) → (loopsOf c).length = loops c
  | .seq a b => by simp [loopsOf, loops, loopsOf_len a, loopsOf_len b]
  | .cond _ a b => by simp [loopsOf, loops, loopsOf_len a, loopsOf_len b]
  | .block _ c => by simp [loopsOf, loops, loopsOf_len c]
  | .loop c => rfl
  | .skip => rfl
  | .region .. => rfl
  | .exit _ => rfl
  | .ret => rfl
  | .rangeFunc _ _ _ _ => rfl
  | .scope _ => rfl
  | .label _ => rfl
  | .goto _ => rfl
  | .refuse _ => rfl

theorem SndL.get {l : List Code} : {O : List (Ev R)} → {n : Nat} → SndL P H i l n O → ∀ k f, O[k]? = some f → Sound P H i (nth l (n + k)) f
  | [], n, h, k, f, hf => by simp at hf
  | g :: r, n, ⟨h1, h2⟩, 0, f, hf => by
    simp at hf
    subst hf
    exact h1
  | g :: r, n, ⟨h1, h2⟩, k + 1, f, hf => by
    have := SndL.get h2 k f (by simpa using hf)
    rwa [show n + 1 + k = n + (k + 1) from by omega] at this

theorem nth_append_left {l m : List Code} : {i : Nat} → i < l.length → nth (l ++ m) i = nth l i := by
  induction l with
  | nil => intro i h; simp at h
  | cons c l ih =>
    intro i h
    cases i with
    | zero => rfl
    | succ i => exact ih (by simpa using h)

theorem nth_append_right {l m : List Code} (i : Nat) : nth (l ++ m) (l.length + i) = nth m i := by
  induction l with
  | nil => simp
  | cons c l ih =>
    rw [List.length_cons, show l.length + 1 + i = (l.length + i) + 1 from by omega]
    exact ih

theorem osOK_aux : (c : Code) → (O : List (Ev R)) → (∀ k f, k < loops c → O[k]? = some f → Sound P H i (nth (loopsOf c) k) f) → OsOK P H i c O
  | .seq a b, O, h => by
    refine ⟨osOK_aux a _ fun i f hi hf => ?_, osOK_aux b _ fun i f hi hf => ?_⟩
    · rw [List.getElem?_take_of_lt hi] at hf
      have := h i f (by simp [loops]; omega) hf
      rw [loopsOf, nth_append_left (by rw [loopsOf_len]; exact hi)] at this
      exact this
    · rw [List.getElem?_drop] at hf
      have := h _ f (by simp [loops]; omega) hf
      rw [loopsOf, ← loopsOf_len a, nth_append_right] at this
      exact this
  | .cond _ a b, O, h => by
    refine ⟨osOK_aux a _ fun i f hi hf => ?_, osOK_aux b _ fun i f hi hf => ?_⟩
    · rw [List.getElem?_take_of_lt hi] at hf
      have := h i f (by simp [loops]; omega) hf
      rw [loopsOf, nth_append_left (by rw [loopsOf_len]; exact hi)] at this
      exact this
    · rw [List.getElem?_drop] at hf
      have := h _ f (by simp [loops]; omega) hf
      rw [loopsOf, ← loopsOf_len a, nth_append_right] at this
      exact this
  | .block _ c, O, h => osOK_aux c O h
  | .loop c, O, h => fun f hf => by
    subst hf
    exact h 0 f (by simp [loops]) rfl
  | .skip, _, _ => trivial
  | .region .., _, _ => trivial
  | .exit _, _, _ => trivial
  | .ret, _, _ => trivial
  | .rangeFunc g ps x y, O, h => fun f hf => by
    subst hf
    exact h 0 f (by simp [loops]) rfl
  | .scope _, _, _ => trivial
  | .label _, _, _ => trivial
  | .goto _, _, _ => trivial
  | .refuse _, _, _ => trivial

theorem osOK_of {c : Code} {O : List (Ev R)} (h : SndL P H i (loopsOf c) 0 O) : OsOK P H i c O :=
  osOK_aux c O fun i f _ hf => by simpa using h.get i f hf

theorem loop_ok {n : Nat} (hE : EnvOK P E) (hP : P.follows .mixedOrders = true) {w : Code} (hw : isLoop w = true) {O : List (Ev R)} {T : Templ} {X : List (Way × Templ)} {body : denU T.tys → (denU T.tys → Option R) → conts R X → Option R}
    (hi : SndL P H i (loopsOf (inn w)) 0 O) (hb : ∀ d again k, codeR E H (inn w) O (mk T d) (turnR E T X again k) = body d again k) : Sound P H i w (loopO n E T X body) := by
  rw [isLoop_eq hw]
  exact loop_sound hE (codeR_sound hE hP (inn w) O (osOK_of hi)) hb

theorem range_ok (hE : EnvOK P E) (hP : P.follows .mixedOrders = true) {w : Code} {e : Ty} {p : Nat} {Oa Ob : List (Ev R)} {T : Templ} {F : List Nat} {X : List (Way × Templ)} {body : denU T.tys → e.den → (denU T.tys → Option R) → conts R X → Option R}
    (hw : isRange p w = true) (hfx : T.fx = []) (hpN : p < T.N) (hpF : p ∉ F) (hX : (X.all fun x => x.2.fx.isEmpty) = true)
    (ha : SndL P (Hdl.no (R := R)) true (loopsOf (rgA w)) 0 Oa) (hb : SndL P (Hdl.no (R := R)) true (loopsOf (rgB w)) 0 Ob)
    (heq : ∀ d x again k, codeR E Hdl.no (rgA w) Oa (mkB T F p e d x) (thenB fun st => codeR E Hdl.no (rgB w) Ob st (turnB E T F X again k)) = body d x again k) :
    Sound P (Hdl.no (R := R)) false w (rangeO E e (rgG w) T X body) := by
  have := isRange_eq hw
  rw [this]
  simp only [rgG]
  exact range_sound hE rfl {
    fx := hfx
    pN := hpN
    pF := hpF
    xfx := fun x hx => by simpa using List.all_eq_true.1 hX x hx
    a := codeR_sound hE hP _ _ (osOK_of ha)
    b := codeR_sound hE hP _ _ (osOK_of hb)
    eq := heq }

theorem func_ok (hE : EnvOK P E) (hP : P.follows .mixedOrders = true) {f : FuncId} {fn : Func} (hf : P.funcs[f]? = some fn) (hn : (fn.name == "runtime.NumGoroutine") = false) (hb : fn.body.isSome = true)
    {ins caps outs : List Ty} {g : denL ins → denL caps → Option (denL outs)} {fresh : Bool} {O : List (Ev (denL outs))} (hO : SndL P (Hdl.no (R := denL outs)) false (loopsOf (bd fn)) 0 O)
    (heq : ∀ x y, funR E fn ins caps outs fresh O x y = g x y) : ConOK P f ⟨ins, caps, outs, g, fresh⟩ :=
  fun_ok hE hP hf hn (fun c hc => osOK_of (by have := hO; unfold bd at this; rw [hc] at this; exact this)) heq hb

theorem itf1_ok (hE : EnvOK P E) (hP : P.follows .mixedOrders = true) {f : FuncId} {fn : Func} (hf : P.funcs[f]? = some fn) (hn : (fn.name == "runtime.NumGoroutine") = false) (hb : fn.body.isSome = true)
    {e : Ty} {caps : List Ty} {g : denL caps → Option (List e.den)} {O : List (Ev (List (denL [e])))} (hO : SndL P (hdlL [e]) false (loopsOf (bd fn)) 0 O)
    (heq : ∀ y, iterR E fn [e] caps O y = g y) : IConOK P f ⟨caps, .seq e, g⟩ :=
  iter1_ok hE hP hf hn (fun c hc => osOK_of (by have := hO; unfold bd at this; rw [hc] at this; exact this)) heq hb

theorem itf2_ok (hE : EnvOK P E) (hP : P.follows .mixedOrders = true) {f : FuncId} {fn : Func} (hf : P.funcs[f]? = some fn) (hn : (fn.name == "runtime.NumGoroutine") = false) (hb : fn.body.isSome = true)
    {a b : Ty} {caps : List Ty} {g : denL caps → Option (List (a.den × b.den))} {O : List (Ev (List (denL [a, b])))} (hO : SndL P (hdlL [a, b]) false (loopsOf (bd fn)) 0 O)
    (heq : ∀ y, iterR E fn [a, b] caps O y = g y) : IConOK P f ⟨caps, .seq2 a b, g⟩ :=
  iter2_ok hE hP hf hn (fun c hc => osOK_of (by have := hO; unfold bd at this; rw [hc] at this; exact this)) heq hb

end Go.Abs

set_option linter.unusedSimpArgs false
set_option linter.unusedVariables false
namespace Go.Abs
open Go
variable {P : Program}

/-- The bounds of numbers and lengths. -/
def Ty.wf : (t : Ty) → t.den → Prop
  | .int k, n => k.min ≤ n ∧ (n : Int) ≤ k.max
  | .bool, _ => True
  | .str, l => List.length (α := UInt8) l ≤ maxLen
  | .unit, _ => True
  | .slice e, l => List.length l ≤ maxLen ∧ ∀ x ∈ (l : List e.den), e.wf x
  | .pair a b, (x, y) => a.wf x ∧ b.wf y
  | .fn1 _ _, _ => True
  | .fn2 _ _ _, _ => True
  | .seq _, _ => True
  | .seq2 _ _, _ => True
  | .map _ _, _ => True

mutual
def shp (P : Program) : Nat → Nat → Ty → Bool
  | 0, _, _ => false
  | n + 1, T, t => match P.underlying T, t with
    | some (.int k), .int k' => decide (k = k')
    | some .bool, .bool => true
    | some .string, .str => true
    | some (.slice T'), .slice e => Nat.beq (P.cellsOf T') e.sz && Nat.blt 0 e.sz && shp P n T' e
    | some (.struct fs), .pair a b => Nat.beq (P.cellsOf T) (Ty.pair a b).sz && shpF P n fs.toList 0 (.pair a b)
    | some (.array m T'), .pair a b => Nat.beq (P.cellsOf T) (Ty.pair a b).sz && decide (Ty.pair a b = Ty.arr a m) && Nat.beq (P.cellsOf T') a.sz && shp P n T' a
    | _, _ => false

def shpF (P : Program) : Nat → List Field → Nat → Ty → Bool
  | 0, _, _, _ => false
  | n + 1, [f], off, t => Nat.beq f.offset off && Nat.beq (P.cellsOf f.type) t.sz && shp P n f.type t
  | n + 1, f :: g :: r, off, .pair a b => Nat.beq f.offset off && Nat.beq (P.cellsOf f.type) a.sz && shp P n f.type a && shpF P n (g :: r) (off + a.sz) b
  | _ + 1, _, _, _ => false
end

theorem mapM_cons_some {α β : Type} {f : α → Option β} {x : α} {l : List α} {ys : List β} (h : (x :: l).mapM f = some ys) : ∃ y r, f x = some y ∧ l.mapM f = some r ∧ ys = y :: r := by
  rw [List.mapM_cons] at h
  cases hx : f x with
  | none => rw [hx] at h; cases h
  | some y =>
    rw [hx] at h
    cases hl : l.mapM f with
    | none => rw [hl] at h; cases h
    | some r => rw [hl] at h; cases h; exact ⟨y, r, rfl, rfl, rfl⟩

theorem mapM_get {α β : Type} {f : α → Option β} : {l : List α} → {ys : List β} → l.mapM f = some ys → ∀ (i : Nat) x, l[i]? = some x → ∃ y, f x = some y
  | [], ys, h, i, x, hx => by simp at hx
  | a :: l, ys, h, i, x, hx => by
    obtain ⟨y, r, h1, h2, h3⟩ := mapM_cons_some h
    cases i with
    | zero => simp at hx; subst hx; exact ⟨y, h1⟩
    | succ i => exact mapM_get h2 i x (by simpa using hx)

theorem mapM_len {α β : Type} {f : α → Option β} : {l : List α} → {ys : List β} → l.mapM f = some ys → ys.length = l.length
  | [], ys, h => by cases h; rfl
  | a :: l, ys, h => by
    obtain ⟨y, r, h1, h2, h3⟩ := mapM_cons_some h
    subst h3
    simp [mapM_len h2]

theorem mapM_at {α β : Type} {f : α → Option β} : {l : List α} → {ys : List β} → l.mapM f = some ys → ∀ (i : Nat) x y, l[i]? = some x → ys[i]? = some y → f x = some y
  | [], ys, h, i, x, y, hx, hy => by simp at hx
  | a :: l, ys, h, i, x, y, hx, hy => by
    obtain ⟨y', r, h1, h2, h3⟩ := mapM_cons_some h
    subst h3
    cases i with
    | zero => simp at hx hy; subst hx; subst hy; exact h1
    | succ i => exact mapM_at h2 i x y (by simpa using hx) (by simpa using hy)

/-- Cells that are read one by one. -/
theorem cells_read {W : World} {b off n : Nat} {sp : Option Nat} {cs : List Value} (h : W.cells? 0 ⟨b, off, sp⟩ n = some cs) (hn : 0 < n) : sp = none ∨ True := .inr trivial

theorem exists_choice {α : Type} {n : Nat} {Q : Nat → α → Prop} (h : ∀ i, i < n → ∃ x, Q i x) : ∃ l : List α, l.length = n ∧ ∀ (i : Nat) x, l[i]? = some x → Q i x := by
  induction n with
  | zero => exact ⟨[], rfl, fun i x hx => by simp at hx⟩
  | succ n ih =>
    obtain ⟨l, h1, h2⟩ := ih fun i hi => h i (by omega)
    obtain ⟨x, hx⟩ := h n (by omega)
    refine ⟨l ++ [x], by simp [h1], fun i y hy => ?_⟩
    by_cases hi : i < l.length
    · rw [List.getElem?_append_left hi] at hy
      exact h2 i y hy
    · rw [List.getElem?_append_right (by omega)] at hy
      have : i - l.length = 0 := by
        cases hk : i - l.length with
        | zero => rfl
        | succ k => rw [hk] at hy; simp at hy
      rw [this] at hy
      simp at hy
      subst hy
      have : i = n := by omega
      subst this
      exact hx

/-- Data of an array, element by element. -/
theorem rep_arr {W : World} {ok : Nat → Prop} {a : Ty} : (m : Nat) → (cs : List Value) → 0 < m → cs.length = m * a.sz → (∀ i, i < m → ∃ y, Rep P a W ok ((cs.drop (i * a.sz)).take a.sz) y ∧ a.wf y) →
    ∃ x : (Ty.arr a m).den, Rep P (Ty.arr a m) W ok cs x ∧ (Ty.arr a m).wf x
  | 0, cs, h, _, _ => absurd h (Nat.lt_irrefl 0)
  | 1, cs, _, hl, h => by
    obtain ⟨y, h1, h2⟩ := h 0 (by omega)
    rw [Nat.zero_mul, List.drop_zero, List.take_of_length_le (by omega)] at h1
    exact ⟨y, h1, h2⟩
  | m + 2, cs, _, hl, h => by
    obtain ⟨y, h1, h2⟩ := h 0 (by omega)
    rw [Nat.zero_mul, List.drop_zero] at h1
    have e : (m + 2) * a.sz = (m + 1) * a.sz + a.sz := by rw [← Nat.succ_mul]
    obtain ⟨x, k1, k2⟩ := rep_arr (a := a) (m + 1) (cs.drop a.sz) (by omega) (by rw [List.length_drop, hl, e]; omega) fun i hi => by
      obtain ⟨z, g1, g2⟩ := h (i + 1) (by omega)
      refine ⟨z, ?_, g2⟩
      rw [List.drop_drop]
      rw [show a.sz + i * a.sz = (i + 1) * a.sz from by rw [Nat.succ_mul]; omega]
      exact g1
    exact ⟨(y, x), ⟨h1, k1⟩, h2, k2⟩

section
variable {H : Type} {enc : TypeId × Value → H} {W : World} {spare : Nat → Bool} {held : Bool}

mutual
theorem open_ty : (n : Nat) → (T : Nat) → (t : Ty) → shp P n T t = true → ∀ (fuel : Nat) (cs : List Value) (d : DataW H) (ps : List MemPlace), DataW.trod enc P W 0 spare held fuel T cs = some (d, ps) →
    ∃ x : t.den, Rep P t W (fun b => b < W.heap.size) cs x ∧ t.wf x
  | 0, T, t, h, fuel, cs, d, ps, hd => by simp [shp] at h
  | n + 1, T, t, h, 0, cs, d, ps, hd => by cases hd
  | n + 1, T, t, h, fuel + 1, cs, d, ps, hd => by
    unfold shp at h
    unfold DataW.trod at hd
    split at h
    · rename_i k k' hu
      have hk : k = k' := of_decide_eq_true h
      subst hk
      rw [hu] at hd
      match cs, hd with
      | [.int k2 m], hd =>
        simp only at hd
        split at hd
        · rename_i hh
          obtain ⟨rfl, hw⟩ := hh
          refine ⟨m, rfl, ?_⟩
          simpa [Lit.wf, Ty.wf] using hw
        · cases hd
    · rename_i hu
      rw [hu] at hd
      match cs, hd with
      | [.bool b], hd => exact ⟨b, rfl, trivial⟩
    · rename_i hu
      rw [hu] at hd
      match cs, hd with
      | [.string s], hd =>
        simp only at hd
        split at hd
        · rename_i hs
          obtain ⟨⟨s⟩⟩ := s
          exact ⟨s, rfl, hs⟩
        · cases hd
    · rename_i T' e hu
      simp only [Bool.and_eq_true] at h
      obtain ⟨⟨h1, h2⟩, h3⟩ := h
      have hc := nbeq_true h1
      have hpos : 0 < e.sz := Nat.le_of_ble_eq_true h2
      rw [hu] at hd
      match cs, hd with
      | [.slice none 0 0], hd => exact ⟨([] : List e.den), ⟨none, 0, rfl, Nat.le_refl _, .inl rfl⟩, ⟨Nat.zero_le _, fun _ h => (by cases h)⟩⟩
      | [.slice (some a) len cap], hd =>
        simp only at hd
        split at hd
        · rename_i hh
          obtain ⟨_, hlc, hcm⟩ := hh
          cases hm : (List.range len).mapM (fun i => (W.cells? 0 (a.add (i * P.cellsOf T')) (P.cellsOf T')).bind (DataW.trod enc P W 0 spare held fuel T')) with
          | none => rw [hm] at hd; cases hd
          | some els =>
            clear hd
            have hel : ∀ i, i < len → ∃ ds y, W.cells? 0 (a.add (i * e.sz)) e.sz = some ds ∧ Rep P e W (fun b => b < W.heap.size) ds y ∧ e.wf y := by
              intro i hi
              obtain ⟨z, hz⟩ := mapM_get hm i i (by simp [hi])
              rw [hc] at hz
              cases hcs : W.cells? 0 (a.add (i * e.sz)) e.sz with
              | none => rw [hcs] at hz; cases hz
              | some ds =>
                rw [hcs] at hz
                obtain ⟨y, hy1, hy2⟩ := open_ty n T' e h3 fuel ds z.1 z.2 hz
                exact ⟨ds, y, rfl, hy1, hy2⟩
            by_cases hlen : len = 0
            · subst hlen
              exact ⟨([] : List e.den), ⟨some a, cap, rfl, Nat.zero_le _, .inl rfl⟩, ⟨Nat.zero_le _, fun _ h => (by cases h)⟩⟩
            · -- each cell of each element
              have hcell : ∀ i, i < len → ∀ j, j < e.sz → ∃ v, W.cell? ((a.add (i * e.sz)).add j) = some v := by
                intro i hi j hj
                obtain ⟨ds, y, q1, _⟩ := hel i hi
                unfold World.cells? at q1
                rw [if_pos (Nat.zero_le _)] at q1
                exact mapM_get q1 j j (by simp [hj])
              obtain ⟨b, off, sp⟩ := a
              obtain ⟨v0, hv0⟩ := hcell 0 (by omega) 0 hpos
              have e0 : (Addr.mk b off sp).add (0 * e.sz) = ⟨b, off, sp⟩ := by simp [Addr.add]
              rw [e0, show (Addr.mk b off sp).add 0 = ⟨b, off, sp⟩ from rfl] at hv0
              unfold World.cell? at hv0
              cases hb : W.heap[b]? with
              | none => simp only [hb] at hv0; cases hv0
              | some o =>
                cases o with
                | cells C U fr =>
                  simp only [hb] at hv0
                  cases sp with
                  | some s => simp at hv0
                  | none =>
                    have addoff : ∀ i j, (((Addr.mk b off none).add (i * e.sz)).add j) = ⟨b, off + i * e.sz + j, none⟩ := by
                      intro i j
                      unfold Addr.add
                      by_cases h1 : i * e.sz = 0 <;> by_cases h2 : j = 0 <;> simp [h1, h2]
                    have hin : ∀ i, i < len → ∀ j, j < e.sz → ∃ v, C[off + i * e.sz + j]? = some v := by
                      intro i hi j hj
                      obtain ⟨v, hv⟩ := hcell i hi j hj
                      rw [addoff] at hv
                      unfold World.cell? at hv
                      simp only [hb] at hv
                      exact ⟨v, by simpa using hv⟩
                    have hds : ∀ i, i < len → ∀ ds, W.cells? 0 ((Addr.mk b off none).add (i * e.sz)) e.sz = some ds → ds = chunk C.toList (off + i * e.sz) e.sz := by
                      intro i hi ds q1
                      unfold World.cells? at q1
                      rw [if_pos (Nat.zero_le _)] at q1
                      have hl := mapM_len q1
                      rw [List.length_range] at hl
                      apply List.ext_getElem?
                      intro j
                      by_cases hj : j < e.sz
                      · obtain ⟨v, hv⟩ := hin i hi j hj
                        have hdj : ds[j]? = some ds[j] := List.getElem?_eq_getElem (by omega)
                        have hat := mapM_at q1 j j _ (by simp [hj]) hdj
                        rw [addoff] at hat
                        unfold World.cell? at hat
                        simp only [hb] at hat
                        simp only [Option.isSome_none, Bool.false_eq_true, if_false] at hat
                        rw [hdj, ← hat]
                        unfold chunk
                        rw [List.getElem?_take_of_lt hj, List.getElem?_drop]
                        simp
                      · rw [List.getElem?_eq_none (by omega), List.getElem?_eq_none (by unfold chunk; simp; omega)]
                    obtain ⟨l, hl1, hl2⟩ := exists_choice (Q := fun i y => Rep P e W (fun b => b < W.heap.size) (chunk C.toList (off + i * e.sz) e.sz) y ∧ e.wf y) fun i hi => by
                      obtain ⟨ds, y, q1, q2, q3⟩ := hel i hi
                      rw [hds i hi ds q1] at q2
                      exact ⟨y, q2, q3⟩
                    refine ⟨l, ⟨some ⟨b, off, none⟩, cap, by rw [hl1], by rw [hl1]; exact hlc, .inr ⟨b, off, C, U, fr, rfl, (Array.getElem?_eq_some_iff.1 hb).1, hb, ?_, fun i x hx => (hl2 i x hx).1⟩⟩, ⟨by rw [hl1]; omega, fun x hx => ?_⟩⟩
                    · obtain ⟨v, hv⟩ := hin (len - 1) (by omega) (e.sz - 1) (by omega)
                      have := (Array.getElem?_eq_some_iff.1 hv).1
                      rw [hl1]
                      have e1 : len * e.sz = (len - 1) * e.sz + e.sz := by
                        conv => lhs; rw [show len = (len - 1) + 1 from by omega]
                        rw [Nat.succ_mul]
                      omega
                    · obtain ⟨i, hi, rfl⟩ := List.getElem_of_mem hx
                      exact (hl2 i l[i] (List.getElem?_eq_getElem hi)).2
                | _ => simp only [hb] at hv0; cases hv0
        · cases hd
    · rename_i fs x y hu
      simp only [Bool.and_eq_true] at h
      obtain ⟨h1, h2⟩ := h
      have hc := nbeq_true h1
      rw [hu] at hd
      have hd' : (if cs.length = P.cellsOf T then (fs.toList.mapM fun f => DataW.trod enc P W 0 spare held fuel f.type ((cs.drop f.offset).take (P.cellsOf f.type))).map fun xs => ((DataW.agg (xs.map (·.1)) : DataW H), xs.flatMap (·.2)) else none) = some (d, ps) := by
        match cs, hd with
        | [], hd => exact hd
        | [_], hd => exact hd
        | _ :: _ :: _, hd => exact hd
      split at hd'
      · rename_i hl
        cases hm : fs.toList.mapM fun f => DataW.trod enc P W 0 spare held fuel f.type ((cs.drop f.offset).take (P.cellsOf f.type)) with
        | none => rw [hm] at hd'; cases hd'
        | some xs =>
          have := open_fields n fs.toList 0 (.pair x y) h2 fuel cs (by rw [hl, hc]; simp) xs hm
          simpa using this
      · cases hd'
    · rename_i m T' x y hu
      simp only [Bool.and_eq_true] at h
      obtain ⟨⟨⟨h1, h2⟩, h3⟩, h4⟩ := h
      have hc := nbeq_true h1
      have hty : Ty.pair x y = Ty.arr x m := of_decide_eq_true h2
      have he := nbeq_true h3
      rw [hu] at hd
      have hd' : (if cs.length = P.cellsOf T then ((List.range m).mapM fun i => DataW.trod enc P W 0 spare held fuel T' ((cs.drop (i * P.cellsOf T')).take (P.cellsOf T'))).map fun xs => ((DataW.agg (xs.map (·.1)) : DataW H), xs.flatMap (·.2)) else none) = some (d, ps) := by
        match cs, hd with
        | [], hd => exact hd
        | [_], hd => exact hd
        | _ :: _ :: _, hd => exact hd
      split at hd'
      · rename_i hl
        cases hm : (List.range m).mapM fun i => DataW.trod enc P W 0 spare held fuel T' ((cs.drop (i * P.cellsOf T')).take (P.cellsOf T')) with
        | none => rw [hm] at hd'; cases hd'
        | some xs =>
          have hm0 : 0 < m := by
            cases m with
            | zero => simp [Ty.arr] at hty
            | succ m => omega
          have hsz : (Ty.arr x m).sz = m * x.sz := arr_sz x m
          have hlen : cs.length = m * x.sz := by rw [hl, hc, hty, hsz]
          rw [hty]
          refine rep_arr m cs hm0 hlen fun i hi => ?_
          obtain ⟨z, hz⟩ := mapM_get hm i i (by simp [hi])
          rw [he] at hz
          exact open_ty n T' x h4 fuel _ z.1 z.2 hz
      · cases hd'
    · cases h

theorem open_fields : (n : Nat) → (l : List Field) → (off : Nat) → (t : Ty) → shpF P n l off t = true → ∀ (fuel : Nat) (cs : List Value), cs.length = off + t.sz → ∀ xs : List (DataW H × List MemPlace),
    (l.mapM fun f => DataW.trod enc P W 0 spare held fuel f.type ((cs.drop f.offset).take (P.cellsOf f.type))) = some xs → ∃ x : t.den, Rep P t W (fun b => b < W.heap.size) (cs.drop off) x ∧ t.wf x
  | 0, l, off, t, h, fuel, cs, hl, xs, hm => by simp [shpF] at h
  | n + 1, [], off, t, h, fuel, cs, hl, xs, hm => by cases t <;> simp [shpF] at h
  | n + 1, [f], off, t, h, fuel, cs, hl, xs, hm => by
    rw [shpF] at h
    simp only [Bool.and_eq_true] at h
    obtain ⟨⟨h1, h2⟩, h3⟩ := h
    have e1 := nbeq_true h1
    have e2 := nbeq_true h2
    obtain ⟨y, r, g1, _, _⟩ := mapM_cons_some hm
    rw [e1, e2, List.take_of_length_le (by simp; omega)] at g1
    exact open_ty n f.type t h3 fuel _ y.1 y.2 g1
  | n + 1, f :: g :: r, off, t, h, fuel, cs, hl, xs, hm => by
    cases t with
    | pair a b =>
      rw [shpF] at h
      simp only [Bool.and_eq_true] at h
      obtain ⟨⟨⟨h1, h2⟩, h3⟩, h4⟩ := h
      have e1 := nbeq_true h1
      have e2 := nbeq_true h2
      obtain ⟨y, r', g1, g2, _⟩ := mapM_cons_some hm
      rw [e1, e2] at g1
      obtain ⟨x1, k1, k2⟩ := open_ty n f.type a h3 fuel _ y.1 y.2 g1
      obtain ⟨x2, k3, k4⟩ := open_fields n (g :: r) (off + a.sz) b h4 fuel cs (by rw [hl]; simp [Ty.sz]; omega) r' g2
      refine ⟨(x1, x2), ⟨k1, ?_⟩, k2, k4⟩
      rw [List.drop_drop]
      exact k3
    | _ => simp [shpF] at h
end

end
end Go.Abs

set_option linter.unusedSimpArgs false
set_option linter.unusedVariables false
namespace Go.Abs
open Go Go.ChangeShapes Go.WideShapes Go.RowKit
variable {P : Program}

def wfL : (ts : List Ty) → denL ts → Prop
  | [], _ => True
  | [t], x => t.wf x
  | t :: u :: ts, (x, y) => t.wf x ∧ wfL (u :: ts) y

def shpL (P : Program) (n : Nat) : List Nat → List Ty → Bool
  | [], [] => true
  | T :: Ts, t :: ts => shp P n T t && shpL P n Ts ts
  | _, _ => false

theorem shp_val {n T : Nat} {t : Ty} (h : shp P n T t = true) {w : World} {r : Reach} {b0 : Nat} {v : Value} (hv : Value.okWide P w r b0 T v) : v = t.val v.cells.toList := by
  cases n with
  | zero => simp [shp] at h
  | succ n =>
    unfold shp at h
    split at h
    · rename_i k k' hu
      obtain ⟨m, rfl⟩ := okWide_int hu hv
      rfl
    · rename_i hu
      obtain ⟨m, rfl⟩ := okWide_bool hu hv
      rfl
    · rename_i hu
      obtain ⟨m, rfl⟩ := okWide_string hu hv
      rfl
    · rename_i hu
      obtain ⟨a, l, c, rfl⟩ := okWide_slice hu hv
      rfl
    · rename_i hu
      obtain ⟨cs, rfl, _⟩ := okWide_struct hu hv
      simp [Ty.val, Ty.isPair, Value.cells]
    · rename_i hu
      unfold Value.okWide at hv
      rw [hu] at hv
      obtain ⟨cs, rfl, _⟩ := hv
      simp [Ty.val, Ty.isPair, Value.cells]
    · cases h

section
variable {H : Type} {enc : TypeId × Value → H} {W : World} {spare : Nat → Bool} {held : Bool}

theorem open_args (n : Nat) : (Ts : List Nat) → (ts : List Ty) → shpL P n Ts ts = true → ∀ (vs : List Value) (ds : List (DataW H)) (ps : List MemPlace) (b0 : Nat),
    (∀ (j : Nat) T v, Ts[j]? = some T → vs[j]? = some v → Value.okWide P W .any b0 T v) → DataW.TrodAll enc P W 0 spare held Ts vs ds ps →
    ∃ x : denL ts, ArgsRep P W (fun b => b < W.heap.size) ts vs x ∧ wfL ts x
  | [], [], _, vs, ds, ps, b0, _, h => by
    obtain ⟨rfl, _⟩ := trodAll_nil h
    exact ⟨(), rfl, trivial⟩
  | [T], [t], hs, vs, ds, ps, b0, hv, h => by
    obtain ⟨v, vs', d, ds', p, q, rfl, rfl, rfl, h1, h2⟩ := trodAll_cons h
    obtain ⟨rfl, _⟩ := trodAll_nil h2
    simp only [shpL, Bool.and_true] at hs
    obtain ⟨fuel, h1⟩ := h1
    obtain ⟨x, k1, k2⟩ := open_ty n T t hs fuel _ d p h1
    exact ⟨x, ⟨_, by rw [← shp_val hs (hv 0 T v rfl rfl)], k1⟩, k2⟩
  | T :: U :: Ts, t :: u :: ts, hs, vs, ds, ps, b0, hv, h => by
    obtain ⟨v, vs', d, ds', p, q, rfl, rfl, rfl, h1, h2⟩ := trodAll_cons h
    rw [shpL] at hs
    simp only [Bool.and_eq_true] at hs
    obtain ⟨hs1, hs2⟩ := hs
    obtain ⟨fuel, h1⟩ := h1
    obtain ⟨x, k1, k2⟩ := open_ty n T t hs1 fuel _ d p h1
    obtain ⟨y, k3, k4⟩ := open_args n (U :: Ts) (u :: ts) hs2 vs' ds' q b0 (fun j T' v' hT hv' => hv (j + 1) T' v' (by simpa using hT) (by simpa using hv')) h2
    exact ⟨(x, y), ⟨v.cells.toList, vs', by rw [← shp_val hs1 (hv 0 T v rfl rfl)], k1, k3⟩, k2, k4⟩
  | [], _ :: _, hs, _, _, _, _, _, _ => by simp [shpL] at hs
  | _ :: _, [], hs, _, _, _, _, _, _ => by simp [shpL] at hs
  | [_], _ :: _ :: _, hs, _, _, _, _, _, _ => by simp [shpL] at hs
  | _ :: _ :: _, [_], hs, _, _, _, _, _, _ => by simp [shpL] at hs

theorem trodAll_stays {W' : World} (hl : laidOutB P = true) (hb : Below W.heap.size W W') : (Ts : List Nat) → (∀ T ∈ Ts, P.readableRec T = true ∧ T < P.types.size) → ∀ (vs : List Value) (ds : List (DataW H)) (ps : List MemPlace),
    DataW.TrodAll enc P W 0 (fun _ => true) true Ts vs ds ps → (∀ x ∈ ps, x.block < W.heap.size) → DataW.TrodAll enc P W' 0 (fun b => decide (b < W.heap.size)) true Ts vs ds ps
  | [], _, vs, ds, ps, h, _ => by
    obtain ⟨rfl, rfl, rfl⟩ := trodAll_nil h
    rfl
  | T :: Ts, hT, vs, ds, ps, h, hlt => by
    obtain ⟨v, vs', d, ds', p, q, rfl, rfl, rfl, h1, h2⟩ := trodAll_cons h
    obtain ⟨g1, g2⟩ := hT T (List.mem_cons_self ..)
    refine ⟨p, q, Below.trod hl g1 g2 h1 hb (fun x hx => hlt x (List.mem_append_left _ hx)), ?_, rfl⟩
    exact trodAll_stays hl hb Ts (fun T' h' => hT T' (List.mem_cons_of_mem _ h')) vs' ds' q h2 (fun x hx => hlt x (List.mem_append_right _ hx))
end

theorem Keeps.below {w w' : World} (h : Keeps w w') : Below w.heap.size w w' := ⟨h.os, h.tape, h.output, h.size, h.block⟩

theorem law_lifted {C : Checked} {os : Os} {f : FuncId} {fn : Func} {s : ChangeSpec} {ins : List Ty} {Ts : List Nat} {tb : Nat} {g : Nat → denL ins → Option Bool} {nn : Nat} {apart : Bool}
    {H : Type} {enc : TypeId × Value → H}
    (own : ownKnob C.prog.godebug = none) (started : os.Started) (noInit : C.prog.inits.idxOf? f = none) (hfn : C.prog.funcs[f]? = some fn)
    (witness : ∃ (w : World) (tape : Tape) (i : Input), w.os = os ∧ (w.forCall tape i).Shaped C.prog ∧ i.vars = [] ∧ Input.okWide C.prog (w.forCall tape i) .any w.heap.size f i ∧
      s.pre6 enc C.prog fn [] apart (w.forCall tape i).memory i.args ∧ ({} : Assume).holds C.prog (lone (Frame.enter C.prog f i.args .normal) [] (w.forCall tape i)))
    (hpar : fn.params.toList = Ts) (hres : fn.resultTypes = #[tb]) (hb : C.prog.underlying tb = some .bool) (hl : laidOutB C.prog = true)
    (hsh : shpL C.prog nn Ts ins = true) (hrd : (Ts.all fun T => C.prog.readableRec T && decide (T < C.prog.types.size)) = true) (hvars : s.vars = [])
    (hspec : ∀ (ds : List (DataW H)), ds.length = Ts.length → s.fn H ds = { results := [.lit (.bool true)], args := ds })
    (hcon : ∀ n, ConOK C.prog f ⟨ins, [], [.bool], fun x _ => g n x, false⟩)
    (hplain : ∀ x, wfL ins x → ∃ n, g n x = some true) :
    ReturnsInHanded {} C os f .any (s.pre6 enc C.prog fn [] apart) (s.post enc C.prog fn apart true false false) := by
  refine returnsInHanded_of_change own started noInit hfn witness ?_
  intro W base args ds gs before hval hW _ _
  have hW' := hW
  obtain ⟨p, q, hA, hV, rfl, _, _⟩ := hW
  rw [hvars] at hV
  have hgs : gs = [] ∧ q = [] := by
    cases gs with
    | nil => exact ⟨rfl, hV⟩
    | cons a b => simp [DataW.TrodVars] at hV
  obtain ⟨rfl, rfl⟩ := hgs
  rw [hpar] at hA
  have hlen : ds.length = Ts.length := by
    have : ∀ (Ts : List Nat) (vs : List Value) (ds : List (DataW H)) ps, DataW.TrodAll enc C.prog W 0 (fun _ => true) true Ts vs ds ps → ds.length = Ts.length := by
      intro Ts
      induction Ts with
      | nil => intro vs ds ps h; obtain ⟨_, rfl, _⟩ := trodAll_nil h; rfl
      | cons T Ts ih =>
        intro vs ds ps h
        obtain ⟨v, vs', d, ds', p, q, rfl, rfl, rfl, h1, h2⟩ := trodAll_cons h
        simp [ih _ _ _ h2]
    exact this _ _ _ _ hA
  obtain ⟨x, hx, hwf⟩ := open_args nn Ts ins hsh args.toList ds p base (fun j T v hT hv => by
    refine hval j T v ?_ (by simpa using hv)
    have : fn.params.toList[j]? = some T := by rw [hpar]; exact hT
    simpa using this) hA
  obtain ⟨n, hn⟩ := hplain x hwf
  obtain ⟨_, hc⟩ := hcon n
  have hcall := hc W _ args.toList [] x () true hx rfl hn
  simp only [List.append_nil, Array.toArray_toList] at hcall
  refine hcall.mono ?_
  rintro e w' ⟨v, rfl, hk, hr, _⟩
  obtain ⟨cs, rfl, hr⟩ := hr
  simp only [Rep] at hr
  subst hr
  have hbl := hk.below
  refine ⟨_, rfl, ds, [], p ++ [], [], p, [], hW', ?_, ?_, ?_, ?_, fun h => (by cases h)⟩
  · rw [hres]
    have : s.fn H (ds ++ []) = { results := [.lit (.bool true)], args := ds } := by rw [List.append_nil]; exact hspec ds hlen
    rw [this]
    exact trodAll_mk1 (shut_bool hb true)
  · have : s.fn H (ds ++ []) = { results := [.lit (.bool true)], args := ds } := by rw [List.append_nil]; exact hspec ds hlen
    rw [this, hpar]
    refine trodAll_stays hl hbl Ts (fun T hT => ?_) _ _ _ hA (fun x hx => hW'.lt x (List.mem_append_left _ hx))
    have := List.all_eq_true.1 hrd T hT
    simpa using this
  · have : s.fn H (ds ++ []) = { results := [.lit (.bool true)], args := ds } := by rw [List.append_nil]; exact hspec ds hlen
    rw [this, hvars]
    rfl
  · exact hbl.frame _

end Go.Abs

set_option linter.unusedSimpArgs false
set_option linter.unusedVariables false
namespace Go.Abs
open Go

theorem wrap_id {x : Int} (h1 : -9223372036854775808 ≤ x) (h2 : x ≤ 9223372036854775807) : IntKind.wrap .i64 x = x := by
  simp [IntKind.wrap, IntKind.bits, IntKind.signed]
  omega

theorem wrap_lo (x : Int) : -9223372036854775808 ≤ IntKind.wrap .i64 x := by
  simp [IntKind.wrap, IntKind.bits, IntKind.signed]
  omega
theorem wrap_hi (x : Int) : IntKind.wrap .i64 x ≤ 9223372036854775807 := by
  simp [IntKind.wrap, IntKind.bits, IntKind.signed]
  omega

theorem geti_nat {α : Type} (l : List α) (i : Nat) : geti l (i : Int) = l[i]? := by simp [geti]
theorem geti_neg {α : Type} {l : List α} {i : Int} (h : i < 0) : geti l i = none := by
  unfold geti
  rw [if_neg (by omega)]
theorem geti_of {α : Type} {l : List α} {i : Int} (h0 : 0 ≤ i) (h1 : i < (l.length : Int)) : geti l i = some (l[i.toNat]'(by omega)) := by
  unfold geti
  rw [if_pos h0, List.getElem?_eq_getElem]
theorem seti_nat {α : Type} (l : List α) (i : Nat) (x : α) (h : i < l.length) : seti l (i : Int) x = some (l.set i x) := by
  unfold seti
  rw [if_pos ⟨by omega, by simpa using h⟩]
  simp
theorem cut_nat {α : Type} (l : List α) (i j : Nat) (h : i ≤ j) (hj : j ≤ l.length) : cut l (i : Int) (j : Int) = some ((l.take j).drop i) := by
  unfold cut
  rw [if_pos ⟨by omega, by omega, by omega⟩]
  simp
theorem cut_zero {α : Type} (l : List α) (j : Nat) (hj : j ≤ l.length) : cut l 0 (j : Int) = some (l.take j) := by
  have := cut_nat l 0 j (Nat.zero_le _) hj
  simpa using this
theorem chk_ok {n : Nat} (h : n ≤ 4294967296) : chk n = some () := by unfold chk most; rw [if_pos h]
theorem chki_ok {n : Int} (h0 : 0 ≤ n) (h : n ≤ 4294967296) : chki n = some () := by
  unfold chki most
  rw [if_pos ⟨h0, by simpa using h⟩]

theorem part_false {α : Type} (m : Option α) (d : α) : part false m d = some d := rfl

section
variable {D Ks R : Type} {body : D → (D → Option R) → Ks → Option R} {ks : Ks}

/-- A loop, by a relation between what stands in the slots and the result, and a measure. -/
theorem loop_rule (I : D → Option R → Prop) (μ : D → Nat)
    (h : ∀ d r, I d r → ∀ again, (∀ d' r', I d' r' → μ d' < μ d → again d' = r') → body d again ks = r) :
    ∀ (n : Nat) (d : D) (r : Option R), I d r → μ d < n → loopG body n d ks = r := by
  intro n
  induction n with
  | zero => intro d r _ hn; omega
  | succ n ih =>
    intro d r hI hn
    exact h d r hI _ fun d' r' hI' hm => ih d' r' hI' (by omega)

/-- A loop over a list, with what is gathered. -/
theorem list_loop {α A : Type} {n : Nat} (l : List α) (F : Nat → A → D) (G : Nat → A → List α → Option R) (Inv : Nat → A → Prop) (hl : l.length ≤ maxLen)
    (hs : ∀ i acc x r, i < l.length → l[i]? = some x → l.drop i = x :: r → geti l (i : Int) = some x → decide ((i : Int) < (l.length : Int)) = true → IntKind.wrap .i64 ((i : Int) + 1) = ((i + 1 : Nat) : Int) → Inv i acc →
      ∀ again, (∀ acc', Inv (i + 1) acc' → again (F (i + 1) acc') = G (i + 1) acc' r) → body (F i acc) again ks = G i acc (x :: r))
    (he : ∀ acc, decide ((l.length : Int) < (l.length : Int)) = false → Inv l.length acc → ∀ again, body (F l.length acc) again ks = G l.length acc [])
    (acc : A) (h0 : Inv 0 acc) (hn : l.length < n) : loopG body n (F 0 acc) ks = G 0 acc l := by
  have key : ∀ (m i : Nat) (acc : A), i ≤ l.length → Inv i acc → l.length - i < m → loopG body m (F i acc) ks = G i acc (l.drop i) := by
    intro m
    induction m with
    | zero => intro i acc _ _ h; omega
    | succ m ih =>
      intro i acc hi hI hm
      rw [loopG]
      by_cases h : i = l.length
      · subst h
        rw [List.drop_length]
        exact he acc (by simp) hI _
      · have hlt : i < l.length := by omega
        have hd : l.drop i = l[i] :: l.drop (i + 1) := List.drop_eq_getElem_cons hlt
        rw [hd]
        refine hs i acc l[i] (l.drop (i + 1)) hlt (List.getElem?_eq_getElem hlt) hd (by rw [geti_nat, List.getElem?_eq_getElem hlt]) (by simpa using hlt) (by rw [wrap_id] <;> unfold maxLen at hl <;> omega) hI _ fun acc' hI' => ?_
        exact ih (i + 1) acc' (by omega) hI' (by omega)
  have := key n 0 acc (Nat.zero_le _) h0 (by omega)
  simpa using this

theorem list_loop0 {α : Type} {n : Nat} (l : List α) (F : Nat → D) (G : Nat → List α → Option R) (hl : l.length ≤ maxLen)
    (hs : ∀ i x r, i < l.length → l[i]? = some x → l.drop i = x :: r → geti l (i : Int) = some x → decide ((i : Int) < (l.length : Int)) = true → IntKind.wrap .i64 ((i : Int) + 1) = ((i + 1 : Nat) : Int) →
      ∀ again, again (F (i + 1)) = G (i + 1) r → body (F i) again ks = G i (x :: r))
    (he : decide ((l.length : Int) < (l.length : Int)) = false → ∀ again, body (F l.length) again ks = G l.length [])
    (hn : l.length < n) : loopG body n (F 0) ks = G 0 l :=
  list_loop (A := Unit) l (fun i _ => F i) (fun i _ r => G i r) (fun _ _ => True) hl (fun i _ x r h1 h2 h3 h4 h5 h6 _ again ih => hs i x r h1 h2 h3 h4 h5 h6 again (ih () trivial)) (fun _ h _ again => he h again) () trivial hn

/-- A loop over the numbers below one. -/
theorem count_loop {A : Type} {n : Nat} (len : Nat) (F : Nat → A → D) (G : Nat → A → Option R) (Inv : Nat → A → Prop) (hl : len ≤ maxLen)
    (hs : ∀ i acc, i < len → decide ((i : Int) < (len : Int)) = true → IntKind.wrap .i64 ((i : Int) + 1) = ((i + 1 : Nat) : Int) → Inv i acc →
      ∀ again, (∀ acc', Inv (i + 1) acc' → again (F (i + 1) acc') = G (i + 1) acc') → body (F i acc) again ks = G i acc)
    (he : ∀ acc, decide ((len : Int) < (len : Int)) = false → Inv len acc → ∀ again, body (F len acc) again ks = G len acc)
    (acc : A) (h0 : Inv 0 acc) (hn : len < n) : loopG body n (F 0 acc) ks = G 0 acc := by
  have key : ∀ (m i : Nat) (acc : A), i ≤ len → Inv i acc → len - i < m → loopG body m (F i acc) ks = G i acc := by
    intro m
    induction m with
    | zero => intro i acc _ _ h; omega
    | succ m ih =>
      intro i acc hi hI hm
      rw [loopG]
      by_cases h : i = len
      · subst h
        exact he acc (by simp) hI _
      · have hlt : i < len := by omega
        refine hs i acc hlt (by simpa using hlt) (by rw [wrap_id] <;> unfold maxLen at hl <;> omega) hI _ fun acc' hI' => ?_
        exact ih (i + 1) acc' (by omega) hI' (by omega)
  exact key n 0 acc (Nat.zero_le _) h0 (by omega)
end

theorem cast_pred {n : Nat} (h : 0 < n) (hm : n ≤ maxLen) : IntKind.wrap .i64 ((n : Int) - 1) = ((n - 1 : Nat) : Int) := by
  unfold maxLen at hm
  rw [wrap_id] <;> omega

theorem bif_eq {α : Type} (b : Bool) (x y : α) : (bif b then x else y) = if b = true then x else y := by cases b <;> rfl

end Go.Abs

namespace Go.Abs
open Go
theorem root_run {w : World} {x r : Nat} (hr : FloatKind.f64.format.sqrt x = some r) : (callFunc 92 #[.float .f64 x]).run Go.Proofs.Try.prog w = .ok (.value (.float .f64 r)) w := by
  rw [run_callFunc_extern (e := Extern.MathSqrt.sqrt) Go.Proofs.Try.func92 (by kernel_rfl) (by kernel_rfl) (by kernel_rfl) (by kernel_rfl)]
  have h1 : Extern.MathSqrt.sqrt #[.float .f64 x] = (match FloatKind.f64.format.sqrt x with
    | some r => pure (.float .f64 r)
    | none => do pure (.float .f64 (← choose (.nanBits .f64 x x)))) := rfl
  rw [h1, hr]
  rfl

theorem root_call {w : World} {x r : Nat} (hr : FloatKind.f64.format.sqrt x = some r) : Calls Go.Proofs.Try.prog 91 #[.float .f64 x] w fun e w' => e = .returned (.float .f64 r) ∧ w' = w := by
  have hc := @root_run (x := x) (r := r) (hr := hr)
  go_enter Go.Proofs.Try.func91, Go.Proofs.Try.ntmps91
  go_wp2
  go_ret
  exact ⟨rfl, rfl⟩

theorem root91 : SqrtOK Go.Proofs.Try.prog 91 := by
  refine ⟨⟨_, Go.Proofs.Try.func91, by kernel_rfl, by kernel_rfl⟩, fun w x r hr => ?_⟩
  refine Calls.mono (root_call hr) ?_
  rintro e w' ⟨h1, h2⟩
  subst h2
  exact ⟨h1, rfl, rfl, rfl, Nat.le_refl _, fun _ _ => rfl⟩
end Go.Abs

namespace Go.Proofs
open Go.Shelf
def Try.lays189_ren : Go.Shelf.Ren := ⟨fun | 189 => 33 | 125 => 54 | 257 => 53 | 128 => 77 | 129 => 78 | 294 => 68 | 295 => 69 | 296 => 70 | 297 => 71 | 298 => 72 | 299 => 73 | 216 => 74 | 300 => 75 | 301 => 76 | 328 => 83 | 329 => 84 | 330 => 85 | 331 => 86 | 332 => 87 | 215 => 88 | 343 => 90 | n => n, fun | 28 => 38 | 3 => 3 | 46 => 81 | 0 => 0 | 51 => 108 | 53 => 110 | 4 => 4 | 183 => 122 | 182 => 121 | 131 => 126 | 5 => 5 | 9 => 9 | 218 => 130 | 222 => 133 | 228 => 135 | 229 => 59 | n => n, fun | n => n⟩
theorem Try.lays189 : Go.Proofs.Lays.n189 Try.prog Try.lays189_ren := {
  mixed := by kernel_rfl
  f125 := Try.func54.trans (congrArg some (by kernel_rfl))
  f128 := Try.func77.trans (congrArg some (by kernel_rfl))
  f129 := Try.func78.trans (congrArg some (by kernel_rfl))
  f189 := Try.func33.trans (congrArg some (by kernel_rfl))
  f215 := Try.func88.trans (congrArg some (by kernel_rfl))
  f216 := Try.func74.trans (congrArg some (by kernel_rfl))
  f257 := Try.func53.trans (congrArg some (by kernel_rfl))
  f294 := Try.func68.trans (congrArg some (by kernel_rfl))
  f295 := Try.func69.trans (congrArg some (by kernel_rfl))
  f296 := Try.func70.trans (congrArg some (by kernel_rfl))
  f297 := Try.func71.trans (congrArg some (by kernel_rfl))
  f298 := Try.func72.trans (congrArg some (by kernel_rfl))
  f299 := Try.func73.trans (congrArg some (by kernel_rfl))
  f300 := Try.func75.trans (congrArg some (by kernel_rfl))
  f301 := Try.func76.trans (congrArg some (by kernel_rfl))
  f328 := Try.func83.trans (congrArg some (by kernel_rfl))
  f329 := Try.func84.trans (congrArg some (by kernel_rfl))
  f330 := Try.func85.trans (congrArg some (by kernel_rfl))
  f331 := Try.func86.trans (congrArg some (by kernel_rfl))
  f332 := Try.func87.trans (congrArg some (by kernel_rfl))
  f343 := Try.func90.trans (congrArg some (by kernel_rfl))
  t0 := Try.underlying0
  a0 := Try.isAgg0
  z0 := Try.sizeOf0
  v0 := Try.zeroValue0
  t3 := Try.underlying3
  a3 := Try.isAgg3
  z3 := Try.sizeOf3
  v3 := Try.zeroValue3
  t4 := Try.underlying4
  a4 := Try.isAgg4
  z4 := Try.sizeOf4
  v4 := Try.zeroValue4
  t5 := Try.underlying5
  a5 := Try.isAgg5
  z5 := Try.sizeOf5
  v5 := Try.zeroValue5
  t9 := Try.underlying9
  a9 := Try.isAgg9
  z9 := Try.sizeOf9
  v9 := Try.zeroValue9
  t28 := Try.underlying38
  a28 := Try.isAgg38
  z28 := Try.sizeOf38
  v28 := Try.zeroValue38
  t46 := Try.underlying81
  a46 := Try.isAgg81
  z46 := Try.sizeOf81
  v46 := Try.zeroValue81
  t51 := Try.underlying108
  a51 := Try.isAgg108
  z51 := Try.sizeOf108
  v51 := Try.zeroValue108
  t53 := Try.underlying110
  a53 := Try.isAgg110
  z53 := Try.sizeOf110
  v53 := Try.zeroValue110
  t131 := Try.underlying126
  a131 := Try.isAgg126
  z131 := Try.sizeOf126
  v131 := Try.zeroValue126
  t182 := Try.underlying121
  a182 := Try.isAgg121
  z182 := Try.sizeOf121
  v182 := Try.zeroValue121
  t183 := Try.underlying122
  a183 := Try.isAgg122
  z183 := Try.sizeOf122
  v183 := Try.zeroValue122
  t218 := Try.underlying130
  a218 := Try.isAgg130
  z218 := Try.sizeOf130
  v218 := Try.zeroValue130
  t222 := Try.underlying133
  a222 := Try.isAgg133
  z222 := Try.sizeOf133
  v222 := Try.zeroValue133
  t228 := Try.underlying135
  a228 := Try.isAgg135
  z228 := Try.sizeOf135
  v228 := Try.zeroValue135
  t229 := Try.underlying59
  a229 := Try.isAgg59
  z229 := Try.sizeOf59
  v229 := Try.zeroValue59 }
open Go.Sort Go.RowKit in
theorem Try.slices_Sort_int (blk off cap : Nat) (zs : List Int) (w : World) (hH : Holds (Value.int .i64) w blk off zs.toArray) (hblk : blk < w.heap.size) (hsz : zs.length < 4611686018427387904) :
    Calls Try.prog 33 #[.slice (some ⟨blk, off, none⟩) zs.length cap] w fun e w' =>
      e = .returned (.tuple #[]) ∧ ∃ n os, w' = grow (putRow (Value.int .i64) (Sort.ahead w n) blk off (zs.mergeSort fun x y => decide (x ≤ y)).toArray) os := Any.slices_Sort_int Try.lays189 blk off cap zs w hH hblk hsz
def Try.laysNm220_ren : Go.Shelf.Ren := ⟨fun | 20 => 34 | n => n, fun | 22 => 38 | 3 => 3 | 4 => 4 | 0 => 0 | n => n, fun | n => n⟩
theorem Try.laysNm220 : Go.Proofs.Lays2.n20 Try.prog Try.laysNm220_ren := {
  mixed := by kernel_rfl
  f20 := Try.func34.trans (congrArg some (by kernel_rfl))
  t0 := Try.underlying0
  a0 := Try.isAgg0
  z0 := Try.sizeOf0
  v0 := Try.zeroValue0
  t3 := Try.underlying3
  a3 := Try.isAgg3
  z3 := Try.sizeOf3
  v3 := Try.zeroValue3
  t4 := Try.underlying4
  a4 := Try.isAgg4
  z4 := Try.sizeOf4
  v4 := Try.zeroValue4
  t22 := Try.underlying38
  a22 := Try.isAgg38
  z22 := Try.sizeOf38
  v22 := Try.zeroValue38
  i3 := by kernel_rfl }
open Go.RowKit Go.Lib Go.Sort in
/-- slices.Compact at []int: "Compact replaces consecutive runs of equal elements with a single copy. This is like the uniq command found on Unix. Compact modifies the contents of the slice s and returns the modified slice, which may have a smaller length. Compact zeroes the elements between the new length and the original length. The result preserves the nilness of s.": IT RETURNS THE SLICE CUT TO 'Lib.compact zs'; ITS CELLS HOLD 'Lib.compact zs', THEN ZERO VALUES up to the old length; all else is as it was, but for the count of draws. IN THE WORDS OF slices.Sort's CONTRACT ('Holds', 'putRow'): so the everyday 'slices.Sort(xs); xs = slices.Compact(xs)' goes from the one contract to the other. It asks 'zs.length ≤ cap' (every slice's: the reslicing 's[:k]' looks at it). Length 0, nil: '.._empty'. (LAID: no walk: one application.) -/
theorem Try.slices_Compact_int (blk off cap : Nat) (zs : List Int) (w : World) (hH : Holds (Value.int .i64) w blk off zs.toArray) (hsz : zs.length ≤ 9223372036854775807) (hcap : zs.length ≤ cap) :
    Calls Try.prog 34 #[.slice (some ⟨blk, off, none⟩) zs.length cap] w fun e w' => e = .returned (.slice (some ⟨blk, off, none⟩) (Lib.compact zs).length cap) ∧ ∃ q, w' = putRow (Value.int .i64) (Sort.ahead w q) blk off (Lib.compact zs ++ List.replicate (zs.length - (Lib.compact zs).length) 0).toArray := Any.slices_Compact_int Try.laysNm220 blk off cap zs w hH hsz hcap
open Go.RowKit Go.Lib Go.Sort in
/-- The same at a slice of length 0, a nil one too: it comes back as it is. (LAID: no walk: one application.) -/
theorem Try.slices_Compact_int_empty (a : Option Addr) (cap : Nat) (w : World) :
    Calls Try.prog 34 #[.slice a 0 cap] w fun e w' => e = .returned (.slice a 0 cap) ∧ w' = w := Any.slices_Compact_int_empty Try.laysNm220 a cap w
open Go.RowKit Go.Sort in
/-- .. and plain. (LAID: no walk: one application.) -/
theorem Try.slices_Sort_int_none (p : Option Addr) (cap : Nat) (w : World) :
    Calls Try.prog 33 #[.slice p 0 cap] w fun e w' => e = .returned (.tuple #[]) ∧ w' = w := Any.slices_Sort_int_none Try.lays189 p cap w
end Go.Proofs

set_option linter.unusedVariables false
set_option linter.unusedSimpArgs false
namespace Go.Abs
open Go Go.Sort

/-- slices.Sort at []int. -/
def s33 (n : Nat) (l : List Int) : Option (List Int) := (chk (List.length l)).bind fun _ => some (l.mergeSort fun x y => decide (x ≤ y))

def s33_c (n : Nat) : MCon := ⟨.int .i64, [], fun l _ => s33 n l, false⟩

theorem sort_call {w : World} {ok : Nat → Prop} {v : Value} {l l' : List Int} (ho : OwnBuf Go.Proofs.Try.prog w ok (.int .i64) v l) (hr : s33 0 l = some l') :
    Calls Go.Proofs.Try.prog 33 #[v] w fun e w' => ∃ r, e = .returned r ∧ KeepsBut v w w' ∧ r = .tuple #[] ∧ OwnBuf Go.Proofs.Try.prog w' (newOk ok w) (.int .i64) v l' := by
  have hne : List.length l ≤ most ∧ l' = l.mergeSort fun x y => decide (x ≤ y) := by
    unfold s33 at hr
    unfold chk at hr
    split at hr
    · rename_i h
      simp only [Option.bind_some, Option.some.injEq] at hr
      exact ⟨h, hr.symm⟩
    · cases hr
  obtain ⟨hmost, rfl⟩ := hne
  rcases ho with ⟨rfl, rfl⟩ | ⟨b, off, cap, cs, T, rfl, h2, h3, h4, h5, h6⟩
  · refine (Go.Proofs.Try.slices_Sort_int_none none 0 w).mono ?_
    rintro e w' ⟨rfl, rfl⟩
    exact ⟨_, rfl, ⟨rfl, rfl, rfl, Nat.le_refl _, fun _ _ _ => rfl⟩, rfl, .inl ⟨rfl, by simp⟩⟩
  · have hlen : off + l.length ≤ cs.size := by
      simp only [Ty.sz, Nat.mul_one] at h5
      omega
    have hc : ∀ j (hj : j < l.length), cs[off + j]? = some (.int .i64 l[j]) := by
      intro j hj
      have h1 : chunk cs.toList (off + j * 1) 1 = [.int .i64 (l[j]'hj)] := h6 j _ (List.getElem?_eq_getElem hj)
      rw [Nat.mul_one] at h1
      have h2 : (chunk cs.toList (off + j) 1)[0]? = some (.int .i64 (l[j]'hj)) := by rw [h1]; rfl
      obtain ⟨_, h3⟩ := chunk_get h2
      simpa using h3
    have hH : Holds (Value.int .i64) w b off l.toArray := by
      intro j hj
      have hj' : j < l.length := by simpa using hj
      have e : l.toArray[j]! = l[j] := by rw [getElem!_pos _ j hj]; simp
      rw [e]
      refine ⟨?_, ?_⟩
      · unfold World.cell?
        simp only [h2]
        simpa using hc j hj'
      · unfold World.frozen?
        simp only [h2]
        simp
    have hb : b < w.heap.size := (Array.getElem?_eq_some_iff.1 h2).1
    have hl4 : l.length < 4611686018427387904 := by unfold most at hmost; omega
    refine (Go.Proofs.Try.slices_Sort_int b off cap l w hH hb hl4).mono ?_
    rintro e w' ⟨rfl, n, os, rfl⟩
    generalize hm : (l.mergeSort fun x y => decide (x ≤ y)) = m
    have hml : m.length = l.length := by rw [← hm]; exact List.length_mergeSort l
    have hheap : (grow (putRow (Value.int .i64) (Sort.ahead w n) b off m.toArray) os).heap = (w.heap.modify b (onCells (putCells (Value.int .i64) off m.toArray))) ++ os := rfl
    have hsz : (w.heap.modify b (onCells (putCells (Value.int .i64) off m.toArray))).size = w.heap.size := by simp
    have hget : ∀ k, k < w.heap.size → (grow (putRow (Value.int .i64) (Sort.ahead w n) b off m.toArray) os).heap[k]? = if b = k then (w.heap[k]?).map (onCells (putCells (Value.int .i64) off m.toArray)) else w.heap[k]? := by
      intro k hk
      rw [hheap, Array.getElem?_append_left (by rw [hsz]; exact hk), Array.getElem?_modify]
    refine ⟨_, rfl, ⟨rfl, rfl, rfl, ?_, fun k hk hne => ?_⟩, rfl, .inr ⟨b, off, cap, putCells (Value.int .i64) off m.toArray cs, T, by rw [hml], ?_, by rw [hml]; exact h3, h4, ?_, fun i x hi => ?_⟩⟩
    · rw [hheap, Array.size_append, hsz]; omega
    · rw [hget k hk, if_neg fun e => hne (by rw [e]; rfl)]
    · rw [hget b hb, if_pos rfl, h2]; rfl
    · simpa [putCells] using h5
    · have hil : i < m.length := (List.getElem?_eq_some_iff.1 hi).1
      have hlt : off + i < cs.size := by omega
      have hp : (putCells (Value.int .i64) off m.toArray cs)[off + i]? = some (.int .i64 x) := by
        unfold putCells
        rw [Array.getElem?_mapIdx, Array.getElem?_eq_getElem hlt]
        simp only [Option.map_some, Option.some.injEq]
        rw [if_pos ⟨by omega, by simp; omega⟩, show off + i - off = i by omega, getElem!_pos _ i (by simpa using hil)]
        have := (List.getElem?_eq_some_iff.1 hi).2
        simp [this]
      show chunk _ (off + i * 1) 1 = [.int .i64 x]
      rw [Nat.mul_one]
      have hl2 : off + i < (putCells (Value.int .i64) off m.toArray cs).toList.length := by simpa [putCells] using hlt
      rw [chunk_one hl2]
      rw [Array.getElem?_eq_getElem (by simpa using hl2)] at hp
      simpa using hp

theorem s33_ok (n : Nat) : MConOK Go.Proofs.Try.prog 33 (s33_c n) := by
  refine ⟨⟨_, Go.Proofs.Try.func33, by kernel_rfl, by kernel_rfl⟩, ?_⟩
  intro w ok v vs l y l' ho hy _ hr
  have : vs = [] := hy
  subst this
  refine (sort_call ho hr).mono ?_
  rintro e w' ⟨r, h1, h2, h3, h4⟩
  exact ⟨r, h1, h2, .inr ⟨rfl, h3, h4⟩⟩


/-- slices.Compact at []int. -/
def s34 (n : Nat) (l : List Int) : Option (List Int) := (chk (List.length l)).bind fun _ => some (Lib.compact l)

def s34_c (n : Nat) : MCon := ⟨.int .i64, [], fun l _ => s34 n l, true⟩

theorem compact_call {w : World} {ok : Nat → Prop} {v : Value} {l l' : List Int} (ho : OwnBuf Go.Proofs.Try.prog w ok (.int .i64) v l) (hr : s34 0 l = some l') :
    Calls Go.Proofs.Try.prog 34 #[v] w fun e w' => ∃ r, e = .returned r ∧ KeepsBut v w w' ∧ OwnBuf Go.Proofs.Try.prog w' (newOk ok w) (.int .i64) r l' ∧ ∀ b, blockOf r = some b → blockOf v = some b := by
  have hne : List.length l ≤ most ∧ l' = Lib.compact l := by
    unfold s34 at hr
    unfold chk at hr
    split at hr
    · rename_i h
      simp only [Option.bind_some, Option.some.injEq] at hr
      exact ⟨h, hr.symm⟩
    · cases hr
  obtain ⟨hmost, rfl⟩ := hne
  rcases ho with ⟨rfl, rfl⟩ | ⟨b, off, cap, cs, T, rfl, h2, h3, h4, h5, h6⟩
  · refine (Go.Proofs.Try.slices_Compact_int_empty none 0 w).mono ?_
    rintro e w' ⟨rfl, rfl⟩
    exact ⟨_, rfl, ⟨rfl, rfl, rfl, Nat.le_refl _, fun _ _ _ => rfl⟩, .inl ⟨rfl, by rfl⟩, fun b hb => hb⟩
  · have hlen : off + l.length ≤ cs.size := by
      simp only [Ty.sz, Nat.mul_one] at h5
      omega
    have hc : ∀ j (hj : j < l.length), cs[off + j]? = some (.int .i64 l[j]) := by
      intro j hj
      have h1 : chunk cs.toList (off + j * 1) 1 = [.int .i64 (l[j]'hj)] := h6 j _ (List.getElem?_eq_getElem hj)
      rw [Nat.mul_one] at h1
      have h2 : (chunk cs.toList (off + j) 1)[0]? = some (.int .i64 (l[j]'hj)) := by rw [h1]; rfl
      obtain ⟨_, h3⟩ := chunk_get h2
      simpa using h3
    have hH : Holds (Value.int .i64) w b off l.toArray := by
      intro j hj
      have hj' : j < l.length := by simpa using hj
      have e : l.toArray[j]! = l[j] := by rw [getElem!_pos _ j hj]; simp
      rw [e]
      refine ⟨?_, ?_⟩
      · unfold World.cell?
        simp only [h2]
        simpa using hc j hj'
      · unfold World.frozen?
        simp only [h2]
        simp
    have hb : b < w.heap.size := (Array.getElem?_eq_some_iff.1 h2).1
    have hl4 : l.length < 4611686018427387904 := by unfold most at hmost; omega
    refine (Go.Proofs.Try.slices_Compact_int b off cap l w hH (by omega) h3).mono ?_
    rintro e w' ⟨rfl, q, rfl⟩
    have hcl := Lib.compact_length_le l
    generalize hm : Lib.compact l ++ List.replicate (l.length - (Lib.compact l).length) 0 = m
    have hml : m.length = l.length := by rw [← hm]; simp; omega
    have hheap : (putRow (Value.int .i64) (Sort.ahead w q) b off m.toArray).heap = (w.heap.modify b (onCells (putCells (Value.int .i64) off m.toArray))) := rfl
    have hget : ∀ k, (putRow (Value.int .i64) (Sort.ahead w q) b off m.toArray).heap[k]? = if b = k then (w.heap[k]?).map (onCells (putCells (Value.int .i64) off m.toArray)) else w.heap[k]? := by
      intro k
      rw [hheap, Array.getElem?_modify]
    refine ⟨_, rfl, ⟨rfl, rfl, rfl, ?_, fun k hk hne => ?_⟩, .inr ⟨b, off, cap, putCells (Value.int .i64) off m.toArray cs, T, rfl, ?_, Nat.le_trans hcl h3, h4, ?_, fun i x hi => ?_⟩, fun b hb => hb⟩
    · rw [hheap]; simp
    · rw [hget k, if_neg fun e => hne (by rw [e]; rfl)]
    · rw [hget b, if_pos rfl, h2]; rfl
    · simpa [putCells] using h5
    · have hic : i < (Lib.compact l).length := (List.getElem?_eq_some_iff.1 hi).1
      have hil : i < m.length := by omega
      have hlt : off + i < cs.size := by omega
      have hmi : m[i]? = some x := by rw [← hm, List.getElem?_append_left hic]; exact hi
      have hp : (putCells (Value.int .i64) off m.toArray cs)[off + i]? = some (.int .i64 x) := by
        unfold putCells
        rw [Array.getElem?_mapIdx, Array.getElem?_eq_getElem hlt]
        simp only [Option.map_some, Option.some.injEq]
        rw [if_pos ⟨by omega, by simp; omega⟩, show off + i - off = i by omega, getElem!_pos _ i (by simpa using hil)]
        have := (List.getElem?_eq_some_iff.1 hmi).2
        simp [this]
      show chunk _ (off + i * 1) 1 = [.int .i64 x]
      rw [Nat.mul_one]
      have hl2 : off + i < (putCells (Value.int .i64) off m.toArray cs).toList.length := by simpa [putCells] using hlt
      rw [chunk_one hl2]
      rw [Array.getElem?_eq_getElem (by simpa using hl2)] at hp
      simpa using hp

theorem s34_ok (n : Nat) : MConOK Go.Proofs.Try.prog 34 (s34_c n) := by
  refine ⟨⟨_, Go.Proofs.Try.func34, by kernel_rfl, by kernel_rfl⟩, ?_⟩
  intro w ok v vs l y l' ho hy _ hr
  have : vs = [] := hy
  subst this
  refine (compact_call ho hr).mono ?_
  rintro e w' ⟨r, h1, h2, h3, h4⟩
  exact ⟨r, h1, h2, .inl ⟨rfl, h3, h4⟩⟩

end Go.Abs

set_option linter.unusedVariables false
namespace Go.Abs
open Go

theorem ones0 {w : World} : Calls Go.Proofs.Try.prog 57 #[.int .u64 0] w fun e w' => e = .returned (.int .i64 0) ∧ w' = w := by
  go_enter Go.Proofs.Try.func57, Go.Proofs.Try.ntmps57
  go_wp2
  go_ret
  exact ⟨by kernel_rfl, rfl⟩
theorem ones1 {w : World} : Calls Go.Proofs.Try.prog 57 #[.int .u64 1] w fun e w' => e = .returned (.int .i64 1) ∧ w' = w := by
  go_enter Go.Proofs.Try.func57, Go.Proofs.Try.ntmps57
  go_wp2
  go_ret
  exact ⟨by kernel_rfl, rfl⟩
theorem ones2 {w : World} : Calls Go.Proofs.Try.prog 57 #[.int .u64 2] w fun e w' => e = .returned (.int .i64 1) ∧ w' = w := by
  go_enter Go.Proofs.Try.func57, Go.Proofs.Try.ntmps57
  go_wp2
  go_ret
  exact ⟨by kernel_rfl, rfl⟩
theorem ones3 {w : World} : Calls Go.Proofs.Try.prog 57 #[.int .u64 3] w fun e w' => e = .returned (.int .i64 2) ∧ w' = w := by
  go_enter Go.Proofs.Try.func57, Go.Proofs.Try.ntmps57
  go_wp2
  go_ret
  exact ⟨by kernel_rfl, rfl⟩

/-- How many ones there are: of numbers up to 3. -/
def s57 (n : Nat) (x : Int) : Option Int := if x = 0 then some 0 else if x = 1 then some 1 else if x = 2 then some 1 else if x = 3 then some 2 else none

def s57_c (n : Nat) : Con := ⟨[.int .u64], [], [.int .i64], fun x _ => s57 n x, false⟩

theorem s57_ok (n : Nat) : ConOK Go.Proofs.Try.prog 57 (s57_c n) := by
  refine ⟨⟨_, Go.Proofs.Try.func57, by kernel_rfl, by kernel_rfl⟩, ?_⟩
  intro w ok vs cs x y r hx hy hr
  obtain ⟨us, rfl, h1⟩ := hx
  have hcs : cs = [] := hy
  subst hcs
  have e1 : us = [.int .u64 x] := h1
  subst e1
  have hr : s57 n x = some r := hr
  have key : Calls Go.Proofs.Try.prog 57 #[.int .u64 x] w fun e w' => e = .returned (.int .i64 r) ∧ w' = w := by
    unfold s57 at hr
    split at hr
    · rename_i h; subst h; cases hr; exact ones0
    split at hr
    · rename_i h; subst h; cases hr; exact ones1
    split at hr
    · rename_i h; subst h; cases hr; exact ones2
    split at hr
    · rename_i h; subst h; cases hr; exact ones3
    · cases hr
  refine (show Calls Go.Proofs.Try.prog 57 #[.int .u64 x] w _ from key.mono ?_)
  rintro e w' ⟨rfl, rfl⟩
  exact ⟨_, rfl, Keeps.refl _, ⟨[_], rfl, rfl⟩, fun h => by cases h⟩

end Go.Abs

set_option linter.unusedVariables false
namespace Go.Abs
open Go

def gT : List (Nat × TyE) := [(3, ⟨(.int .i64), 0, false⟩), (4, ⟨.bool, 0, false⟩), (5, ⟨(.int .u8), 0, false⟩), (9, ⟨.str, 0, false⟩), (22, ⟨(.slice (.pair (.int .i64) (.pair (.int .i64) (.int .i64)))), 0, false⟩), (24, ⟨(.pair .str (.pair (.int .i64) (.slice (.pair (.int .i64) (.pair (.int .i64) (.int .i64)))))), 3, false⟩), (30, ⟨(.pair (.int .i64) (.int .i64)), 2, false⟩), (31, ⟨(.int .i64), 0, false⟩), (38, ⟨(.slice (.int .i64)), 0, false⟩), (39, ⟨(.slice (.pair (.int .i64) (.int .i64))), 0, false⟩), (41, ⟨(.pair (.int .i64) (.pair (.int .i64) (.pair (.int .i64) (.pair (.slice (.int .i64)) (.slice (.pair (.int .i64) (.int .i64))))))), 5, false⟩), (42, ⟨(.slice (.pair .str (.pair (.int .i64) (.pair (.int .i64) (.int .i64))))), 0, false⟩), (43, ⟨(.slice (.pair (.int .i64) (.pair .str (.pair .str (.int .i64))))), 0, false⟩), (45, ⟨(.pair (.pair (.int .i64) (.int .i64)) (.pair (.slice (.pair .str (.pair (.int .i64) (.pair (.int .i64) (.int .i64))))) (.slice (.pair (.int .i64) (.pair .str (.pair .str (.int .i64))))))), 3, false⟩), (46, ⟨(.pair (.int .i64) (.int .i64)), 2, true⟩), (48, ⟨(.pair .str (.pair (.int .i64) (.pair (.int .i64) (.int .i64)))), 3, false⟩), (71, ⟨(.pair (.pair (.int .i64) (.int .i64)) (.pair (.slice (.pair .str (.pair (.int .i64) (.pair (.int .i64) (.int .i64))))) (.slice (.pair (.int .i64) (.pair .str (.pair .str (.int .i64))))))), 1, false⟩), (81, ⟨(.int .u64), 0, false⟩), (83, ⟨(.fn1 (.int .i64) (.int .u64)), 0, false⟩), (85, ⟨(.fn1 (.pair (.int .i64) (.int .i64)) .bool), 0, false⟩), (87, ⟨(.int .i64), 0, false⟩), (92, ⟨(.pair (.int .i64) (.pair .str (.pair .str (.int .i64)))), 4, false⟩), (98, ⟨(.slice (.int .i64)), 0, false⟩), (102, ⟨(.pair (.int .i64) (.int .i64)), 2, false⟩), (108, ⟨(.int .u32), 0, false⟩), (110, ⟨(.int .u64), 0, false⟩), (111, ⟨(.seq (.pair (.int .i64) (.int .i64))), 0, false⟩), (115, ⟨(.fn1 (.pair .str (.pair (.int .i64) (.pair (.int .i64) (.int .i64)))) (.int .i64)), 0, false⟩), (116, ⟨(.fn1 (.pair .str (.pair (.int .i64) (.pair (.int .i64) (.int .i64)))) (.int .i64)), 0, false⟩), (118, ⟨(.fn1 (.pair (.int .i64) (.pair .str (.pair .str (.int .i64)))) (.int .i64)), 0, false⟩), (119, ⟨(.fn1 (.pair (.int .i64) (.pair .str (.pair .str (.int .i64)))) (.int .i64)), 0, false⟩), (129, ⟨(.slice (.int .u8)), 0, false⟩)]
def gQ : List (Nat × Ty) := [(30, (.pair (.int .i64) (.int .i64)))]
theorem q30 : EqOK Go.Proofs.Try.prog 30 (.pair (.int .i64) (.int .i64)) := eqOK_gen (d := 40) (by decide) (by kernel_rfl) rfl (by kernel_rfl)
def e0 (n : Nat) : Env := ⟨gT, [], gQ, [], [], [], []⟩
theorem hP : Go.Proofs.Try.prog.follows .mixedOrders = true := by kernel_rfl
theorem h0 (n : Nat) : EnvOK Go.Proofs.Try.prog (e0 n) := env_eq (env_nil (by kernel_rfl)) q30

/-- criadera/gauge.within -/
def s41 (n : Nat) (v_n : Int) (lo : Int) (hi : Int) : Option (Bool) :=
  some (((decide (lo ≤ v_n)) && (decide (v_n ≤ hi))))

def s41_c (n : Nat) : Con := ⟨[(.int .i64), (.int .i64), (.int .i64)], [], [.bool], fun x y => s41 n x.1 x.2.1 x.2.2, false⟩
theorem s41_eq (n : Nat) (x : denL [(.int .i64), (.int .i64), (.int .i64)]) (y : denL []) : funR (e0 n) Go.Proofs.Try.f41 [(.int .i64), (.int .i64), (.int .i64)] [] [.bool] false [] x y = (s41_c n).fn x y := by kernel_rfl
theorem s41_ok (n : Nat) : ConOK Go.Proofs.Try.prog 41 (s41_c n) := func_ok (h0 n) hP Go.Proofs.Try.func41 (by kernel_rfl) (by kernel_rfl) (O := []) trivial (s41_eq n)
def e1 (n : Nat) : Env := ⟨gT, (41, s41_c n) :: (e0 n).C, gQ, (e0 n).I, (e0 n).M, (e0 n).S, (e0 n).D⟩
theorem h1 (n : Nat) : EnvOK Go.Proofs.Try.prog (e1 n) := env_add (h0 n) (s41_ok n)

/-- criadera/gauge.isRadius -/
def s40 (n : Nat) (v_n : Int) (most : Int) : Option (Bool) :=
  (s41 n v_n (10 : Int) most).bind fun x =>
  some (x)

def s40_c (n : Nat) : Con := ⟨[(.int .i64), (.int .i64)], [], [.bool], fun x y => s40 n x.1 x.2, false⟩
theorem s40_eq (n : Nat) (x : denL [(.int .i64), (.int .i64)]) (y : denL []) : funR (e1 n) Go.Proofs.Try.f40 [(.int .i64), (.int .i64)] [] [.bool] false [] x y = (s40_c n).fn x y := by kernel_rfl
theorem s40_ok (n : Nat) : ConOK Go.Proofs.Try.prog 40 (s40_c n) := func_ok (h1 n) hP Go.Proofs.Try.func40 (by kernel_rfl) (by kernel_rfl) (O := []) trivial (s40_eq n)
def e2 (n : Nat) : Env := ⟨gT, (40, s40_c n) :: (e1 n).C, gQ, (e1 n).I, (e1 n).M, (e1 n).S, (e1 n).D⟩
theorem h2 (n : Nat) : EnvOK Go.Proofs.Try.prog (e2 n) := env_add (h1 n) (s40_ok n)

def e3 (n : Nat) : Env := ⟨gT, (e2 n).C, gQ, (e2 n).I, (e2 n).M, 91 :: (e2 n).S, 137 :: (e2 n).D⟩
theorem h3 (n : Nat) : EnvOK Go.Proofs.Try.prog (e3 n) := env_fl (h2 n) root91 (by kernel_rfl)

def s89_l0 (n : Nat) (d : Int × Int × Int × Int × Unit) (again : (Int × Int × Int × Int × Unit) → Option ((Int × Int))) (ks : (Int × Int × Int × Int × Unit → Option ((Int × Int))) × Unit) : Option ((Int × Int)) :=
  match d, ks with
  | (v_n, r, t2, t2_1, _), (k0, _) =>
  bif (decide ((IntKind.wrap .i64 (r * r)) > v_n)) then
    again (v_n, (IntKind.wrap .i64 (r - (1 : Int))), t2, t2_1, ())
  else
    k0 (v_n, r, t2, t2_1, ())

def s89_l1 (n : Nat) (d : Int × Int × Int × Int × Unit) (again : (Int × Int × Int × Int × Unit) → Option ((Int × Int))) (ks : (Int × Int × Int × Int × Unit → Option ((Int × Int))) × Unit) : Option ((Int × Int)) :=
  match d, ks with
  | (v_n, r, t2, t2_1, _), (k0, _) =>
  bif (decide ((IntKind.wrap .i64 ((IntKind.wrap .i64 (r + (1 : Int))) * (IntKind.wrap .i64 (r + (1 : Int))))) ≤ v_n)) then
    again (v_n, (IntKind.wrap .i64 (r + (1 : Int))), t2, t2_1, ())
  else
    k0 (v_n, r, t2, t2_1, ())

/-- criadera/gauge.root -/
def s89 (n : Nat) (v_n : Int) : Option ((Int × Int)) :=
  (froot (fofI v_n)).bind fun r =>
  (ftoI .i64 r).bind fun r_1 =>
  loopG (s89_l0 n) n (v_n, r_1, (0 : Int), (0 : Int), ())
    (fun (v_n_2, r_3, t2_2, t2_3, _) =>
      loopG (s89_l1 n) n (v_n_2, r_3, t2_2, t2_3, ())
        (fun (v_n_4, r_5, t2_6, t2_7, _) =>
          bif ((IntKind.wrap .i64 (r_5 * r_5)) == v_n_4) then
            some ((r_5, r_5))
          else
            some ((r_5, (IntKind.wrap .i64 (r_5 + (1 : Int))))), ()), ())

def s89_t0 : Templ := ⟨36, [(.int .i64), (.int .i64), (.int .i64), (.int .i64)], [(0, .v (.hole (.int .i64))), (2, .v (.bptr 36 0)), (3, .v (.hole (.int .i64)))], [(36, .box (.pair (.int .i64) (.int .i64)) [.hole (.int .i64), .hole (.int .i64)])], []⟩
def s89_x0 : List (Way × Templ) := [(.exit 0, ⟨36, [(.int .i64), (.int .i64), (.int .i64), (.int .i64)], [(0, .v (.hole (.int .i64))), (2, .v (.bptr 36 0)), (3, .v (.hole (.int .i64)))], [(36, .box (.pair (.int .i64) (.int .i64)) [.hole (.int .i64), .hole (.int .i64)])], []⟩)]
def s89_o0 (n : Nat) : Ev (denL [(.pair (.int .i64) (.int .i64))]) := loopO n (e3 n) s89_t0 s89_x0 (s89_l0 n)
theorem s89_b0 (n : Nat) (d) (again) (ks) : codeR (R := (denL [(.pair (.int .i64) (.int .i64))])) (e3 n) (Hdl.no (R := (denL [(.pair (.int .i64) (.int .i64))]))) (inn (lp (bd Go.Proofs.Try.f89) 0)) [] (mk s89_t0 d) (turnR (e3 n) s89_t0 s89_x0 again ks) = s89_l0 n d again ks := by kernel_rfl
theorem s89_s0 (n : Nat) : Sound Go.Proofs.Try.prog (Hdl.no (R := (denL [(.pair (.int .i64) (.int .i64))]))) false (lp (bd Go.Proofs.Try.f89) 0) (s89_o0 n) := loop_ok (h3 n) hP (by kernel_rfl) (O := []) trivial (s89_b0 n)
def s89_t1 : Templ := ⟨36, [(.int .i64), (.int .i64), (.int .i64), (.int .i64)], [(0, .v (.hole (.int .i64))), (2, .v (.bptr 36 0)), (3, .v (.hole (.int .i64)))], [(36, .box (.pair (.int .i64) (.int .i64)) [.hole (.int .i64), .hole (.int .i64)])], []⟩
def s89_x1 : List (Way × Templ) := [(.exit 2, ⟨36, [(.int .i64), (.int .i64), (.int .i64), (.int .i64)], [(0, .v (.hole (.int .i64))), (2, .v (.bptr 36 0)), (3, .v (.hole (.int .i64)))], [(36, .box (.pair (.int .i64) (.int .i64)) [.hole (.int .i64), .hole (.int .i64)])], []⟩)]
def s89_o1 (n : Nat) : Ev (denL [(.pair (.int .i64) (.int .i64))]) := loopO n (e3 n) s89_t1 s89_x1 (s89_l1 n)
theorem s89_b1 (n : Nat) (d) (again) (ks) : codeR (R := (denL [(.pair (.int .i64) (.int .i64))])) (e3 n) (Hdl.no (R := (denL [(.pair (.int .i64) (.int .i64))]))) (inn (lp (bd Go.Proofs.Try.f89) 1)) [] (mk s89_t1 d) (turnR (e3 n) s89_t1 s89_x1 again ks) = s89_l1 n d again ks := by kernel_rfl
theorem s89_s1 (n : Nat) : Sound Go.Proofs.Try.prog (Hdl.no (R := (denL [(.pair (.int .i64) (.int .i64))]))) false (lp (bd Go.Proofs.Try.f89) 1) (s89_o1 n) := loop_ok (h3 n) hP (by kernel_rfl) (O := []) trivial (s89_b1 n)
def s89_c (n : Nat) : Con := ⟨[(.int .i64)], [], [(.pair (.int .i64) (.int .i64))], fun x y => s89 n x, false⟩
theorem s89_eq (n : Nat) (x : denL [(.int .i64)]) (y : denL []) : funR (e3 n) Go.Proofs.Try.f89 [(.int .i64)] [] [(.pair (.int .i64) (.int .i64))] false [s89_o0 n, s89_o1 n] x y = (s89_c n).fn x y := by kernel_rfl
theorem s89_ok (n : Nat) : ConOK Go.Proofs.Try.prog 89 (s89_c n) := func_ok (h3 n) hP Go.Proofs.Try.func89 (by kernel_rfl) (by kernel_rfl) (O := [s89_o0 n, s89_o1 n]) ⟨s89_s0 n, s89_s1 n, trivial⟩ (s89_eq n)
def e4 (n : Nat) : Env := ⟨gT, (89, s89_c n) :: (e3 n).C, gQ, (e3 n).I, (e3 n).M, (e3 n).S, (e3 n).D⟩
theorem h4 (n : Nat) : EnvOK Go.Proofs.Try.prog (e4 n) := env_add (h3 n) (s89_ok n)

/-- (criadera/gauge.circle).width -/
def s80 (n : Nat) (c : Int) (y : Int) : Option ((Int × Int)) :=
  (s89 n (IntKind.wrap .i64 ((4 : Int) * (IntKind.wrap .i64 ((IntKind.wrap .i64 (c * c)) - (IntKind.wrap .i64 (y * y))))))).bind fun x =>
  some ((x.1, x.2))

def s80_c (n : Nat) : Con := ⟨[(.int .i64), (.int .i64)], [], [(.pair (.int .i64) (.int .i64))], fun x y => s80 n x.1 x.2, false⟩
theorem s80_eq (n : Nat) (x : denL [(.int .i64), (.int .i64)]) (y : denL []) : funR (e4 n) Go.Proofs.Try.f80 [(.int .i64), (.int .i64)] [] [(.pair (.int .i64) (.int .i64))] false [] x y = (s80_c n).fn x y := by kernel_rfl
theorem s80_ok (n : Nat) : ConOK Go.Proofs.Try.prog 80 (s80_c n) := func_ok (h4 n) hP Go.Proofs.Try.func80 (by kernel_rfl) (by kernel_rfl) (O := []) trivial (s80_eq n)
def e5 (n : Nat) : Env := ⟨gT, (80, s80_c n) :: (e4 n).C, gQ, (e4 n).I, (e4 n).M, (e4 n).S, (e4 n).D⟩
theorem h5 (n : Nat) : EnvOK Go.Proofs.Try.prog (e5 n) := env_add (h4 n) (s80_ok n)

def s79_l0 (n : Nat) (d : Int × Int × Int × Int × Int × Unit) (again : (Int × Int × Int × Int × Int × Unit) → Option (List ((Int × Int)))) (ks : (Unit → Option (List ((Int × Int)))) × (Unit → Option (List ((Int × Int)))) × Unit) : Option (List ((Int × Int))) :=
  match d, ks with
  | (t1, t2, y, below, below_1, _), (k0, k1, _) =>
  bif (decide (y < t2)) then
    (s80 n t1 (IntKind.wrap .i64 (y + (1 : Int)))).bind fun x =>
    emitL (α := (Int × Int)) ((imin below x.1), (imax below_1 x.2)) (
        again (t1, t2, (IntKind.wrap .i64 (y + (1 : Int))), x.1, x.2, ())
      ) (
        k1 (())
      )
  else
    k0 (())

/-- (criadera/gauge.circle).slices$1 -/
def s79 (n : Nat) (c0 : Int) (c1 : Int) : Option (List ((Int × Int))) :=
  (s80 n c0 (IntKind.wrap .i64 (0 - c0))).bind fun x =>
  loopG (s79_l0 n) n (c0, c1, (IntKind.wrap .i64 (0 - c0)), x.1, x.2, ())
    (fun (_) =>
      some [],
    fun (_) =>
      some [], ())

def s79_t0 : Templ := ⟨37, [(.int .i64), (.int .i64), (.int .i64), (.int .i64), (.int .i64)], [(0, .v (.yld)), (1, .v (.pp (.int .i64))), (2, .v (.pp (.int .i64))), (4, .v (.bptr 37 0)), (5, .v (.hole (.int .i64)))], [(37, .box (.pair (.int .i64) (.int .i64)) [.hole (.int .i64), .hole (.int .i64)])], []⟩
def s79_x0 : List (Way × Templ) := [(.exit 0, ⟨37, [], [], [], []⟩), (.ret, ⟨37, [], [], [], []⟩)]
def s79_o0 (n : Nat) : Ev (List (denL [(.pair (.int .i64) (.int .i64))])) := loopO n (e5 n) s79_t0 s79_x0 (s79_l0 n)
theorem s79_b0 (n : Nat) (d) (again) (ks) : codeR (R := (List (denL [(.pair (.int .i64) (.int .i64))]))) (e5 n) (hdlL [(.pair (.int .i64) (.int .i64))]) (inn (lp (bd Go.Proofs.Try.f79) 0)) [] (mk s79_t0 d) (turnR (e5 n) s79_t0 s79_x0 again ks) = s79_l0 n d again ks := by kernel_rfl
theorem s79_s0 (n : Nat) : Sound Go.Proofs.Try.prog (hdlL [(.pair (.int .i64) (.int .i64))]) false (lp (bd Go.Proofs.Try.f79) 0) (s79_o0 n) := loop_ok (h5 n) hP (by kernel_rfl) (O := []) trivial (s79_b0 n)
def s79_i (n : Nat) : ICon := ⟨[(.int .i64), (.int .i64)], (.seq (.pair (.int .i64) (.int .i64))), fun y => s79 n y.1 y.2⟩
theorem s79_eq (n : Nat) (y : denL [(.int .i64), (.int .i64)]) : iterR (e5 n) Go.Proofs.Try.f79 [(.pair (.int .i64) (.int .i64))] [(.int .i64), (.int .i64)] [s79_o0 n] y = (s79_i n).fn y := by kernel_rfl
theorem s79_ok (n : Nat) : IConOK Go.Proofs.Try.prog 79 (s79_i n) := itf1_ok (h5 n) hP Go.Proofs.Try.func79 (by kernel_rfl) (by kernel_rfl) (O := [s79_o0 n]) ⟨s79_s0 n, trivial⟩ (s79_eq n)
def e6 (n : Nat) : Env := ⟨gT, (e5 n).C, gQ, (79, s79_i n) :: (e5 n).I, (e5 n).M, (e5 n).S, (e5 n).D⟩
theorem h6 (n : Nat) : EnvOK Go.Proofs.Try.prog (e6 n) := env_it (h5 n) (s79_ok n)

/-- (criadera/gauge.circle).slices -/
def s58 (n : Nat) (c : Int) (level : Int) : Option ((List (Int × Int))) :=
  (s79 n c level).bind fun x =>
  some (x)

def s58_c (n : Nat) : Con := ⟨[(.int .i64), (.int .i64)], [], [(.seq (.pair (.int .i64) (.int .i64)))], fun x y => s58 n x.1 x.2, false⟩
theorem s58_eq (n : Nat) (x : denL [(.int .i64), (.int .i64)]) (y : denL []) : funR (e6 n) Go.Proofs.Try.f58 [(.int .i64), (.int .i64)] [] [(.seq (.pair (.int .i64) (.int .i64)))] false [] x y = (s58_c n).fn x y := by kernel_rfl
theorem s58_ok (n : Nat) : ConOK Go.Proofs.Try.prog 58 (s58_c n) := func_ok (h6 n) hP Go.Proofs.Try.func58 (by kernel_rfl) (by kernel_rfl) (O := []) trivial (s58_eq n)
def e7 (n : Nat) : Env := ⟨gT, (58, s58_c n) :: (e6 n).C, gQ, (e6 n).I, (e6 n).M, (e6 n).S, (e6 n).D⟩
theorem h7 (n : Nat) : EnvOK Go.Proofs.Try.prog (e7 n) := env_add (h6 n) (s58_ok n)

def s42_l0 (n : Nat) (d : (List (Int × Int)) × Int × Int × Int × Int × Unit) (y : Int × Int) (again : ((List (Int × Int)) × Int × Int × Int × Int × Unit) → Option ((Int × Int))) (ks : Unit) : Option ((Int × Int)) :=
  match d, ks with
  | (t11, t4, t4_1, out, out_1, _), (_) =>
  again (t11, t4, t4_1, (IntKind.wrap .i64 (out + y.1)), (IntKind.wrap .i64 (out_1 + y.2)), ())

/-- (criadera/gauge.circle).area -/
def s42 (n : Nat) (c : Int) (level : Int) : Option ((Int × Int)) :=
  (s58 n c (imin level c)).bind fun x =>
  rangeG (s42_l0 n) (()) (fun (t11_1, t4_2, t4_3, out_2, out_3, _) =>
      some ((out_2, out_3))) x (x, (0 : Int), (0 : Int), (0 : Int), (0 : Int), ())

def s42_t0 : Templ := ⟨25, [(.seq (.pair (.int .i64) (.int .i64))), (.int .i64), (.int .i64), (.int .i64), (.int .i64)], [(4, .v (.bptr 25 0)), (5, .v (.bptr 26 0)), (11, .v (.hole (.seq (.pair (.int .i64) (.int .i64)))))], [(25, .box (.pair (.int .i64) (.int .i64)) [.hole (.int .i64), .hole (.int .i64)]), (26, .box (.pair (.int .i64) (.int .i64)) [.hole (.int .i64), .hole (.int .i64)])], []⟩
def s42_x0 : List (Way × Templ) := []
theorem s42_b0 (n : Nat) (d) (x) (again) (ks) : codeR (R := (denL [(.pair (.int .i64) (.int .i64))])) (e7 n) (Hdl.no (R := (denL [(.pair (.int .i64) (.int .i64))]))) (rgA (lp (bd Go.Proofs.Try.f42) 0)) [] (mkB s42_t0 [4, 5, 11] 12 (.pair (.int .i64) (.int .i64)) d x) (thenB fun st => codeR (R := (denL [(.pair (.int .i64) (.int .i64))])) (e7 n) (Hdl.no (R := (denL [(.pair (.int .i64) (.int .i64))]))) (rgB (lp (bd Go.Proofs.Try.f42) 0)) [] st (turnB (e7 n) s42_t0 [4, 5, 11] s42_x0 again ks)) = s42_l0 n d x again ks := by kernel_rfl
theorem s42_s0 (n : Nat) : Sound Go.Proofs.Try.prog (Hdl.no (R := (denL [(.pair (.int .i64) (.int .i64))]))) false (lp (bd Go.Proofs.Try.f42) 0) ((fun n => rangeO (R := (denL [(.pair (.int .i64) (.int .i64))])) (e7 n) (.pair (.int .i64) (.int .i64)) (rgG (lp (bd Go.Proofs.Try.f42) 0)) s42_t0 s42_x0 (s42_l0 n)) n) := range_ok (h7 n) hP (p := 12) (F := [4, 5, 11]) (Oa := []) (Ob := []) (by kernel_rfl) rfl (by decide) (by decide) rfl trivial trivial (s42_b0 n)
def s42_c (n : Nat) : Con := ⟨[(.int .i64), (.int .i64)], [], [(.pair (.int .i64) (.int .i64))], fun x y => s42 n x.1 x.2, false⟩
theorem s42_eq (n : Nat) (x : denL [(.int .i64), (.int .i64)]) (y : denL []) : funR (e7 n) Go.Proofs.Try.f42 [(.int .i64), (.int .i64)] [] [(.pair (.int .i64) (.int .i64))] false [(fun n => rangeO (R := (denL [(.pair (.int .i64) (.int .i64))])) (e7 n) (.pair (.int .i64) (.int .i64)) (rgG (lp (bd Go.Proofs.Try.f42) 0)) s42_t0 s42_x0 (s42_l0 n)) n] x y = (s42_c n).fn x y := by kernel_rfl
theorem s42_ok (n : Nat) : ConOK Go.Proofs.Try.prog 42 (s42_c n) := func_ok (h7 n) hP Go.Proofs.Try.func42 (by kernel_rfl) (by kernel_rfl) (O := [(fun n => rangeO (R := (denL [(.pair (.int .i64) (.int .i64))])) (e7 n) (.pair (.int .i64) (.int .i64)) (rgG (lp (bd Go.Proofs.Try.f42) 0)) s42_t0 s42_x0 (s42_l0 n)) n]) ⟨s42_s0 n, trivial⟩ (s42_eq n)
def e8 (n : Nat) : Env := ⟨gT, (42, s42_c n) :: (e7 n).C, gQ, (e7 n).I, (e7 n).M, (e7 n).S, (e7 n).D⟩
theorem h8 (n : Nat) : EnvOK Go.Proofs.Try.prog (e8 n) := env_add (h7 n) (s42_ok n)

/-- criadera/gauge.AreaTo -/
def s17 (n : Nat) (radius : Int) (level : Int) : Option ((Int × Int) × Int) :=
  (s40 n radius (800 : Int)).bind fun x =>
  (part (!(!x)) (s41 n level (IntKind.wrap .i64 (0 - radius)) radius) false).bind fun x_1 =>
  bif ((!x) || (!x_1)) then
    some (((0 : Int), (0 : Int)), (2 : Int))
  else
    (s42 n radius level).bind fun x_2 =>
    some ((x_2.1, x_2.2), (0 : Int))

def s17_c (n : Nat) : Con := ⟨[(.int .i64), (.int .i64)], [], [(.pair (.int .i64) (.int .i64)), (.int .i64)], fun x y => s17 n x.1 x.2, false⟩
theorem s17_eq (n : Nat) (x : denL [(.int .i64), (.int .i64)]) (y : denL []) : funR (e8 n) Go.Proofs.Try.f17 [(.int .i64), (.int .i64)] [] [(.pair (.int .i64) (.int .i64)), (.int .i64)] false [] x y = (s17_c n).fn x y := by kernel_rfl
theorem s17_ok (n : Nat) : ConOK Go.Proofs.Try.prog 17 (s17_c n) := func_ok (h8 n) hP Go.Proofs.Try.func17 (by kernel_rfl) (by kernel_rfl) (O := []) trivial (s17_eq n)
def e9 (n : Nat) : Env := ⟨gT, (17, s17_c n) :: (e8 n).C, gQ, (e8 n).I, (e8 n).M, (e8 n).S, (e8 n).D⟩
theorem h9 (n : Nat) : EnvOK Go.Proofs.Try.prog (e9 n) := env_add (h8 n) (s17_ok n)

/-- criadera/criaderalaw04.Book -/
def s19 (n : Nat) : Option (((Int × Int) × (List ((List UInt8) × Int × Int × Int)) × (List (Int × (List UInt8) × (List UInt8) × Int)))) :=
  some ((((1000 : Int), (2000 : Int)), (([([98, 117, 116, 116], ((0 : Int), ((500 : Int), (500 : Int)))), ([98, 117, 116, 116], ((10 : Int), ((480 : Int), (480 : Int))))] : List ((List UInt8) × Int × Int × Int)), ([((5 : Int), ([98, 117, 116, 116], ([], (5 : Int))))] : List (Int × (List UInt8) × (List UInt8) × Int)))))

def s19_c (n : Nat) : Con := ⟨[], [], [(.pair (.pair (.int .i64) (.int .i64)) (.pair (.slice (.pair .str (.pair (.int .i64) (.pair (.int .i64) (.int .i64))))) (.slice (.pair (.int .i64) (.pair .str (.pair .str (.int .i64)))))))], fun x y => s19 n, false⟩
theorem s19_eq (n : Nat) (x : denL []) (y : denL []) : funR (e9 n) Go.Proofs.Try.f19 [] [] [(.pair (.pair (.int .i64) (.int .i64)) (.pair (.slice (.pair .str (.pair (.int .i64) (.pair (.int .i64) (.int .i64))))) (.slice (.pair (.int .i64) (.pair .str (.pair .str (.int .i64)))))))] false [] x y = (s19_c n).fn x y := by kernel_rfl
theorem s19_ok (n : Nat) : ConOK Go.Proofs.Try.prog 19 (s19_c n) := func_ok (h9 n) hP Go.Proofs.Try.func19 (by kernel_rfl) (by kernel_rfl) (O := []) trivial (s19_eq n)
def e10 (n : Nat) : Env := ⟨gT, (19, s19_c n) :: (e9 n).C, gQ, (e9 n).I, (e9 n).M, (e9 n).S, (e9 n).D⟩
theorem h10 (n : Nat) : EnvOK Go.Proofs.Try.prog (e10 n) := env_add (h9 n) (s19_ok n)

/-- criadera/gauge.unless -/
def s23 (n : Nat) (ok : Bool) (e : Int) : Option (Int) :=
  bif ok then
    some ((0 : Int))
  else
    some (e)

def s23_c (n : Nat) : Con := ⟨[.bool, (.int .i64)], [], [(.int .i64)], fun x y => s23 n x.1 x.2, false⟩
theorem s23_eq (n : Nat) (x : denL [.bool, (.int .i64)]) (y : denL []) : funR (e10 n) Go.Proofs.Try.f23 [.bool, (.int .i64)] [] [(.int .i64)] false [] x y = (s23_c n).fn x y := by kernel_rfl
theorem s23_ok (n : Nat) : ConOK Go.Proofs.Try.prog 23 (s23_c n) := func_ok (h10 n) hP Go.Proofs.Try.func23 (by kernel_rfl) (by kernel_rfl) (O := []) trivial (s23_eq n)
def e11 (n : Nat) : Env := ⟨gT, (23, s23_c n) :: (e10 n).C, gQ, (e10 n).I, (e10 n).M, (e10 n).S, (e10 n).D⟩
theorem h11 (n : Nat) : EnvOK Go.Proofs.Try.prog (e11 n) := env_add (h10 n) (s23_ok n)

/-- criadera/gauge.orderErr -/
def s61 (n : Nat) (r : Int × Int) : Option (Int) :=
  (s23 n (decide (r.1 ≤ r.2)) (9 : Int)).bind fun x =>
  some (x)

def s61_c (n : Nat) : Con := ⟨[(.pair (.int .i64) (.int .i64))], [], [(.int .i64)], fun x y => s61 n x, false⟩
theorem s61_eq (n : Nat) (x : denL [(.pair (.int .i64) (.int .i64))]) (y : denL []) : funR (e11 n) Go.Proofs.Try.f61 [(.pair (.int .i64) (.int .i64))] [] [(.int .i64)] false [] x y = (s61_c n).fn x y := by kernel_rfl
theorem s61_ok (n : Nat) : ConOK Go.Proofs.Try.prog 61 (s61_c n) := func_ok (h11 n) hP Go.Proofs.Try.func61 (by kernel_rfl) (by kernel_rfl) (O := []) trivial (s61_eq n)
def e12 (n : Nat) : Env := ⟨gT, (61, s61_c n) :: (e11 n).C, gQ, (e11 n).I, (e11 n).M, (e11 n).S, (e11 n).D⟩
theorem h12 (n : Nat) : EnvOK Go.Proofs.Try.prog (e12 n) := env_add (h11 n) (s61_ok n)

def s22_l0 (n : Nat) (d : (List Int) × Int × Int × Unit) (again : ((List Int) × Int × Int × Unit) → Option (Int)) (ks : (Unit → Option (Int)) × (Int × Unit → Option (Int)) × Unit) : Option (Int) :=
  match d, ks with
  | (t5, t6, t7, _), (k0, k1, _) =>
  bif (decide (t7 < t6)) then
    (geti t5 t7).bind fun e =>
    bif (e != (0 : Int)) then
      k1 (e, ())
    else
      again (t5, t6, (IntKind.wrap .i64 (t7 + (1 : Int))), ())
  else
    k0 (())

/-- criadera/gauge.first -/
def s22 (n : Nat) (l : List Int) : Option (Int) :=
  loopG (s22_l0 n) n (l, ((List.length l : Nat) : Int), (0 : Int), ())
    (fun (_) =>
      some ((0 : Int)),
    fun (t2, _) =>
      some (t2), ())

def s22_t0 : Templ := ⟨15, [(.slice (.int .i64)), (.int .i64), (.int .i64)], [(5, .v (.hole (.slice (.int .i64)))), (6, .v (.hole (.int .i64))), (7, .v (.hole (.int .i64)))], [], []⟩
def s22_x0 : List (Way × Templ) := [(.exit 0, ⟨15, [], [], [], []⟩), (.ret, ⟨15, [(.int .i64)], [(2, .v (.hole (.int .i64)))], [], []⟩)]
def s22_o0 (n : Nat) : Ev (denL [(.int .i64)]) := loopO n (e12 n) s22_t0 s22_x0 (s22_l0 n)
theorem s22_b0 (n : Nat) (d) (again) (ks) : codeR (R := (denL [(.int .i64)])) (e12 n) (Hdl.no (R := (denL [(.int .i64)]))) (inn (lp (bd Go.Proofs.Try.f22) 0)) [] (mk s22_t0 d) (turnR (e12 n) s22_t0 s22_x0 again ks) = s22_l0 n d again ks := by kernel_rfl
theorem s22_s0 (n : Nat) : Sound Go.Proofs.Try.prog (Hdl.no (R := (denL [(.int .i64)]))) false (lp (bd Go.Proofs.Try.f22) 0) (s22_o0 n) := loop_ok (h12 n) hP (by kernel_rfl) (O := []) trivial (s22_b0 n)
def s22_c (n : Nat) : Con := ⟨[(.slice (.int .i64))], [], [(.int .i64)], fun x y => s22 n x, false⟩
theorem s22_eq (n : Nat) (x : denL [(.slice (.int .i64))]) (y : denL []) : funR (e12 n) Go.Proofs.Try.f22 [(.slice (.int .i64))] [] [(.int .i64)] false [s22_o0 n] x y = (s22_c n).fn x y := by kernel_rfl
theorem s22_ok (n : Nat) : ConOK Go.Proofs.Try.prog 22 (s22_c n) := func_ok (h12 n) hP Go.Proofs.Try.func22 (by kernel_rfl) (by kernel_rfl) (O := [s22_o0 n]) ⟨s22_s0 n, trivial⟩ (s22_eq n)
def e13 (n : Nat) : Env := ⟨gT, (22, s22_c n) :: (e12 n).C, gQ, (e12 n).I, (e12 n).M, (e12 n).S, (e12 n).D⟩
theorem h13 (n : Nat) : EnvOK Go.Proofs.Try.prog (e13 n) := env_add (h12 n) (s22_ok n)

def s62_l0 (n : Nat) (d : (List ((List UInt8) × Int × Int × Int)) × (((List UInt8) × Int × Int × Int) → Option Int) × (((List UInt8) × Int × Int × Int) → Option Int) × (List ((List UInt8) × Int × Int × Int)) × Int × Int × Unit) (again : ((List ((List UInt8) × Int × Int × Int)) × (((List UInt8) × Int × Int × Int) → Option Int) × (((List UInt8) × Int × Int × Int) → Option Int) × (List ((List UInt8) × Int × Int × Int)) × Int × Int × Unit) → Option (Int × Int)) (ks : (Unit → Option (Int × Int)) × (Int × Int × Unit → Option (Int × Int)) × Unit) : Option (Int × Int) :=
  match d, ks with
  | (l, err, day, t11, t12, t13, _), (k0, k1, _) =>
  bif (decide (t13 < t12)) then
    (geti t11 t13).bind fun e =>
    (err (e.1, (e.2.1, (e.2.2.1, e.2.2.2)))).bind fun x =>
    (part (!(t13 == (0 : Int))) (day (e.1, (e.2.1, (e.2.2.1, e.2.2.2)))) (0 : Int)).bind fun x_1 =>
    (part (!(t13 == (0 : Int))) (geti l (imax (0 : Int) (IntKind.wrap .i64 (t13 - (1 : Int))))) ([], ((0 : Int), ((0 : Int), (0 : Int))))).bind fun e_1 =>
    (part (!(t13 == (0 : Int))) (day e_1) (0 : Int)).bind fun x_2 =>
    (s23 n ((t13 == (0 : Int)) || (decide (x_1 ≥ x_2))) (9 : Int)).bind fun x_3 =>
    (s22 n ([x, x_3] : List Int)).bind fun x_4 =>
    bif (x_4 != (0 : Int)) then
      k1 (t13, x_4, ())
    else
      again (l, err, day, t11, t12, (IntKind.wrap .i64 (t13 + (1 : Int))), ())
  else
    k0 (())

/-- criadera/gauge.dated[criadera/api.GaugeReading] -/
def s62 (n : Nat) (l : List ((List UInt8) × Int × Int × Int)) (err : ((List UInt8) × Int × Int × Int) → Option Int) (day : ((List UInt8) × Int × Int × Int) → Option Int) : Option (Int × Int) :=
  loopG (s62_l0 n) n (l, err, day, l, ((List.length l : Nat) : Int), (0 : Int), ())
    (fun (_) =>
      some ((-1 : Int), (0 : Int)),
    fun (t6, t7, _) =>
      some (t6, t7), ())

def s62_t0 : Templ := ⟨45, [(.slice (.pair .str (.pair (.int .i64) (.pair (.int .i64) (.int .i64))))), (.fn1 (.pair .str (.pair (.int .i64) (.pair (.int .i64) (.int .i64)))) (.int .i64)), (.fn1 (.pair .str (.pair (.int .i64) (.pair (.int .i64) (.int .i64)))) (.int .i64)), (.slice (.pair .str (.pair (.int .i64) (.pair (.int .i64) (.int .i64))))), (.int .i64), (.int .i64)], [(0, .v (.hole (.slice (.pair .str (.pair (.int .i64) (.pair (.int .i64) (.int .i64))))))), (1, .v (.hole (.fn1 (.pair .str (.pair (.int .i64) (.pair (.int .i64) (.int .i64)))) (.int .i64)))), (2, .v (.hole (.fn1 (.pair .str (.pair (.int .i64) (.pair (.int .i64) (.int .i64)))) (.int .i64)))), (11, .v (.hole (.slice (.pair .str (.pair (.int .i64) (.pair (.int .i64) (.int .i64))))))), (12, .v (.hole (.int .i64))), (13, .v (.hole (.int .i64)))], [], []⟩
def s62_x0 : List (Way × Templ) := [(.exit 0, ⟨45, [], [], [], []⟩), (.ret, ⟨45, [(.int .i64), (.int .i64)], [(6, .v (.hole (.int .i64))), (7, .v (.hole (.int .i64)))], [], []⟩)]
def s62_o0 (n : Nat) : Ev (denL [(.int .i64), (.int .i64)]) := loopO n (e13 n) s62_t0 s62_x0 (s62_l0 n)
theorem s62_b0 (n : Nat) (d) (again) (ks) : codeR (R := (denL [(.int .i64), (.int .i64)])) (e13 n) (Hdl.no (R := (denL [(.int .i64), (.int .i64)]))) (inn (lp (bd Go.Proofs.Try.f62) 0)) [] (mk s62_t0 d) (turnR (e13 n) s62_t0 s62_x0 again ks) = s62_l0 n d again ks := by kernel_rfl
theorem s62_s0 (n : Nat) : Sound Go.Proofs.Try.prog (Hdl.no (R := (denL [(.int .i64), (.int .i64)]))) false (lp (bd Go.Proofs.Try.f62) 0) (s62_o0 n) := loop_ok (h13 n) hP (by kernel_rfl) (O := []) trivial (s62_b0 n)
def s62_c (n : Nat) : Con := ⟨[(.slice (.pair .str (.pair (.int .i64) (.pair (.int .i64) (.int .i64))))), (.fn1 (.pair .str (.pair (.int .i64) (.pair (.int .i64) (.int .i64)))) (.int .i64)), (.fn1 (.pair .str (.pair (.int .i64) (.pair (.int .i64) (.int .i64)))) (.int .i64))], [], [(.int .i64), (.int .i64)], fun x y => s62 n x.1 x.2.1 x.2.2, false⟩
theorem s62_eq (n : Nat) (x : denL [(.slice (.pair .str (.pair (.int .i64) (.pair (.int .i64) (.int .i64))))), (.fn1 (.pair .str (.pair (.int .i64) (.pair (.int .i64) (.int .i64)))) (.int .i64)), (.fn1 (.pair .str (.pair (.int .i64) (.pair (.int .i64) (.int .i64)))) (.int .i64))]) (y : denL []) : funR (e13 n) Go.Proofs.Try.f62 [(.slice (.pair .str (.pair (.int .i64) (.pair (.int .i64) (.int .i64))))), (.fn1 (.pair .str (.pair (.int .i64) (.pair (.int .i64) (.int .i64)))) (.int .i64)), (.fn1 (.pair .str (.pair (.int .i64) (.pair (.int .i64) (.int .i64)))) (.int .i64))] [] [(.int .i64), (.int .i64)] false [s62_o0 n] x y = (s62_c n).fn x y := by kernel_rfl
theorem s62_ok (n : Nat) : ConOK Go.Proofs.Try.prog 62 (s62_c n) := func_ok (h13 n) hP Go.Proofs.Try.func62 (by kernel_rfl) (by kernel_rfl) (O := [s62_o0 n]) ⟨s62_s0 n, trivial⟩ (s62_eq n)
def e14 (n : Nat) : Env := ⟨gT, (62, s62_c n) :: (e13 n).C, gQ, (e13 n).I, (e13 n).M, (e13 n).S, (e13 n).D⟩
theorem h14 (n : Nat) : EnvOK Go.Proofs.Try.prog (e14 n) := env_add (h13 n) (s62_ok n)

/-- criadera/gauge.isDay -/
def s60 (n : Nat) (v_n : Int) : Option (Bool) :=
  (s41 n v_n (0 : Int) (100000 : Int)).bind fun x =>
  some (x)

def s60_c (n : Nat) : Con := ⟨[(.int .i64)], [], [.bool], fun x y => s60 n x, false⟩
theorem s60_eq (n : Nat) (x : denL [(.int .i64)]) (y : denL []) : funR (e14 n) Go.Proofs.Try.f60 [(.int .i64)] [] [.bool] false [] x y = (s60_c n).fn x y := by kernel_rfl
theorem s60_ok (n : Nat) : ConOK Go.Proofs.Try.prog 60 (s60_c n) := func_ok (h14 n) hP Go.Proofs.Try.func60 (by kernel_rfl) (by kernel_rfl) (O := []) trivial (s60_eq n)
def e15 (n : Nat) : Env := ⟨gT, (60, s60_c n) :: (e14 n).C, gQ, (e14 n).I, (e14 n).M, (e14 n).S, (e14 n).D⟩
theorem h15 (n : Nat) : EnvOK Go.Proofs.Try.prog (e15 n) := env_add (h14 n) (s60_ok n)

/-- criadera/gauge.isVolume -/
def s81 (n : Nat) (v_n : Int) : Option (Bool) :=
  (s41 n v_n (0 : Int) (100000 : Int)).bind fun x =>
  some (x)

def s81_c (n : Nat) : Con := ⟨[(.int .i64)], [], [.bool], fun x y => s81 n x, false⟩
theorem s81_eq (n : Nat) (x : denL [(.int .i64)]) (y : denL []) : funR (e15 n) Go.Proofs.Try.f81 [(.int .i64)] [] [.bool] false [] x y = (s81_c n).fn x y := by kernel_rfl
theorem s81_ok (n : Nat) : ConOK Go.Proofs.Try.prog 81 (s81_c n) := func_ok (h15 n) hP Go.Proofs.Try.func81 (by kernel_rfl) (by kernel_rfl) (O := []) trivial (s81_eq n)
def e16 (n : Nat) : Env := ⟨gT, (81, s81_c n) :: (e15 n).C, gQ, (e15 n).I, (e15 n).M, (e15 n).S, (e15 n).D⟩
theorem h16 (n : Nat) : EnvOK Go.Proofs.Try.prog (e16 n) := env_add (h15 n) (s81_ok n)

def s59_l0 (n : Nat) (d : (List UInt8) × (List Int) × Int × Int × Unit) (again : ((List UInt8) × (List Int) × Int × Int × Unit) → Option (Bool)) (ks : ((List UInt8) × Unit → Option (Bool)) × (Bool × Unit → Option (Bool)) × Unit) : Option (Bool) :=
  match d, ks with
  | (s, t7, t8, t9, _), (k0, k1, _) =>
  bif (decide (t9 < t8)) then
    (geti t7 t9).bind fun e =>
    bif ((!(((decide (e ≥ (97 : Int))) && (decide (e ≤ (122 : Int)))) || ((decide (e ≥ (65 : Int))) && (decide (e ≤ (90 : Int)))))) && ((t9 == (0 : Int)) || ((e != (45 : Int)) && ((decide (e < (48 : Int))) || (decide (e > (57 : Int))))))) then
      k1 (false, ())
    else
      again (s, t7, t8, (IntKind.wrap .i64 (t9 + (1 : Int))), ())
  else
    k0 (s, ())

/-- criadera/gauge.isName -/
def s59 (n : Nat) (s : List UInt8) : Option (Bool) :=
  loopG (s59_l0 n) n (s, (bytesOf s), ((List.length (bytesOf s) : Nat) : Int), (0 : Int), ())
    (fun (s_2, _) =>
      some ((((s_2 : List UInt8) != []) && (decide (((List.length s_2 : Nat) : Int) ≤ (12 : Int))))),
    fun (t2, _) =>
      some (t2), ())

def s59_t0 : Templ := ⟨54, [.str, (.slice (.int .u8)), (.int .i64), (.int .i64)], [(0, .v (.hole .str)), (7, .v (.hole (.slice (.int .u8)))), (8, .v (.hole (.int .i64))), (9, .v (.hole (.int .i64)))], [], []⟩
def s59_x0 : List (Way × Templ) := [(.exit 0, ⟨54, [.str], [(0, .v (.hole .str))], [], []⟩), (.ret, ⟨54, [.bool], [(2, .v (.hole .bool))], [], []⟩)]
def s59_o0 (n : Nat) : Ev (denL [.bool]) := loopO n (e16 n) s59_t0 s59_x0 (s59_l0 n)
theorem s59_b0 (n : Nat) (d) (again) (ks) : codeR (R := (denL [.bool])) (e16 n) (Hdl.no (R := (denL [.bool]))) (inn (lp (bd Go.Proofs.Try.f59) 0)) [] (mk s59_t0 d) (turnR (e16 n) s59_t0 s59_x0 again ks) = s59_l0 n d again ks := by kernel_rfl
theorem s59_s0 (n : Nat) : Sound Go.Proofs.Try.prog (Hdl.no (R := (denL [.bool]))) false (lp (bd Go.Proofs.Try.f59) 0) (s59_o0 n) := loop_ok (h16 n) hP (by kernel_rfl) (O := []) trivial (s59_b0 n)
def s59_c (n : Nat) : Con := ⟨[.str], [], [.bool], fun x y => s59 n x, false⟩
theorem s59_eq (n : Nat) (x : denL [.str]) (y : denL []) : funR (e16 n) Go.Proofs.Try.f59 [.str] [] [.bool] false [s59_o0 n] x y = (s59_c n).fn x y := by kernel_rfl
theorem s59_ok (n : Nat) : ConOK Go.Proofs.Try.prog 59 (s59_c n) := func_ok (h16 n) hP Go.Proofs.Try.func59 (by kernel_rfl) (by kernel_rfl) (O := [s59_o0 n]) ⟨s59_s0 n, trivial⟩ (s59_eq n)
def e17 (n : Nat) : Env := ⟨gT, (59, s59_c n) :: (e16 n).C, gQ, (e16 n).I, (e16 n).M, (e16 n).S, (e16 n).D⟩
theorem h17 (n : Nat) : EnvOK Go.Proofs.Try.prog (e17 n) := env_add (h16 n) (s59_ok n)

/-- criadera/gauge.gaugingErr -/
def s63 (n : Nat) (x : (List UInt8) × Int × Int × Int) : Option (Int) :=
  (s60 n x.2.1).bind fun x_1 =>
  (part x_1 (s81 n x.2.2.1) false).bind fun x_2 =>
  (part (x_1 && x_2) (s81 n x.2.2.2) false).bind fun x_3 =>
  (s59 n x.1).bind fun x_4 =>
  (s23 n x_4 (4 : Int)).bind fun x_5 =>
  (s23 n ((x_1 && x_2) && x_3) (2 : Int)).bind fun x_6 =>
  (s61 n (x.2.2.1, x.2.2.2)).bind fun x_7 =>
  (s22 n ([x_5, x_6, x_7] : List Int)).bind fun x_8 =>
  some (x_8)

def s63_c (n : Nat) : Con := ⟨[(.pair .str (.pair (.int .i64) (.pair (.int .i64) (.int .i64))))], [], [(.int .i64)], fun x y => s63 n x, false⟩
theorem s63_eq (n : Nat) (x : denL [(.pair .str (.pair (.int .i64) (.pair (.int .i64) (.int .i64))))]) (y : denL []) : funR (e17 n) Go.Proofs.Try.f63 [(.pair .str (.pair (.int .i64) (.pair (.int .i64) (.int .i64))))] [] [(.int .i64)] false [] x y = (s63_c n).fn x y := by kernel_rfl
theorem s63_ok (n : Nat) : ConOK Go.Proofs.Try.prog 63 (s63_c n) := func_ok (h17 n) hP Go.Proofs.Try.func63 (by kernel_rfl) (by kernel_rfl) (O := []) trivial (s63_eq n)
def e18 (n : Nat) : Env := ⟨gT, (63, s63_c n) :: (e17 n).C, gQ, (e17 n).I, (e17 n).M, (e17 n).S, (e17 n).D⟩
theorem h18 (n : Nat) : EnvOK Go.Proofs.Try.prog (e18 n) := env_add (h17 n) (s63_ok n)

/-- criadera/gauge.CheckBook$1 -/
def s64 (n : Nat) (x : (List UInt8) × Int × Int × Int) : Option (Int) :=
  some (x.2.1)

def s64_c (n : Nat) : Con := ⟨[(.pair .str (.pair (.int .i64) (.pair (.int .i64) (.int .i64))))], [], [(.int .i64)], fun x y => s64 n x, false⟩
theorem s64_eq (n : Nat) (x : denL [(.pair .str (.pair (.int .i64) (.pair (.int .i64) (.int .i64))))]) (y : denL []) : funR (e18 n) Go.Proofs.Try.f64 [(.pair .str (.pair (.int .i64) (.pair (.int .i64) (.int .i64))))] [] [(.int .i64)] false [] x y = (s64_c n).fn x y := by kernel_rfl
theorem s64_ok (n : Nat) : ConOK Go.Proofs.Try.prog 64 (s64_c n) := func_ok (h18 n) hP Go.Proofs.Try.func64 (by kernel_rfl) (by kernel_rfl) (O := []) trivial (s64_eq n)
def e19 (n : Nat) : Env := ⟨gT, (64, s64_c n) :: (e18 n).C, gQ, (e18 n).I, (e18 n).M, (e18 n).S, (e18 n).D⟩
theorem h19 (n : Nat) : EnvOK Go.Proofs.Try.prog (e19 n) := env_add (h18 n) (s64_ok n)

def s65_l0 (n : Nat) (d : (List (Int × (List UInt8) × (List UInt8) × Int)) × ((Int × (List UInt8) × (List UInt8) × Int) → Option Int) × ((Int × (List UInt8) × (List UInt8) × Int) → Option Int) × (List (Int × (List UInt8) × (List UInt8) × Int)) × Int × Int × Unit) (again : ((List (Int × (List UInt8) × (List UInt8) × Int)) × ((Int × (List UInt8) × (List UInt8) × Int) → Option Int) × ((Int × (List UInt8) × (List UInt8) × Int) → Option Int) × (List (Int × (List UInt8) × (List UInt8) × Int)) × Int × Int × Unit) → Option (Int × Int)) (ks : (Unit → Option (Int × Int)) × (Int × Int × Unit → Option (Int × Int)) × Unit) : Option (Int × Int) :=
  match d, ks with
  | (l, err, day, t11, t12, t13, _), (k0, k1, _) =>
  bif (decide (t13 < t12)) then
    (geti t11 t13).bind fun e =>
    (err (e.1, (e.2.1, (e.2.2.1, e.2.2.2)))).bind fun x =>
    (part (!(t13 == (0 : Int))) (day (e.1, (e.2.1, (e.2.2.1, e.2.2.2)))) (0 : Int)).bind fun x_1 =>
    (part (!(t13 == (0 : Int))) (geti l (imax (0 : Int) (IntKind.wrap .i64 (t13 - (1 : Int))))) ((0 : Int), ([], ([], (0 : Int))))).bind fun e_1 =>
    (part (!(t13 == (0 : Int))) (day e_1) (0 : Int)).bind fun x_2 =>
    (s23 n ((t13 == (0 : Int)) || (decide (x_1 ≥ x_2))) (9 : Int)).bind fun x_3 =>
    (s22 n ([x, x_3] : List Int)).bind fun x_4 =>
    bif (x_4 != (0 : Int)) then
      k1 (t13, x_4, ())
    else
      again (l, err, day, t11, t12, (IntKind.wrap .i64 (t13 + (1 : Int))), ())
  else
    k0 (())

/-- criadera/gauge.dated[criadera/api.GaugeMove] -/
def s65 (n : Nat) (l : List (Int × (List UInt8) × (List UInt8) × Int)) (err : (Int × (List UInt8) × (List UInt8) × Int) → Option Int) (day : (Int × (List UInt8) × (List UInt8) × Int) → Option Int) : Option (Int × Int) :=
  loopG (s65_l0 n) n (l, err, day, l, ((List.length l : Nat) : Int), (0 : Int), ())
    (fun (_) =>
      some ((-1 : Int), (0 : Int)),
    fun (t6, t7, _) =>
      some (t6, t7), ())

def s65_t0 : Templ := ⟨45, [(.slice (.pair (.int .i64) (.pair .str (.pair .str (.int .i64))))), (.fn1 (.pair (.int .i64) (.pair .str (.pair .str (.int .i64)))) (.int .i64)), (.fn1 (.pair (.int .i64) (.pair .str (.pair .str (.int .i64)))) (.int .i64)), (.slice (.pair (.int .i64) (.pair .str (.pair .str (.int .i64))))), (.int .i64), (.int .i64)], [(0, .v (.hole (.slice (.pair (.int .i64) (.pair .str (.pair .str (.int .i64))))))), (1, .v (.hole (.fn1 (.pair (.int .i64) (.pair .str (.pair .str (.int .i64)))) (.int .i64)))), (2, .v (.hole (.fn1 (.pair (.int .i64) (.pair .str (.pair .str (.int .i64)))) (.int .i64)))), (11, .v (.hole (.slice (.pair (.int .i64) (.pair .str (.pair .str (.int .i64))))))), (12, .v (.hole (.int .i64))), (13, .v (.hole (.int .i64)))], [], []⟩
def s65_x0 : List (Way × Templ) := [(.exit 0, ⟨45, [], [], [], []⟩), (.ret, ⟨45, [(.int .i64), (.int .i64)], [(6, .v (.hole (.int .i64))), (7, .v (.hole (.int .i64)))], [], []⟩)]
def s65_o0 (n : Nat) : Ev (denL [(.int .i64), (.int .i64)]) := loopO n (e19 n) s65_t0 s65_x0 (s65_l0 n)
theorem s65_b0 (n : Nat) (d) (again) (ks) : codeR (R := (denL [(.int .i64), (.int .i64)])) (e19 n) (Hdl.no (R := (denL [(.int .i64), (.int .i64)]))) (inn (lp (bd Go.Proofs.Try.f65) 0)) [] (mk s65_t0 d) (turnR (e19 n) s65_t0 s65_x0 again ks) = s65_l0 n d again ks := by kernel_rfl
theorem s65_s0 (n : Nat) : Sound Go.Proofs.Try.prog (Hdl.no (R := (denL [(.int .i64), (.int .i64)]))) false (lp (bd Go.Proofs.Try.f65) 0) (s65_o0 n) := loop_ok (h19 n) hP (by kernel_rfl) (O := []) trivial (s65_b0 n)
def s65_c (n : Nat) : Con := ⟨[(.slice (.pair (.int .i64) (.pair .str (.pair .str (.int .i64))))), (.fn1 (.pair (.int .i64) (.pair .str (.pair .str (.int .i64)))) (.int .i64)), (.fn1 (.pair (.int .i64) (.pair .str (.pair .str (.int .i64)))) (.int .i64))], [], [(.int .i64), (.int .i64)], fun x y => s65 n x.1 x.2.1 x.2.2, false⟩
theorem s65_eq (n : Nat) (x : denL [(.slice (.pair (.int .i64) (.pair .str (.pair .str (.int .i64))))), (.fn1 (.pair (.int .i64) (.pair .str (.pair .str (.int .i64)))) (.int .i64)), (.fn1 (.pair (.int .i64) (.pair .str (.pair .str (.int .i64)))) (.int .i64))]) (y : denL []) : funR (e19 n) Go.Proofs.Try.f65 [(.slice (.pair (.int .i64) (.pair .str (.pair .str (.int .i64))))), (.fn1 (.pair (.int .i64) (.pair .str (.pair .str (.int .i64)))) (.int .i64)), (.fn1 (.pair (.int .i64) (.pair .str (.pair .str (.int .i64)))) (.int .i64))] [] [(.int .i64), (.int .i64)] false [s65_o0 n] x y = (s65_c n).fn x y := by kernel_rfl
theorem s65_ok (n : Nat) : ConOK Go.Proofs.Try.prog 65 (s65_c n) := func_ok (h19 n) hP Go.Proofs.Try.func65 (by kernel_rfl) (by kernel_rfl) (O := [s65_o0 n]) ⟨s65_s0 n, trivial⟩ (s65_eq n)
def e20 (n : Nat) : Env := ⟨gT, (65, s65_c n) :: (e19 n).C, gQ, (e19 n).I, (e19 n).M, (e19 n).S, (e19 n).D⟩
theorem h20 (n : Nat) : EnvOK Go.Proofs.Try.prog (e20 n) := env_add (h19 n) (s65_ok n)

/-- criadera/gauge.moveErr$1 -/
def s82 (n : Nat) (s : List UInt8) : Option (Bool) :=
  (part (!((s : List UInt8) == [])) (s59 n s) false).bind fun x =>
  some ((((s : List UInt8) == []) || x))

def s82_c (n : Nat) : Con := ⟨[.str], [], [.bool], fun x y => s82 n x, false⟩
theorem s82_eq (n : Nat) (x : denL [.str]) (y : denL []) : funR (e20 n) Go.Proofs.Try.f82 [.str] [] [.bool] false [] x y = (s82_c n).fn x y := by kernel_rfl
theorem s82_ok (n : Nat) : ConOK Go.Proofs.Try.prog 82 (s82_c n) := func_ok (h20 n) hP Go.Proofs.Try.func82 (by kernel_rfl) (by kernel_rfl) (O := []) trivial (s82_eq n)
def e21 (n : Nat) : Env := ⟨gT, (82, s82_c n) :: (e20 n).C, gQ, (e20 n).I, (e20 n).M, (e20 n).S, (e20 n).D⟩
theorem h21 (n : Nat) : EnvOK Go.Proofs.Try.prog (e21 n) := env_add (h20 n) (s82_ok n)

/-- criadera/gauge.moveErr -/
def s66 (n : Nat) (m : Int × (List UInt8) × (List UInt8) × Int) : Option (Int) :=
  (s60 n m.1).bind fun x =>
  (s23 n x (2 : Int)).bind fun x_1 =>
  (s82 n m.2.1).bind fun x_2 =>
  (part x_2 (s82 n m.2.2.1) false).bind fun x_3 =>
  (s23 n (x_2 && x_3) (4 : Int)).bind fun x_4 =>
  (s23 n ((m.2.1 : List UInt8) != m.2.2.1) (3 : Int)).bind fun x_5 =>
  (s81 n m.2.2.2).bind fun x_6 =>
  (s23 n x_6 (2 : Int)).bind fun x_7 =>
  (s22 n ([x_1, x_4, x_5, x_7] : List Int)).bind fun x_8 =>
  some (x_8)

def s66_c (n : Nat) : Con := ⟨[(.pair (.int .i64) (.pair .str (.pair .str (.int .i64))))], [], [(.int .i64)], fun x y => s66 n x, false⟩
theorem s66_eq (n : Nat) (x : denL [(.pair (.int .i64) (.pair .str (.pair .str (.int .i64))))]) (y : denL []) : funR (e21 n) Go.Proofs.Try.f66 [(.pair (.int .i64) (.pair .str (.pair .str (.int .i64))))] [] [(.int .i64)] false [] x y = (s66_c n).fn x y := by kernel_rfl
theorem s66_ok (n : Nat) : ConOK Go.Proofs.Try.prog 66 (s66_c n) := func_ok (h21 n) hP Go.Proofs.Try.func66 (by kernel_rfl) (by kernel_rfl) (O := []) trivial (s66_eq n)
def e22 (n : Nat) : Env := ⟨gT, (66, s66_c n) :: (e21 n).C, gQ, (e21 n).I, (e21 n).M, (e21 n).S, (e21 n).D⟩
theorem h22 (n : Nat) : EnvOK Go.Proofs.Try.prog (e22 n) := env_add (h21 n) (s66_ok n)

/-- criadera/gauge.CheckBook$2 -/
def s67 (n : Nat) (m : Int × (List UInt8) × (List UInt8) × Int) : Option (Int) :=
  some (m.1)

def s67_c (n : Nat) : Con := ⟨[(.pair (.int .i64) (.pair .str (.pair .str (.int .i64))))], [], [(.int .i64)], fun x y => s67 n x, false⟩
theorem s67_eq (n : Nat) (x : denL [(.pair (.int .i64) (.pair .str (.pair .str (.int .i64))))]) (y : denL []) : funR (e22 n) Go.Proofs.Try.f67 [(.pair (.int .i64) (.pair .str (.pair .str (.int .i64))))] [] [(.int .i64)] false [] x y = (s67_c n).fn x y := by kernel_rfl
theorem s67_ok (n : Nat) : ConOK Go.Proofs.Try.prog 67 (s67_c n) := func_ok (h22 n) hP Go.Proofs.Try.func67 (by kernel_rfl) (by kernel_rfl) (O := []) trivial (s67_eq n)
def e23 (n : Nat) : Env := ⟨gT, (67, s67_c n) :: (e22 n).C, gQ, (e22 n).I, (e22 n).M, (e22 n).S, (e22 n).D⟩
theorem h23 (n : Nat) : EnvOK Go.Proofs.Try.prog (e23 n) := env_add (h22 n) (s67_ok n)

/-- criadera/gauge.CheckBook -/
def s52 (n : Nat) (b : (Int × Int) × (List ((List UInt8) × Int × Int × Int)) × (List (Int × (List UInt8) × (List UInt8) × Int))) : Option ((Int × Int) × Int) :=
  (s41 n b.1.1 (0 : Int) (100000 : Int)).bind fun x =>
  (part x (s41 n b.1.2 (0 : Int) (100000 : Int)) false).bind fun x_1 =>
  (s23 n (x && x_1) (2 : Int)).bind fun x_2 =>
  (s61 n (b.1.1, b.1.2)).bind fun x_3 =>
  (s23 n ((decide (((List.length b.2.1 : Nat) : Int) ≤ (40 : Int))) && (decide (((List.length b.2.2 : Nat) : Int) ≤ (60 : Int)))) (8 : Int)).bind fun x_4 =>
  (s22 n ([x_2, x_3, x_4] : List Int)).bind fun x_5 =>
  bif (x_5 != (0 : Int)) then
    some (((0 : Int), (0 : Int)), x_5)
  else
    (s62 n b.2.1 (fun x => s63 n x) (fun x => s64 n x)).bind fun x_6 =>
    bif (x_6.2 != (0 : Int)) then
      some (((1 : Int), x_6.1), x_6.2)
    else
      (s65 n b.2.2 (fun x => s66 n x) (fun x => s67 n x)).bind fun x_7 =>
      bif (x_7.2 != (0 : Int)) then
        some (((2 : Int), x_7.1), x_7.2)
      else
        some (((0 : Int), (0 : Int)), (0 : Int))

def s52_c (n : Nat) : Con := ⟨[(.pair (.pair (.int .i64) (.int .i64)) (.pair (.slice (.pair .str (.pair (.int .i64) (.pair (.int .i64) (.int .i64))))) (.slice (.pair (.int .i64) (.pair .str (.pair .str (.int .i64)))))))], [], [(.pair (.int .i64) (.int .i64)), (.int .i64)], fun x y => s52 n x, false⟩
theorem s52_eq (n : Nat) (x : denL [(.pair (.pair (.int .i64) (.int .i64)) (.pair (.slice (.pair .str (.pair (.int .i64) (.pair (.int .i64) (.int .i64))))) (.slice (.pair (.int .i64) (.pair .str (.pair .str (.int .i64)))))))]) (y : denL []) : funR (e23 n) Go.Proofs.Try.f52 [(.pair (.pair (.int .i64) (.int .i64)) (.pair (.slice (.pair .str (.pair (.int .i64) (.pair (.int .i64) (.int .i64))))) (.slice (.pair (.int .i64) (.pair .str (.pair .str (.int .i64)))))))] [] [(.pair (.int .i64) (.int .i64)), (.int .i64)] false [] x y = (s52_c n).fn x y := by kernel_rfl
theorem s52_ok (n : Nat) : ConOK Go.Proofs.Try.prog 52 (s52_c n) := func_ok (h23 n) hP Go.Proofs.Try.func52 (by kernel_rfl) (by kernel_rfl) (O := []) trivial (s52_eq n)
def e24 (n : Nat) : Env := ⟨gT, (52, s52_c n) :: (e23 n).C, gQ, (e23 n).I, (e23 n).M, (e23 n).S, (e23 n).D⟩
theorem h24 (n : Nat) : EnvOK Go.Proofs.Try.prog (e24 n) := env_add (h23 n) (s52_ok n)

/-- criadera/gauge.openBook -/
def s31 (n : Nat) (b : (Int × Int) × (List ((List UInt8) × Int × Int × Int)) × (List (Int × (List UInt8) × (List UInt8) × Int))) : Option (((Int × Int) × (List ((List UInt8) × Int × Int × Int)) × (List (Int × (List UInt8) × (List UInt8) × Int))) × Int) :=
  (s52 n ((b.1.1, b.1.2), (b.2.1, b.2.2))).bind fun x =>
  some (((b.1.1, b.1.2), (b.2.1, b.2.2)), x.2)

def s31_c (n : Nat) : Con := ⟨[(.pair (.pair (.int .i64) (.int .i64)) (.pair (.slice (.pair .str (.pair (.int .i64) (.pair (.int .i64) (.int .i64))))) (.slice (.pair (.int .i64) (.pair .str (.pair .str (.int .i64)))))))], [], [(.pair (.pair (.int .i64) (.int .i64)) (.pair (.slice (.pair .str (.pair (.int .i64) (.pair (.int .i64) (.int .i64))))) (.slice (.pair (.int .i64) (.pair .str (.pair .str (.int .i64))))))), (.int .i64)], fun x y => s31 n x, false⟩
theorem s31_eq (n : Nat) (x : denL [(.pair (.pair (.int .i64) (.int .i64)) (.pair (.slice (.pair .str (.pair (.int .i64) (.pair (.int .i64) (.int .i64))))) (.slice (.pair (.int .i64) (.pair .str (.pair .str (.int .i64)))))))]) (y : denL []) : funR (e24 n) Go.Proofs.Try.f31 [(.pair (.pair (.int .i64) (.int .i64)) (.pair (.slice (.pair .str (.pair (.int .i64) (.pair (.int .i64) (.int .i64))))) (.slice (.pair (.int .i64) (.pair .str (.pair .str (.int .i64)))))))] [] [(.pair (.pair (.int .i64) (.int .i64)) (.pair (.slice (.pair .str (.pair (.int .i64) (.pair (.int .i64) (.int .i64))))) (.slice (.pair (.int .i64) (.pair .str (.pair .str (.int .i64))))))), (.int .i64)] false [] x y = (s31_c n).fn x y := by kernel_rfl
theorem s31_ok (n : Nat) : ConOK Go.Proofs.Try.prog 31 (s31_c n) := func_ok (h24 n) hP Go.Proofs.Try.func31 (by kernel_rfl) (by kernel_rfl) (O := []) trivial (s31_eq n)
def e25 (n : Nat) : Env := ⟨gT, (31, s31_c n) :: (e24 n).C, gQ, (e24 n).I, (e24 n).M, (e24 n).S, (e24 n).D⟩
theorem h25 (n : Nat) : EnvOK Go.Proofs.Try.prog (e25 n) := env_add (h24 n) (s31_ok n)

/-- criadera/gauge.nameErr -/
def s43 (n : Nat) (s : List UInt8) : Option (Int) :=
  (s59 n s).bind fun x =>
  (s23 n x (4 : Int)).bind fun x_1 =>
  some (x_1)

def s43_c (n : Nat) : Con := ⟨[.str], [], [(.int .i64)], fun x y => s43 n x, false⟩
theorem s43_eq (n : Nat) (x : denL [.str]) (y : denL []) : funR (e25 n) Go.Proofs.Try.f43 [.str] [] [(.int .i64)] false [] x y = (s43_c n).fn x y := by kernel_rfl
theorem s43_ok (n : Nat) : ConOK Go.Proofs.Try.prog 43 (s43_c n) := func_ok (h25 n) hP Go.Proofs.Try.func43 (by kernel_rfl) (by kernel_rfl) (O := []) trivial (s43_eq n)
def e26 (n : Nat) : Env := ⟨gT, (43, s43_c n) :: (e25 n).C, gQ, (e25 n).I, (e25 n).M, (e25 n).S, (e25 n).D⟩
theorem h26 (n : Nat) : EnvOK Go.Proofs.Try.prog (e26 n) := env_add (h25 n) (s43_ok n)

/-- criadera/gauge.dayErr -/
def s44 (n : Nat) (v_n : Int) : Option (Int) :=
  (s60 n v_n).bind fun x =>
  (s23 n x (2 : Int)).bind fun x_1 =>
  some (x_1)

def s44_c (n : Nat) : Con := ⟨[(.int .i64)], [], [(.int .i64)], fun x y => s44 n x, false⟩
theorem s44_eq (n : Nat) (x : denL [(.int .i64)]) (y : denL []) : funR (e26 n) Go.Proofs.Try.f44 [(.int .i64)] [] [(.int .i64)] false [] x y = (s44_c n).fn x y := by kernel_rfl
theorem s44_ok (n : Nat) : ConOK Go.Proofs.Try.prog 44 (s44_c n) := func_ok (h26 n) hP Go.Proofs.Try.func44 (by kernel_rfl) (by kernel_rfl) (O := []) trivial (s44_eq n)
def e27 (n : Nat) : Env := ⟨gT, (44, s44_c n) :: (e26 n).C, gQ, (e26 n).I, (e26 n).M, (e26 n).S, (e26 n).D⟩
theorem h27 (n : Nat) : EnvOK Go.Proofs.Try.prog (e27 n) := env_add (h26 n) (s44_ok n)

def s51_l0 (n : Nat) (d : (List UInt8) × Int × Int × Int × (List (Int × (List UInt8) × (List UInt8) × Int)) × Int × Int × Unit) (again : ((List UInt8) × Int × Int × Int × (List (Int × (List UInt8) × (List UInt8) × Int)) × Int × Int × Unit) → Option (Int)) (ks : (Int × Unit → Option (Int)) × Unit) : Option (Int) :=
  match d, ks with
  | (cask, behind, to, sum, t14, t15, t16, _), (k0, _) =>
  bif (decide (t16 < t15)) then
    (geti t14 t16).bind fun e =>
    bif ((decide (e.1 ≤ behind)) || (decide (e.1 > to))) then
      again (cask, behind, to, sum, t14, t15, (IntKind.wrap .i64 (t16 + (1 : Int))), ())
    else
      bif ((e.2.2.1 : List UInt8) == cask) then
        bif ((e.2.1 : List UInt8) == cask) then
          again (cask, behind, to, (IntKind.wrap .i64 ((IntKind.wrap .i64 (sum + e.2.2.2)) - e.2.2.2)), t14, t15, (IntKind.wrap .i64 (t16 + (1 : Int))), ())
        else
          again (cask, behind, to, (IntKind.wrap .i64 (sum + e.2.2.2)), t14, t15, (IntKind.wrap .i64 (t16 + (1 : Int))), ())
      else
        bif ((e.2.1 : List UInt8) == cask) then
          again (cask, behind, to, (IntKind.wrap .i64 (sum - e.2.2.2)), t14, t15, (IntKind.wrap .i64 (t16 + (1 : Int))), ())
        else
          again (cask, behind, to, sum, t14, t15, (IntKind.wrap .i64 (t16 + (1 : Int))), ())
  else
    k0 (sum, ())

/-- (criadera/gauge.book).net -/
def s51 (n : Nat) (b : (Int × Int) × (List ((List UInt8) × Int × Int × Int)) × (List (Int × (List UInt8) × (List UInt8) × Int))) (cask : List UInt8) (behind : Int) (to : Int) : Option (Int) :=
  loopG (s51_l0 n) n (cask, behind, to, (0 : Int), b.2.2, ((List.length b.2.2 : Nat) : Int), (0 : Int), ())
    (fun (sum_1, _) =>
      some (sum_1), ())

def s51_t0 : Templ := ⟨48, [.str, (.int .i64), (.int .i64), (.int .i64), (.slice (.pair (.int .i64) (.pair .str (.pair .str (.int .i64))))), (.int .i64), (.int .i64)], [(1, .v (.hole .str)), (2, .v (.hole (.int .i64))), (3, .v (.hole (.int .i64))), (9, .v (.hole (.int .i64))), (14, .v (.hole (.slice (.pair (.int .i64) (.pair .str (.pair .str (.int .i64))))))), (15, .v (.hole (.int .i64))), (16, .v (.hole (.int .i64)))], [], []⟩
def s51_x0 : List (Way × Templ) := [(.exit 0, ⟨48, [(.int .i64)], [(9, .v (.hole (.int .i64)))], [], []⟩)]
def s51_o0 (n : Nat) : Ev (denL [(.int .i64)]) := loopO n (e27 n) s51_t0 s51_x0 (s51_l0 n)
theorem s51_b0 (n : Nat) (d) (again) (ks) : codeR (R := (denL [(.int .i64)])) (e27 n) (Hdl.no (R := (denL [(.int .i64)]))) (inn (lp (bd Go.Proofs.Try.f51) 0)) [] (mk s51_t0 d) (turnR (e27 n) s51_t0 s51_x0 again ks) = s51_l0 n d again ks := by kernel_rfl
theorem s51_s0 (n : Nat) : Sound Go.Proofs.Try.prog (Hdl.no (R := (denL [(.int .i64)]))) false (lp (bd Go.Proofs.Try.f51) 0) (s51_o0 n) := loop_ok (h27 n) hP (by kernel_rfl) (O := []) trivial (s51_b0 n)
def s51_c (n : Nat) : Con := ⟨[(.pair (.pair (.int .i64) (.int .i64)) (.pair (.slice (.pair .str (.pair (.int .i64) (.pair (.int .i64) (.int .i64))))) (.slice (.pair (.int .i64) (.pair .str (.pair .str (.int .i64))))))), .str, (.int .i64), (.int .i64)], [], [(.int .i64)], fun x y => s51 n x.1 x.2.1 x.2.2.1 x.2.2.2, false⟩
theorem s51_eq (n : Nat) (x : denL [(.pair (.pair (.int .i64) (.int .i64)) (.pair (.slice (.pair .str (.pair (.int .i64) (.pair (.int .i64) (.int .i64))))) (.slice (.pair (.int .i64) (.pair .str (.pair .str (.int .i64))))))), .str, (.int .i64), (.int .i64)]) (y : denL []) : funR (e27 n) Go.Proofs.Try.f51 [(.pair (.pair (.int .i64) (.int .i64)) (.pair (.slice (.pair .str (.pair (.int .i64) (.pair (.int .i64) (.int .i64))))) (.slice (.pair (.int .i64) (.pair .str (.pair .str (.int .i64))))))), .str, (.int .i64), (.int .i64)] [] [(.int .i64)] false [s51_o0 n] x y = (s51_c n).fn x y := by kernel_rfl
theorem s51_ok (n : Nat) : ConOK Go.Proofs.Try.prog 51 (s51_c n) := func_ok (h27 n) hP Go.Proofs.Try.func51 (by kernel_rfl) (by kernel_rfl) (O := [s51_o0 n]) ⟨s51_s0 n, trivial⟩ (s51_eq n)
def e28 (n : Nat) : Env := ⟨gT, (51, s51_c n) :: (e27 n).C, gQ, (e27 n).I, (e27 n).M, (e27 n).S, (e27 n).D⟩
theorem h28 (n : Nat) : EnvOK Go.Proofs.Try.prog (e28 n) := env_add (h27 n) (s51_ok n)

/-- (criadera/gauge.book).allows -/
def s29 (n : Nat) (b : (Int × Int) × (List ((List UInt8) × Int × Int × Int)) × (List (Int × (List UInt8) × (List UInt8) × Int))) (r : (List UInt8) × Int × Int × Int) (day : Int) : Option ((Int × Int)) :=
  bif (decide ((IntKind.wrap .i64 (day - r.2.1)) ≥ (0 : Int))) then
    (s51 n ((b.1.1, b.1.2), (b.2.1, b.2.2)) r.1 r.2.1 day).bind fun x =>
    some (((IntKind.wrap .i64 ((IntKind.wrap .i64 ((1000 : Int) * (IntKind.wrap .i64 (r.2.2.1 + x)))) - (IntKind.wrap .i64 (b.1.2 * (IntKind.wrap .i64 (day - r.2.1)))))), (IntKind.wrap .i64 ((IntKind.wrap .i64 ((1000 : Int) * (IntKind.wrap .i64 (r.2.2.2 + x)))) - (IntKind.wrap .i64 (b.1.1 * (IntKind.wrap .i64 (day - r.2.1))))))))
  else
    (s51 n ((b.1.1, b.1.2), (b.2.1, b.2.2)) r.1 day r.2.1).bind fun x_1 =>
    some (((IntKind.wrap .i64 ((IntKind.wrap .i64 ((1000 : Int) * (IntKind.wrap .i64 (r.2.2.1 - x_1)))) + (IntKind.wrap .i64 (b.1.1 * (IntKind.wrap .i64 (r.2.1 - day)))))), (IntKind.wrap .i64 ((IntKind.wrap .i64 ((1000 : Int) * (IntKind.wrap .i64 (r.2.2.2 - x_1)))) + (IntKind.wrap .i64 (b.1.2 * (IntKind.wrap .i64 (r.2.1 - day))))))))

def s29_c (n : Nat) : Con := ⟨[(.pair (.pair (.int .i64) (.int .i64)) (.pair (.slice (.pair .str (.pair (.int .i64) (.pair (.int .i64) (.int .i64))))) (.slice (.pair (.int .i64) (.pair .str (.pair .str (.int .i64))))))), (.pair .str (.pair (.int .i64) (.pair (.int .i64) (.int .i64)))), (.int .i64)], [], [(.pair (.int .i64) (.int .i64))], fun x y => s29 n x.1 x.2.1 x.2.2, false⟩
theorem s29_eq (n : Nat) (x : denL [(.pair (.pair (.int .i64) (.int .i64)) (.pair (.slice (.pair .str (.pair (.int .i64) (.pair (.int .i64) (.int .i64))))) (.slice (.pair (.int .i64) (.pair .str (.pair .str (.int .i64))))))), (.pair .str (.pair (.int .i64) (.pair (.int .i64) (.int .i64)))), (.int .i64)]) (y : denL []) : funR (e28 n) Go.Proofs.Try.f29 [(.pair (.pair (.int .i64) (.int .i64)) (.pair (.slice (.pair .str (.pair (.int .i64) (.pair (.int .i64) (.int .i64))))) (.slice (.pair (.int .i64) (.pair .str (.pair .str (.int .i64))))))), (.pair .str (.pair (.int .i64) (.pair (.int .i64) (.int .i64)))), (.int .i64)] [] [(.pair (.int .i64) (.int .i64))] false [] x y = (s29_c n).fn x y := by kernel_rfl
theorem s29_ok (n : Nat) : ConOK Go.Proofs.Try.prog 29 (s29_c n) := func_ok (h28 n) hP Go.Proofs.Try.func29 (by kernel_rfl) (by kernel_rfl) (O := []) trivial (s29_eq n)
def e29 (n : Nat) : Env := ⟨gT, (29, s29_c n) :: (e28 n).C, gQ, (e28 n).I, (e28 n).M, (e28 n).S, (e28 n).D⟩
theorem h29 (n : Nat) : EnvOK Go.Proofs.Try.prog (e29 n) := env_add (h28 n) (s29_ok n)

/-- (criadera/gauge.book).contradict -/
def s30 (n : Nat) (b : (Int × Int) × (List ((List UInt8) × Int × Int × Int)) × (List (Int × (List UInt8) × (List UInt8) × Int))) (i : Int) (j : Int) : Option (Bool) :=
  (geti b.2.1 i).bind fun e =>
  (geti b.2.1 j).bind fun e_1 =>
  (s29 n ((b.1.1, b.1.2), (b.2.1, b.2.2)) (e.1, (e.2.1, (e.2.2.1, e.2.2.2))) e_1.2.1).bind fun x =>
  some ((((e.1 : List UInt8) == e_1.1) && ((decide (x.1 > (IntKind.wrap .i64 ((1000 : Int) * e_1.2.2.2)))) || (decide (x.2 < (IntKind.wrap .i64 ((1000 : Int) * e_1.2.2.1)))))))

def s30_c (n : Nat) : Con := ⟨[(.pair (.pair (.int .i64) (.int .i64)) (.pair (.slice (.pair .str (.pair (.int .i64) (.pair (.int .i64) (.int .i64))))) (.slice (.pair (.int .i64) (.pair .str (.pair .str (.int .i64))))))), (.int .i64), (.int .i64)], [], [.bool], fun x y => s30 n x.1 x.2.1 x.2.2, false⟩
theorem s30_eq (n : Nat) (x : denL [(.pair (.pair (.int .i64) (.int .i64)) (.pair (.slice (.pair .str (.pair (.int .i64) (.pair (.int .i64) (.int .i64))))) (.slice (.pair (.int .i64) (.pair .str (.pair .str (.int .i64))))))), (.int .i64), (.int .i64)]) (y : denL []) : funR (e29 n) Go.Proofs.Try.f30 [(.pair (.pair (.int .i64) (.int .i64)) (.pair (.slice (.pair .str (.pair (.int .i64) (.pair (.int .i64) (.int .i64))))) (.slice (.pair (.int .i64) (.pair .str (.pair .str (.int .i64))))))), (.int .i64), (.int .i64)] [] [.bool] false [] x y = (s30_c n).fn x y := by kernel_rfl
theorem s30_ok (n : Nat) : ConOK Go.Proofs.Try.prog 30 (s30_c n) := func_ok (h29 n) hP Go.Proofs.Try.func30 (by kernel_rfl) (by kernel_rfl) (O := []) trivial (s30_eq n)
def e30 (n : Nat) : Env := ⟨gT, (30, s30_c n) :: (e29 n).C, gQ, (e29 n).I, (e29 n).M, (e29 n).S, (e29 n).D⟩
theorem h30 (n : Nat) : EnvOK Go.Proofs.Try.prog (e30 n) := env_add (h29 n) (s30_ok n)

def s32_l0_0 (n : Nat) (d : Int × Int × Int × Int × Int × Int × (List ((List UInt8) × Int × Int × Int)) × (List (Int × (List UInt8) × (List UInt8) × Int)) × (List (Int × Int)) × Unit) (again : (Int × Int × Int × Int × Int × Int × (List ((List UInt8) × Int × Int × Int)) × (List (Int × (List UInt8) × (List UInt8) × Int)) × (List (Int × Int)) × Unit) → Option ((List (Int × Int)))) (ks : (Int × Int × Int × Int × (List ((List UInt8) × Int × Int × Int)) × (List (Int × (List UInt8) × (List UInt8) × Int)) × (List (Int × Int)) × Unit → Option ((List (Int × Int)))) × Unit) : Option ((List (Int × Int))) :=
  match d, ks with
  | (i, j, t9, t10, b, b_1, b_2, b_3, out, _), (k0, _) =>
  bif (decide (j < ((List.length b_2 : Nat) : Int))) then
    (s30 n ((b, b_1), (b_2, b_3)) i j).bind fun x =>
    bif x then
      (chk (List.length out + List.length ([(i, j)] : List (Int × Int)))).bind fun u =>
      again (i, (IntKind.wrap .i64 (j + (1 : Int))), t9, t10, b, b_1, b_2, b_3, (out ++ ([(i, j)] : List (Int × Int))), ())
    else
      again (i, (IntKind.wrap .i64 (j + (1 : Int))), t9, t10, b, b_1, b_2, b_3, out, ())
  else
    k0 (t9, t10, b, b_1, b_2, b_3, out, ())

def s32_l0 (n : Nat) (d : Int × Int × Int × Int × (List ((List UInt8) × Int × Int × Int)) × (List (Int × (List UInt8) × (List UInt8) × Int)) × (List (Int × Int)) × Unit) (again : (Int × Int × Int × Int × (List ((List UInt8) × Int × Int × Int)) × (List (Int × (List UInt8) × (List UInt8) × Int)) × (List (Int × Int)) × Unit) → Option ((List (Int × Int)))) (ks : ((List (Int × Int)) × Unit → Option ((List (Int × Int)))) × Unit) : Option ((List (Int × Int))) :=
  match d, ks with
  | (t9, t10, b, b_1, b_2, b_3, out, _), (k0, _) =>
  bif (decide (t10 < t9)) then
    loopG (s32_l0_0 n) n (t10, (IntKind.wrap .i64 (t10 + (1 : Int))), t9, t10, b, b_1, b_2, b_3, out, ())
      (fun (t9_2, t10_2, b_8, b_9, b_10, b_11, out_2, _) =>
        again (t9_2, (IntKind.wrap .i64 (t10_2 + (1 : Int))), b_8, b_9, b_10, b_11, out_2, ()), ())
  else
    k0 (out, ())

/-- (criadera/gauge.book).pairs -/
def s32 (n : Nat) (b : (Int × Int) × (List ((List UInt8) × Int × Int × Int)) × (List (Int × (List UInt8) × (List UInt8) × Int))) : Option ((List (Int × Int))) :=
  loopG (s32_l0 n) n (((List.length b.2.1 : Nat) : Int), (0 : Int), b.1.1, b.1.2, b.2.1, b.2.2, ([] : List (Int × Int)), ())
    (fun (out_3, _) =>
      some (out_3), ())

def s32_t0_0 : Templ := ⟨35, [(.int .i64), (.int .i64), (.int .i64), (.int .i64), (.int .i64), (.int .i64), (.slice (.pair .str (.pair (.int .i64) (.pair (.int .i64) (.int .i64))))), (.slice (.pair (.int .i64) (.pair .str (.pair .str (.int .i64))))), (.slice (.pair (.int .i64) (.int .i64)))], [(1, .v (.bptr 35 0)), (3, .v (.hand 36)), (4, .v (.hole (.int .i64))), (5, .v (.hole (.int .i64))), (9, .v (.hole (.int .i64))), (10, .v (.hole (.int .i64)))], [(35, .box (.pair (.pair (.int .i64) (.int .i64)) (.pair (.slice (.pair .str (.pair (.int .i64) (.pair (.int .i64) (.int .i64))))) (.slice (.pair (.int .i64) (.pair .str (.pair .str (.int .i64))))))) [.hole (.int .i64), .hole (.int .i64), .hole (.slice (.pair .str (.pair (.int .i64) (.pair (.int .i64) (.int .i64))))), .hole (.slice (.pair (.int .i64) (.pair .str (.pair .str (.int .i64)))))]), (36, .buf (.pair (.int .i64) (.int .i64)))], []⟩
def s32_x0_0 : List (Way × Templ) := [(.exit 2, ⟨35, [(.int .i64), (.int .i64), (.int .i64), (.int .i64), (.slice (.pair .str (.pair (.int .i64) (.pair (.int .i64) (.int .i64))))), (.slice (.pair (.int .i64) (.pair .str (.pair .str (.int .i64))))), (.slice (.pair (.int .i64) (.int .i64)))], [(1, .v (.bptr 35 0)), (3, .v (.hand 36)), (9, .v (.hole (.int .i64))), (10, .v (.hole (.int .i64)))], [(35, .box (.pair (.pair (.int .i64) (.int .i64)) (.pair (.slice (.pair .str (.pair (.int .i64) (.pair (.int .i64) (.int .i64))))) (.slice (.pair (.int .i64) (.pair .str (.pair .str (.int .i64))))))) [.hole (.int .i64), .hole (.int .i64), .hole (.slice (.pair .str (.pair (.int .i64) (.pair (.int .i64) (.int .i64))))), .hole (.slice (.pair (.int .i64) (.pair .str (.pair .str (.int .i64)))))]), (36, .buf (.pair (.int .i64) (.int .i64)))], []⟩)]
def s32_o0_0 (n : Nat) : Ev (denL [(.slice (.pair (.int .i64) (.int .i64)))]) := loopO n (e30 n) s32_t0_0 s32_x0_0 (s32_l0_0 n)
theorem s32_b0_0 (n : Nat) (d) (again) (ks) : codeR (R := (denL [(.slice (.pair (.int .i64) (.int .i64)))])) (e30 n) (Hdl.no (R := (denL [(.slice (.pair (.int .i64) (.int .i64)))]))) (inn (lp (inn (lp (bd Go.Proofs.Try.f32) 0)) 0)) [] (mk s32_t0_0 d) (turnR (e30 n) s32_t0_0 s32_x0_0 again ks) = s32_l0_0 n d again ks := by kernel_rfl
theorem s32_s0_0 (n : Nat) : Sound Go.Proofs.Try.prog (Hdl.no (R := (denL [(.slice (.pair (.int .i64) (.int .i64)))]))) false (lp (inn (lp (bd Go.Proofs.Try.f32) 0)) 0) (s32_o0_0 n) := loop_ok (h30 n) hP (by kernel_rfl) (O := []) trivial (s32_b0_0 n)
def s32_t0 : Templ := ⟨35, [(.int .i64), (.int .i64), (.int .i64), (.int .i64), (.slice (.pair .str (.pair (.int .i64) (.pair (.int .i64) (.int .i64))))), (.slice (.pair (.int .i64) (.pair .str (.pair .str (.int .i64))))), (.slice (.pair (.int .i64) (.int .i64)))], [(1, .v (.bptr 35 0)), (3, .v (.hand 36)), (9, .v (.hole (.int .i64))), (10, .v (.hole (.int .i64)))], [(35, .box (.pair (.pair (.int .i64) (.int .i64)) (.pair (.slice (.pair .str (.pair (.int .i64) (.pair (.int .i64) (.int .i64))))) (.slice (.pair (.int .i64) (.pair .str (.pair .str (.int .i64))))))) [.hole (.int .i64), .hole (.int .i64), .hole (.slice (.pair .str (.pair (.int .i64) (.pair (.int .i64) (.int .i64))))), .hole (.slice (.pair (.int .i64) (.pair .str (.pair .str (.int .i64)))))]), (36, .buf (.pair (.int .i64) (.int .i64)))], []⟩
def s32_x0 : List (Way × Templ) := [(.exit 0, ⟨35, [(.slice (.pair (.int .i64) (.int .i64)))], [(3, .v (.hand 35))], [(35, .buf (.pair (.int .i64) (.int .i64)))], []⟩)]
def s32_o0 (n : Nat) : Ev (denL [(.slice (.pair (.int .i64) (.int .i64)))]) := loopO n (e30 n) s32_t0 s32_x0 (s32_l0 n)
theorem s32_b0 (n : Nat) (d) (again) (ks) : codeR (R := (denL [(.slice (.pair (.int .i64) (.int .i64)))])) (e30 n) (Hdl.no (R := (denL [(.slice (.pair (.int .i64) (.int .i64)))]))) (inn (lp (bd Go.Proofs.Try.f32) 0)) [s32_o0_0 n] (mk s32_t0 d) (turnR (e30 n) s32_t0 s32_x0 again ks) = s32_l0 n d again ks := by kernel_rfl
theorem s32_s0 (n : Nat) : Sound Go.Proofs.Try.prog (Hdl.no (R := (denL [(.slice (.pair (.int .i64) (.int .i64)))]))) false (lp (bd Go.Proofs.Try.f32) 0) (s32_o0 n) := loop_ok (h30 n) hP (by kernel_rfl) (O := [s32_o0_0 n]) ⟨s32_s0_0 n, trivial⟩ (s32_b0 n)
def s32_c (n : Nat) : Con := ⟨[(.pair (.pair (.int .i64) (.int .i64)) (.pair (.slice (.pair .str (.pair (.int .i64) (.pair (.int .i64) (.int .i64))))) (.slice (.pair (.int .i64) (.pair .str (.pair .str (.int .i64)))))))], [], [(.slice (.pair (.int .i64) (.int .i64)))], fun x y => s32 n x, false⟩
theorem s32_eq (n : Nat) (x : denL [(.pair (.pair (.int .i64) (.int .i64)) (.pair (.slice (.pair .str (.pair (.int .i64) (.pair (.int .i64) (.int .i64))))) (.slice (.pair (.int .i64) (.pair .str (.pair .str (.int .i64)))))))]) (y : denL []) : funR (e30 n) Go.Proofs.Try.f32 [(.pair (.pair (.int .i64) (.int .i64)) (.pair (.slice (.pair .str (.pair (.int .i64) (.pair (.int .i64) (.int .i64))))) (.slice (.pair (.int .i64) (.pair .str (.pair .str (.int .i64)))))))] [] [(.slice (.pair (.int .i64) (.int .i64)))] false [s32_o0 n] x y = (s32_c n).fn x y := by kernel_rfl
theorem s32_ok (n : Nat) : ConOK Go.Proofs.Try.prog 32 (s32_c n) := func_ok (h30 n) hP Go.Proofs.Try.func32 (by kernel_rfl) (by kernel_rfl) (O := [s32_o0 n]) ⟨s32_s0 n, trivial⟩ (s32_eq n)
def e31 (n : Nat) : Env := ⟨gT, (32, s32_c n) :: (e30 n).C, gQ, (e30 n).I, (e30 n).M, (e30 n).S, (e30 n).D⟩
theorem h31 (n : Nat) : EnvOK Go.Proofs.Try.prog (e31 n) := env_add (h30 n) (s32_ok n)

/-- criadera/gauge.floor -/
def s48 (n : Nat) (v_n : Int) (v_by : Int) : Option (Int) :=
  (qdiv .i64 v_n v_by).bind fun q =>
  (qrem v_n v_by).bind fun r =>
  bif (decide (r < (0 : Int))) then
    some ((IntKind.wrap .i64 (q - (1 : Int))))
  else
    some (q)

def s48_c (n : Nat) : Con := ⟨[(.int .i64), (.int .i64)], [], [(.int .i64)], fun x y => s48 n x.1 x.2, false⟩
theorem s48_eq (n : Nat) (x : denL [(.int .i64), (.int .i64)]) (y : denL []) : funR (e31 n) Go.Proofs.Try.f48 [(.int .i64), (.int .i64)] [] [(.int .i64)] false [] x y = (s48_c n).fn x y := by kernel_rfl
theorem s48_ok (n : Nat) : ConOK Go.Proofs.Try.prog 48 (s48_c n) := func_ok (h31 n) hP Go.Proofs.Try.func48 (by kernel_rfl) (by kernel_rfl) (O := []) trivial (s48_eq n)
def e32 (n : Nat) : Env := ⟨gT, (48, s48_c n) :: (e31 n).C, gQ, (e31 n).I, (e31 n).M, (e31 n).S, (e31 n).D⟩
theorem h32 (n : Nat) : EnvOK Go.Proofs.Try.prog (e32 n) := env_add (h31 n) (s48_ok n)

/-- criadera/gauge.ceil -/
def s49 (n : Nat) (v_n : Int) (v_by : Int) : Option (Int) :=
  (s48 n (IntKind.wrap .i64 (0 - v_n)) v_by).bind fun x =>
  some ((IntKind.wrap .i64 (0 - x)))

def s49_c (n : Nat) : Con := ⟨[(.int .i64), (.int .i64)], [], [(.int .i64)], fun x y => s49 n x.1 x.2, false⟩
theorem s49_eq (n : Nat) (x : denL [(.int .i64), (.int .i64)]) (y : denL []) : funR (e32 n) Go.Proofs.Try.f49 [(.int .i64), (.int .i64)] [] [(.int .i64)] false [] x y = (s49_c n).fn x y := by kernel_rfl
theorem s49_ok (n : Nat) : ConOK Go.Proofs.Try.prog 49 (s49_c n) := func_ok (h32 n) hP Go.Proofs.Try.func49 (by kernel_rfl) (by kernel_rfl) (O := []) trivial (s49_eq n)
def e33 (n : Nat) : Env := ⟨gT, (49, s49_c n) :: (e32 n).C, gQ, (e32 n).I, (e32 n).M, (e32 n).S, (e32 n).D⟩
theorem h33 (n : Nat) : EnvOK Go.Proofs.Try.prog (e33 n) := env_add (h32 n) (s49_ok n)

/-- criadera/gauge.told -/
def s28 (n : Nat) (r : Int × Int) : Option ((Int × Int)) :=
  (s48 n r.1 (1000 : Int)).bind fun x =>
  (s49 n r.2 (1000 : Int)).bind fun x_1 =>
  some ((x, x_1))

def s28_c (n : Nat) : Con := ⟨[(.pair (.int .i64) (.int .i64))], [], [(.pair (.int .i64) (.int .i64))], fun x y => s28 n x, false⟩
theorem s28_eq (n : Nat) (x : denL [(.pair (.int .i64) (.int .i64))]) (y : denL []) : funR (e33 n) Go.Proofs.Try.f28 [(.pair (.int .i64) (.int .i64))] [] [(.pair (.int .i64) (.int .i64))] false [] x y = (s28_c n).fn x y := by kernel_rfl
theorem s28_ok (n : Nat) : ConOK Go.Proofs.Try.prog 28 (s28_c n) := func_ok (h33 n) hP Go.Proofs.Try.func28 (by kernel_rfl) (by kernel_rfl) (O := []) trivial (s28_eq n)
def e34 (n : Nat) : Env := ⟨gT, (28, s28_c n) :: (e33 n).C, gQ, (e33 n).I, (e33 n).M, (e33 n).S, (e33 n).D⟩
theorem h34 (n : Nat) : EnvOK Go.Proofs.Try.prog (e34 n) := env_add (h33 n) (s28_ok n)

def s45_l0 (n : Nat) (d : (List UInt8) × Int × (List (Int × Int)) × Int × Int × Int × Int × (List ((List UInt8) × Int × Int × Int)) × (List (Int × (List UInt8) × (List UInt8) × Int)) × Int × Int × Unit) (again : ((List UInt8) × Int × (List (Int × Int)) × Int × Int × Int × Int × (List ((List UInt8) × Int × Int × Int)) × (List (Int × (List UInt8) × (List UInt8) × Int)) × Int × Int × Unit) → Option ((Int × Int) × Int)) (ks : ((List UInt8) × Int × Int × Int × (List ((List UInt8) × Int × Int × Int)) × (List (Int × (List UInt8) × (List UInt8) × Int)) × Int × Int × Unit → Option ((Int × Int) × Int)) × (Int × Int × Int × Unit → Option ((Int × Int) × Int)) × Unit) : Option ((Int × Int) × Int) :=
  match d, ks with
  | (cask, day, t16, t17, t18, b, b_1, b_2, b_3, t6, t6_1, _), (k0, k1, _) =>
  bif (decide (t18 < t17)) then
    (geti t16 t18).bind fun e =>
    (geti b_2 e.1).bind fun e_1 =>
    bif ((e_1.1 : List UInt8) == cask) then
      k1 ((13 : Int), (0 : Int), (0 : Int), ())
    else
      again (cask, day, t16, t17, (IntKind.wrap .i64 (t18 + (1 : Int))), b, b_1, b_2, b_3, t6, t6_1, ())
  else
    k0 (cask, day, b, b_1, b_2, b_3, t6, t6_1, ())

def s45_l1 (n : Nat) (d : (List UInt8) × Int × Bool × (List ((List UInt8) × Int × Int × Int)) × Int × Int × Int × Int × (List ((List UInt8) × Int × Int × Int)) × (List (Int × (List UInt8) × (List UInt8) × Int)) × Int × Int × Int × Int × Unit) (again : ((List UInt8) × Int × Bool × (List ((List UInt8) × Int × Int × Int)) × Int × Int × Int × Int × (List ((List UInt8) × Int × Int × Int)) × (List (Int × (List UInt8) × (List UInt8) × Int)) × Int × Int × Int × Int × Unit) → Option ((Int × Int) × Int)) (ks : (Bool × Int × Int × Int × Int × Unit → Option ((Int × Int) × Int)) × Unit) : Option ((Int × Int) × Int) :=
  match d, ks with
  | (cask, day, known, t36, t37, t38, b, b_1, b_2, b_3, t6, t6_1, out, out_1, _), (k0, _) =>
  bif (decide (t38 < t37)) then
    (geti t36 t38).bind fun e =>
    bif ((e.1 : List UInt8) != cask) then
      again (cask, day, known, t36, t37, (IntKind.wrap .i64 (t38 + (1 : Int))), b, b_1, b_2, b_3, t6, t6_1, out, out_1, ())
    else
      (s29 n ((b, b_1), (b_2, b_3)) (e.1, (e.2.1, (e.2.2.1, e.2.2.2))) day).bind fun x =>
      bif known then
        again (cask, day, true, t36, t37, (IntKind.wrap .i64 (t38 + (1 : Int))), b, b_1, b_2, b_3, t6, t6_1, (imax x.1 out), (imin x.2 out_1), ())
      else
        again (cask, day, true, t36, t37, (IntKind.wrap .i64 (t38 + (1 : Int))), b, b_1, b_2, b_3, t6, t6_1, x.1, x.2, ())
  else
    k0 (known, t6, t6_1, out, out_1, ())

/-- (criadera/gauge.book).at -/
def s45 (n : Nat) (b : (Int × Int) × (List ((List UInt8) × Int × Int × Int)) × (List (Int × (List UInt8) × (List UInt8) × Int))) (cask : List UInt8) (day : Int) : Option ((Int × Int) × Int) :=
  (s32 n ((b.1.1, b.1.2), (b.2.1, b.2.2))).bind fun x =>
  loopG (s45_l0 n) n (cask, day, x, ((List.length x : Nat) : Int), (0 : Int), b.1.1, b.1.2, b.2.1, b.2.2, (0 : Int), (0 : Int), ())
    (fun (cask_2, day_2, b_5, b_6, b_7, b_8, t6_2, t6_3, _) =>
      loopG (s45_l1 n) n (cask_2, day_2, false, b_7, ((List.length b_7 : Nat) : Int), (0 : Int), b_5, b_6, b_7, b_8, t6_2, t6_3, (0 : Int), (0 : Int), ())
        (fun (known_1, t6_6, t6_7, out_2, out_3, _) =>
          bif (!known_1) then
            some (((0 : Int), (0 : Int)), (12 : Int))
          else
            (s28 n (out_2, out_3)).bind fun x_2 =>
            some ((x_2.1, x_2.2), (0 : Int)), ()),
    fun (t7, t6_8, t6_9, _) =>
      some ((t6_8, t6_9), t7), ())

def s45_t0 : Templ := ⟨69, [.str, (.int .i64), (.slice (.pair (.int .i64) (.int .i64))), (.int .i64), (.int .i64), (.int .i64), (.int .i64), (.slice (.pair .str (.pair (.int .i64) (.pair (.int .i64) (.int .i64))))), (.slice (.pair (.int .i64) (.pair .str (.pair .str (.int .i64))))), (.int .i64), (.int .i64)], [(1, .v (.hole .str)), (2, .v (.hole (.int .i64))), (3, .v (.bptr 69 0)), (6, .v (.bptr 70 0)), (16, .v (.hole (.slice (.pair (.int .i64) (.int .i64))))), (17, .v (.hole (.int .i64))), (18, .v (.hole (.int .i64)))], [(69, .box (.pair (.pair (.int .i64) (.int .i64)) (.pair (.slice (.pair .str (.pair (.int .i64) (.pair (.int .i64) (.int .i64))))) (.slice (.pair (.int .i64) (.pair .str (.pair .str (.int .i64))))))) [.hole (.int .i64), .hole (.int .i64), .hole (.slice (.pair .str (.pair (.int .i64) (.pair (.int .i64) (.int .i64))))), .hole (.slice (.pair (.int .i64) (.pair .str (.pair .str (.int .i64)))))]), (70, .box (.pair (.int .i64) (.int .i64)) [.hole (.int .i64), .hole (.int .i64)])], []⟩
def s45_x0 : List (Way × Templ) := [(.exit 0, ⟨69, [.str, (.int .i64), (.int .i64), (.int .i64), (.slice (.pair .str (.pair (.int .i64) (.pair (.int .i64) (.int .i64))))), (.slice (.pair (.int .i64) (.pair .str (.pair .str (.int .i64))))), (.int .i64), (.int .i64)], [(1, .v (.hole .str)), (2, .v (.hole (.int .i64))), (3, .v (.bptr 69 0)), (6, .v (.bptr 70 0))], [(69, .box (.pair (.pair (.int .i64) (.int .i64)) (.pair (.slice (.pair .str (.pair (.int .i64) (.pair (.int .i64) (.int .i64))))) (.slice (.pair (.int .i64) (.pair .str (.pair .str (.int .i64))))))) [.hole (.int .i64), .hole (.int .i64), .hole (.slice (.pair .str (.pair (.int .i64) (.pair (.int .i64) (.int .i64))))), .hole (.slice (.pair (.int .i64) (.pair .str (.pair .str (.int .i64)))))]), (70, .box (.pair (.int .i64) (.int .i64)) [.hole (.int .i64), .hole (.int .i64)])], []⟩), (.ret, ⟨69, [(.int .i64), (.int .i64), (.int .i64)], [(6, .v (.bptr 69 0)), (7, .v (.hole (.int .i64)))], [(69, .box (.pair (.int .i64) (.int .i64)) [.hole (.int .i64), .hole (.int .i64)])], []⟩)]
def s45_o0 (n : Nat) : Ev (denL [(.pair (.int .i64) (.int .i64)), (.int .i64)]) := loopO n (e34 n) s45_t0 s45_x0 (s45_l0 n)
theorem s45_b0 (n : Nat) (d) (again) (ks) : codeR (R := (denL [(.pair (.int .i64) (.int .i64)), (.int .i64)])) (e34 n) (Hdl.no (R := (denL [(.pair (.int .i64) (.int .i64)), (.int .i64)]))) (inn (lp (bd Go.Proofs.Try.f45) 0)) [] (mk s45_t0 d) (turnR (e34 n) s45_t0 s45_x0 again ks) = s45_l0 n d again ks := by kernel_rfl
theorem s45_s0 (n : Nat) : Sound Go.Proofs.Try.prog (Hdl.no (R := (denL [(.pair (.int .i64) (.int .i64)), (.int .i64)]))) false (lp (bd Go.Proofs.Try.f45) 0) (s45_o0 n) := loop_ok (h34 n) hP (by kernel_rfl) (O := []) trivial (s45_b0 n)
def s45_t1 : Templ := ⟨69, [.str, (.int .i64), .bool, (.slice (.pair .str (.pair (.int .i64) (.pair (.int .i64) (.int .i64))))), (.int .i64), (.int .i64), (.int .i64), (.int .i64), (.slice (.pair .str (.pair (.int .i64) (.pair (.int .i64) (.int .i64))))), (.slice (.pair (.int .i64) (.pair .str (.pair .str (.int .i64))))), (.int .i64), (.int .i64), (.int .i64), (.int .i64)], [(1, .v (.hole .str)), (2, .v (.hole (.int .i64))), (3, .v (.bptr 69 0)), (6, .v (.bptr 70 0)), (10, .v (.bptr 71 0)), (11, .v (.hole .bool)), (36, .v (.hole (.slice (.pair .str (.pair (.int .i64) (.pair (.int .i64) (.int .i64))))))), (37, .v (.hole (.int .i64))), (38, .v (.hole (.int .i64)))], [(69, .box (.pair (.pair (.int .i64) (.int .i64)) (.pair (.slice (.pair .str (.pair (.int .i64) (.pair (.int .i64) (.int .i64))))) (.slice (.pair (.int .i64) (.pair .str (.pair .str (.int .i64))))))) [.hole (.int .i64), .hole (.int .i64), .hole (.slice (.pair .str (.pair (.int .i64) (.pair (.int .i64) (.int .i64))))), .hole (.slice (.pair (.int .i64) (.pair .str (.pair .str (.int .i64)))))]), (70, .box (.pair (.int .i64) (.int .i64)) [.hole (.int .i64), .hole (.int .i64)]), (71, .box (.pair (.int .i64) (.int .i64)) [.hole (.int .i64), .hole (.int .i64)])], []⟩
def s45_x1 : List (Way × Templ) := [(.exit 2, ⟨69, [.bool, (.int .i64), (.int .i64), (.int .i64), (.int .i64)], [(6, .v (.bptr 69 0)), (10, .v (.bptr 70 0)), (11, .v (.hole .bool))], [(69, .box (.pair (.int .i64) (.int .i64)) [.hole (.int .i64), .hole (.int .i64)]), (70, .box (.pair (.int .i64) (.int .i64)) [.hole (.int .i64), .hole (.int .i64)])], []⟩)]
def s45_o1 (n : Nat) : Ev (denL [(.pair (.int .i64) (.int .i64)), (.int .i64)]) := loopO n (e34 n) s45_t1 s45_x1 (s45_l1 n)
theorem s45_b1 (n : Nat) (d) (again) (ks) : codeR (R := (denL [(.pair (.int .i64) (.int .i64)), (.int .i64)])) (e34 n) (Hdl.no (R := (denL [(.pair (.int .i64) (.int .i64)), (.int .i64)]))) (inn (lp (bd Go.Proofs.Try.f45) 1)) [] (mk s45_t1 d) (turnR (e34 n) s45_t1 s45_x1 again ks) = s45_l1 n d again ks := by kernel_rfl
theorem s45_s1 (n : Nat) : Sound Go.Proofs.Try.prog (Hdl.no (R := (denL [(.pair (.int .i64) (.int .i64)), (.int .i64)]))) false (lp (bd Go.Proofs.Try.f45) 1) (s45_o1 n) := loop_ok (h34 n) hP (by kernel_rfl) (O := []) trivial (s45_b1 n)
def s45_c (n : Nat) : Con := ⟨[(.pair (.pair (.int .i64) (.int .i64)) (.pair (.slice (.pair .str (.pair (.int .i64) (.pair (.int .i64) (.int .i64))))) (.slice (.pair (.int .i64) (.pair .str (.pair .str (.int .i64))))))), .str, (.int .i64)], [], [(.pair (.int .i64) (.int .i64)), (.int .i64)], fun x y => s45 n x.1 x.2.1 x.2.2, false⟩
theorem s45_eq (n : Nat) (x : denL [(.pair (.pair (.int .i64) (.int .i64)) (.pair (.slice (.pair .str (.pair (.int .i64) (.pair (.int .i64) (.int .i64))))) (.slice (.pair (.int .i64) (.pair .str (.pair .str (.int .i64))))))), .str, (.int .i64)]) (y : denL []) : funR (e34 n) Go.Proofs.Try.f45 [(.pair (.pair (.int .i64) (.int .i64)) (.pair (.slice (.pair .str (.pair (.int .i64) (.pair (.int .i64) (.int .i64))))) (.slice (.pair (.int .i64) (.pair .str (.pair .str (.int .i64))))))), .str, (.int .i64)] [] [(.pair (.int .i64) (.int .i64)), (.int .i64)] false [s45_o0 n, s45_o1 n] x y = (s45_c n).fn x y := by kernel_rfl
theorem s45_ok (n : Nat) : ConOK Go.Proofs.Try.prog 45 (s45_c n) := func_ok (h34 n) hP Go.Proofs.Try.func45 (by kernel_rfl) (by kernel_rfl) (O := [s45_o0 n, s45_o1 n]) ⟨s45_s0 n, s45_s1 n, trivial⟩ (s45_eq n)
def e35 (n : Nat) : Env := ⟨gT, (45, s45_c n) :: (e34 n).C, gQ, (e34 n).I, (e34 n).M, (e34 n).S, (e34 n).D⟩
theorem h35 (n : Nat) : EnvOK Go.Proofs.Try.prog (e35 n) := env_add (h34 n) (s45_ok n)

/-- criadera/gauge.VolumeAt -/
def s18 (n : Nat) (b : (Int × Int) × (List ((List UInt8) × Int × Int × Int)) × (List (Int × (List UInt8) × (List UInt8) × Int))) (cask : List UInt8) (day : Int) : Option ((Int × Int) × Int) :=
  (s31 n ((b.1.1, b.1.2), (b.2.1, b.2.2))).bind fun x =>
  (s43 n cask).bind fun x_1 =>
  (s44 n day).bind fun x_2 =>
  (s22 n ([x.2, x_1, x_2] : List Int)).bind fun x_3 =>
  bif (x_3 != (0 : Int)) then
    some (((0 : Int), (0 : Int)), x_3)
  else
    (s45 n ((x.1.1.1, x.1.1.2), (x.1.2.1, x.1.2.2)) cask day).bind fun x_4 =>
    some ((x_4.1.1, x_4.1.2), x_4.2)

def s18_c (n : Nat) : Con := ⟨[(.pair (.pair (.int .i64) (.int .i64)) (.pair (.slice (.pair .str (.pair (.int .i64) (.pair (.int .i64) (.int .i64))))) (.slice (.pair (.int .i64) (.pair .str (.pair .str (.int .i64))))))), .str, (.int .i64)], [], [(.pair (.int .i64) (.int .i64)), (.int .i64)], fun x y => s18 n x.1 x.2.1 x.2.2, false⟩
theorem s18_eq (n : Nat) (x : denL [(.pair (.pair (.int .i64) (.int .i64)) (.pair (.slice (.pair .str (.pair (.int .i64) (.pair (.int .i64) (.int .i64))))) (.slice (.pair (.int .i64) (.pair .str (.pair .str (.int .i64))))))), .str, (.int .i64)]) (y : denL []) : funR (e35 n) Go.Proofs.Try.f18 [(.pair (.pair (.int .i64) (.int .i64)) (.pair (.slice (.pair .str (.pair (.int .i64) (.pair (.int .i64) (.int .i64))))) (.slice (.pair (.int .i64) (.pair .str (.pair .str (.int .i64))))))), .str, (.int .i64)] [] [(.pair (.int .i64) (.int .i64)), (.int .i64)] false [] x y = (s18_c n).fn x y := by kernel_rfl
theorem s18_ok (n : Nat) : ConOK Go.Proofs.Try.prog 18 (s18_c n) := func_ok (h35 n) hP Go.Proofs.Try.func18 (by kernel_rfl) (by kernel_rfl) (O := []) trivial (s18_eq n)
def e36 (n : Nat) : Env := ⟨gT, (18, s18_c n) :: (e35 n).C, gQ, (e35 n).I, (e35 n).M, (e35 n).S, (e35 n).D⟩
theorem h36 (n : Nat) : EnvOK Go.Proofs.Try.prog (e36 n) := env_add (h35 n) (s18_ok n)

/-- criadera/criaderatop.gaugeAwake -/
def s5 (n : Nat) : Option (Bool) :=
  (s17 n (10 : Int) (-8 : Int)).bind fun x =>
  (s19 n).bind fun x_1 =>
  (s18 n x_1 [98, 117, 116, 116] (4 : Int)).bind fun x_2 =>
  some (((((x.2 == (0 : Int)) && ((x.1.1 == (8 : Int)) && (x.1.2 == (21 : Int)))) && (x_2.2 == (0 : Int))) && ((x_2.1.1 == (492 : Int)) && (x_2.1.2 == (496 : Int)))))

def s5_c (n : Nat) : Con := ⟨[], [], [.bool], fun x y => s5 n, false⟩
theorem s5_eq (n : Nat) (x : denL []) (y : denL []) : funR (e36 n) Go.Proofs.Try.f5 [] [] [.bool] false [] x y = (s5_c n).fn x y := by kernel_rfl
theorem s5_ok (n : Nat) : ConOK Go.Proofs.Try.prog 5 (s5_c n) := func_ok (h36 n) hP Go.Proofs.Try.func5 (by kernel_rfl) (by kernel_rfl) (O := []) trivial (s5_eq n)
def e37 (n : Nat) : Env := ⟨gT, (5, s5_c n) :: (e36 n).C, gQ, (e36 n).I, (e36 n).M, (e36 n).S, (e36 n).D⟩
theorem h37 (n : Nat) : EnvOK Go.Proofs.Try.prog (e37 n) := env_add (h36 n) (s5_ok n)

/-- criadera/criaderalaw04.Small -/
def s6 (n : Nat) (c : (List UInt8) × Int × (List (Int × Int × Int))) : Option (Bool) :=
  some ((((decide (((List.length c.1 : Nat) : Int) ≤ (20 : Int))) && ((decide (((List.length c.2.2 : Nat) : Int) ≤ (4 : Int))) || ((decide (((List.length c.2.2 : Nat) : Int) > (12 : Int))) && (decide (((List.length c.2.2 : Nat) : Int) ≤ (14 : Int)))))) && ((decide (c.2.1 ≤ (60 : Int))) || (decide (c.2.1 > (800 : Int))))))

def s6_c (n : Nat) : Con := ⟨[(.pair .str (.pair (.int .i64) (.slice (.pair (.int .i64) (.pair (.int .i64) (.int .i64))))))], [], [.bool], fun x y => s6 n x, false⟩
theorem s6_eq (n : Nat) (x : denL [(.pair .str (.pair (.int .i64) (.slice (.pair (.int .i64) (.pair (.int .i64) (.int .i64))))))]) (y : denL []) : funR (e37 n) Go.Proofs.Try.f6 [(.pair .str (.pair (.int .i64) (.slice (.pair (.int .i64) (.pair (.int .i64) (.int .i64))))))] [] [.bool] false [] x y = (s6_c n).fn x y := by kernel_rfl
theorem s6_ok (n : Nat) : ConOK Go.Proofs.Try.prog 6 (s6_c n) := func_ok (h37 n) hP Go.Proofs.Try.func6 (by kernel_rfl) (by kernel_rfl) (O := []) trivial (s6_eq n)
def e38 (n : Nat) : Env := ⟨gT, (6, s6_c n) :: (e37 n).C, gQ, (e37 n).I, (e37 n).M, (e37 n).S, (e37 n).D⟩
theorem h38 (n : Nat) : EnvOK Go.Proofs.Try.prog (e38 n) := env_add (h37 n) (s6_ok n)

def s46_l0 (n : Nat) (d : (List UInt8) × Int × Unit) (again : ((List UInt8) × Int × Unit) → Option (Bool)) (ks : (Unit → Option (Bool)) × (Bool × Unit → Option (Bool)) × Unit) : Option (Bool) :=
  match d, ks with
  | (s, i, _), (k0, k1, _) =>
  bif (decide (i < ((List.length s : Nat) : Int))) then
    (geti s i).bind fun c =>
    bif ((!(((decide (((UInt8.toNat c : Nat) : Int) ≥ (97 : Int))) && (decide (((UInt8.toNat c : Nat) : Int) ≤ (122 : Int)))) || ((decide (((UInt8.toNat c : Nat) : Int) ≥ (65 : Int))) && (decide (((UInt8.toNat c : Nat) : Int) ≤ (90 : Int)))))) && ((i == (0 : Int)) || ((((UInt8.toNat c : Nat) : Int) != (45 : Int)) && ((decide (((UInt8.toNat c : Nat) : Int) < (48 : Int))) || (decide (((UInt8.toNat c : Nat) : Int) > (57 : Int))))))) then
      k1 (false, ())
    else
      again (s, (IntKind.wrap .i64 (i + (1 : Int))), ())
  else
    k0 (())

/-- criadera/criaderabase.IsName -/
def s46 (n : Nat) (s : List UInt8) : Option (Bool) :=
  bif ((decide (((List.length s : Nat) : Int) < (1 : Int))) || (decide (((List.length s : Nat) : Int) > (12 : Int)))) then
    some (false)
  else
    loopG (s46_l0 n) n (s, (0 : Int), ())
      (fun (_) =>
        some (true),
      fun (t2, _) =>
        some (t2), ())

def s46_t0 : Templ := ⟨55, [.str, (.int .i64)], [(0, .v (.hole .str)), (3, .v (.hole (.int .i64)))], [], []⟩
def s46_x0 : List (Way × Templ) := [(.exit 0, ⟨55, [], [], [], []⟩), (.ret, ⟨55, [.bool], [(2, .v (.hole .bool))], [], []⟩)]
def s46_o0 (n : Nat) : Ev (denL [.bool]) := loopO n (e38 n) s46_t0 s46_x0 (s46_l0 n)
theorem s46_b0 (n : Nat) (d) (again) (ks) : codeR (R := (denL [.bool])) (e38 n) (Hdl.no (R := (denL [.bool]))) (inn (lp (bd Go.Proofs.Try.f46) 0)) [] (mk s46_t0 d) (turnR (e38 n) s46_t0 s46_x0 again ks) = s46_l0 n d again ks := by kernel_rfl
theorem s46_s0 (n : Nat) : Sound Go.Proofs.Try.prog (Hdl.no (R := (denL [.bool]))) false (lp (bd Go.Proofs.Try.f46) 0) (s46_o0 n) := loop_ok (h38 n) hP (by kernel_rfl) (O := []) trivial (s46_b0 n)
def s46_c (n : Nat) : Con := ⟨[.str], [], [.bool], fun x y => s46 n x, false⟩
theorem s46_eq (n : Nat) (x : denL [.str]) (y : denL []) : funR (e38 n) Go.Proofs.Try.f46 [.str] [] [.bool] false [s46_o0 n] x y = (s46_c n).fn x y := by kernel_rfl
theorem s46_ok (n : Nat) : ConOK Go.Proofs.Try.prog 46 (s46_c n) := func_ok (h38 n) hP Go.Proofs.Try.func46 (by kernel_rfl) (by kernel_rfl) (O := [s46_o0 n]) ⟨s46_s0 n, trivial⟩ (s46_eq n)
def e39 (n : Nat) : Env := ⟨gT, (46, s46_c n) :: (e38 n).C, gQ, (e38 n).I, (e38 n).M, (e38 n).S, (e38 n).D⟩
theorem h39 (n : Nat) : EnvOK Go.Proofs.Try.prog (e39 n) := env_add (h38 n) (s46_ok n)

/-- criadera/criaderabase.Within -/
def s12 (n : Nat) (v_n : Int) (lo : Int) (hi : Int) : Option (Bool) :=
  some (((decide (lo ≤ v_n)) && (decide (v_n ≤ hi))))

def s12_c (n : Nat) : Con := ⟨[(.int .i64), (.int .i64), (.int .i64)], [], [.bool], fun x y => s12 n x.1 x.2.1 x.2.2, false⟩
theorem s12_eq (n : Nat) (x : denL [(.int .i64), (.int .i64), (.int .i64)]) (y : denL []) : funR (e39 n) Go.Proofs.Try.f12 [(.int .i64), (.int .i64), (.int .i64)] [] [.bool] false [] x y = (s12_c n).fn x y := by kernel_rfl
theorem s12_ok (n : Nat) : ConOK Go.Proofs.Try.prog 12 (s12_c n) := func_ok (h39 n) hP Go.Proofs.Try.func12 (by kernel_rfl) (by kernel_rfl) (O := []) trivial (s12_eq n)
def e40 (n : Nat) : Env := ⟨gT, (12, s12_c n) :: (e39 n).C, gQ, (e39 n).I, (e39 n).M, (e39 n).S, (e39 n).D⟩
theorem h40 (n : Nat) : EnvOK Go.Proofs.Try.prog (e40 n) := env_add (h39 n) (s12_ok n)

/-- criadera/criaderaref04.Copy -/
def s14 (n : Nat) (b : (Int × Int) × (List ((List UInt8) × Int × Int × Int)) × (List (Int × (List UInt8) × (List UInt8) × Int))) : Option (((Int × Int) × (List ((List UInt8) × Int × Int × Int)) × (List (Int × (List UInt8) × (List UInt8) × Int)))) :=
  (chk (List.length ([] : List ((List UInt8) × Int × Int × Int)) + List.length b.2.1)).bind fun u =>
  (chk (List.length ([] : List (Int × (List UInt8) × (List UInt8) × Int)) + List.length b.2.2)).bind fun u_1 =>
  some (((b.1.1, b.1.2), ((([] : List ((List UInt8) × Int × Int × Int)) ++ b.2.1), (([] : List (Int × (List UInt8) × (List UInt8) × Int)) ++ b.2.2))))

def s14_c (n : Nat) : Con := ⟨[(.pair (.pair (.int .i64) (.int .i64)) (.pair (.slice (.pair .str (.pair (.int .i64) (.pair (.int .i64) (.int .i64))))) (.slice (.pair (.int .i64) (.pair .str (.pair .str (.int .i64)))))))], [], [(.pair (.pair (.int .i64) (.int .i64)) (.pair (.slice (.pair .str (.pair (.int .i64) (.pair (.int .i64) (.int .i64))))) (.slice (.pair (.int .i64) (.pair .str (.pair .str (.int .i64)))))))], fun x y => s14 n x, false⟩
theorem s14_eq (n : Nat) (x : denL [(.pair (.pair (.int .i64) (.int .i64)) (.pair (.slice (.pair .str (.pair (.int .i64) (.pair (.int .i64) (.int .i64))))) (.slice (.pair (.int .i64) (.pair .str (.pair .str (.int .i64)))))))]) (y : denL []) : funR (e40 n) Go.Proofs.Try.f14 [(.pair (.pair (.int .i64) (.int .i64)) (.pair (.slice (.pair .str (.pair (.int .i64) (.pair (.int .i64) (.int .i64))))) (.slice (.pair (.int .i64) (.pair .str (.pair .str (.int .i64)))))))] [] [(.pair (.pair (.int .i64) (.int .i64)) (.pair (.slice (.pair .str (.pair (.int .i64) (.pair (.int .i64) (.int .i64))))) (.slice (.pair (.int .i64) (.pair .str (.pair .str (.int .i64)))))))] false [] x y = (s14_c n).fn x y := by kernel_rfl
theorem s14_ok (n : Nat) : ConOK Go.Proofs.Try.prog 14 (s14_c n) := func_ok (h40 n) hP Go.Proofs.Try.func14 (by kernel_rfl) (by kernel_rfl) (O := []) trivial (s14_eq n)
def e41 (n : Nat) : Env := ⟨gT, (14, s14_c n) :: (e40 n).C, gQ, (e40 n).I, (e40 n).M, (e40 n).S, (e40 n).D⟩
theorem h41 (n : Nat) : EnvOK Go.Proofs.Try.prog (e41 n) := env_add (h40 n) (s14_ok n)

/-- (criadera/gauge.book).readingErr -/
def s50 (n : Nat) (b : (Int × Int) × (List ((List UInt8) × Int × Int × Int)) × (List (Int × (List UInt8) × (List UInt8) × Int))) (i : Int) : Option (Int) :=
  (s41 n i (0 : Int) (IntKind.wrap .i64 (((List.length b.2.1 : Nat) : Int) - (1 : Int)))).bind fun x =>
  (s23 n x (6 : Int)).bind fun x_1 =>
  some (x_1)

def s50_c (n : Nat) : Con := ⟨[(.pair (.pair (.int .i64) (.int .i64)) (.pair (.slice (.pair .str (.pair (.int .i64) (.pair (.int .i64) (.int .i64))))) (.slice (.pair (.int .i64) (.pair .str (.pair .str (.int .i64))))))), (.int .i64)], [], [(.int .i64)], fun x y => s50 n x.1 x.2, false⟩
theorem s50_eq (n : Nat) (x : denL [(.pair (.pair (.int .i64) (.int .i64)) (.pair (.slice (.pair .str (.pair (.int .i64) (.pair (.int .i64) (.int .i64))))) (.slice (.pair (.int .i64) (.pair .str (.pair .str (.int .i64))))))), (.int .i64)]) (y : denL []) : funR (e41 n) Go.Proofs.Try.f50 [(.pair (.pair (.int .i64) (.int .i64)) (.pair (.slice (.pair .str (.pair (.int .i64) (.pair (.int .i64) (.int .i64))))) (.slice (.pair (.int .i64) (.pair .str (.pair .str (.int .i64))))))), (.int .i64)] [] [(.int .i64)] false [] x y = (s50_c n).fn x y := by kernel_rfl
theorem s50_ok (n : Nat) : ConOK Go.Proofs.Try.prog 50 (s50_c n) := func_ok (h41 n) hP Go.Proofs.Try.func50 (by kernel_rfl) (by kernel_rfl) (O := []) trivial (s50_eq n)
def e42 (n : Nat) : Env := ⟨gT, (50, s50_c n) :: (e41 n).C, gQ, (e41 n).I, (e41 n).M, (e41 n).S, (e41 n).D⟩
theorem h42 (n : Nat) : EnvOK Go.Proofs.Try.prog (e42 n) := env_add (h41 n) (s50_ok n)

/-- criadera/gauge.openPair -/
def s27 (n : Nat) (b : (Int × Int) × (List ((List UInt8) × Int × Int × Int)) × (List (Int × (List UInt8) × (List UInt8) × Int))) (pair : Int × Int) : Option (((Int × Int) × (List ((List UInt8) × Int × Int × Int)) × (List (Int × (List UInt8) × (List UInt8) × Int))) × Int) :=
  (s31 n ((b.1.1, b.1.2), (b.2.1, b.2.2))).bind fun x =>
  (s50 n ((x.1.1.1, x.1.1.2), (x.1.2.1, x.1.2.2)) pair.1).bind fun x_1 =>
  (s50 n ((x.1.1.1, x.1.1.2), (x.1.2.1, x.1.2.2)) pair.2).bind fun x_2 =>
  (s22 n ([x.2, x_1, x_2] : List Int)).bind fun x_3 =>
  bif (x_3 != (0 : Int)) then
    some (((x.1.1.1, x.1.1.2), (x.1.2.1, x.1.2.2)), x_3)
  else
    (geti b.2.1 pair.1).bind fun e =>
    (geti b.2.1 pair.2).bind fun e_1 =>
    (s23 n ((e.1 : List UInt8) == e_1.1) (13 : Int)).bind fun x_4 =>
    (s23 n ((decide (pair.1 < pair.2)) && (decide (e.2.1 ≤ e_1.2.1))) (9 : Int)).bind fun x_5 =>
    (s22 n ([x_4, x_5] : List Int)).bind fun x_6 =>
    some (((x.1.1.1, x.1.1.2), (x.1.2.1, x.1.2.2)), x_6)

def s27_c (n : Nat) : Con := ⟨[(.pair (.pair (.int .i64) (.int .i64)) (.pair (.slice (.pair .str (.pair (.int .i64) (.pair (.int .i64) (.int .i64))))) (.slice (.pair (.int .i64) (.pair .str (.pair .str (.int .i64))))))), (.pair (.int .i64) (.int .i64))], [], [(.pair (.pair (.int .i64) (.int .i64)) (.pair (.slice (.pair .str (.pair (.int .i64) (.pair (.int .i64) (.int .i64))))) (.slice (.pair (.int .i64) (.pair .str (.pair .str (.int .i64))))))), (.int .i64)], fun x y => s27 n x.1 x.2, false⟩
theorem s27_eq (n : Nat) (x : denL [(.pair (.pair (.int .i64) (.int .i64)) (.pair (.slice (.pair .str (.pair (.int .i64) (.pair (.int .i64) (.int .i64))))) (.slice (.pair (.int .i64) (.pair .str (.pair .str (.int .i64))))))), (.pair (.int .i64) (.int .i64))]) (y : denL []) : funR (e42 n) Go.Proofs.Try.f27 [(.pair (.pair (.int .i64) (.int .i64)) (.pair (.slice (.pair .str (.pair (.int .i64) (.pair (.int .i64) (.int .i64))))) (.slice (.pair (.int .i64) (.pair .str (.pair .str (.int .i64))))))), (.pair (.int .i64) (.int .i64))] [] [(.pair (.pair (.int .i64) (.int .i64)) (.pair (.slice (.pair .str (.pair (.int .i64) (.pair (.int .i64) (.int .i64))))) (.slice (.pair (.int .i64) (.pair .str (.pair .str (.int .i64))))))), (.int .i64)] false [] x y = (s27_c n).fn x y := by kernel_rfl
theorem s27_ok (n : Nat) : ConOK Go.Proofs.Try.prog 27 (s27_c n) := func_ok (h42 n) hP Go.Proofs.Try.func27 (by kernel_rfl) (by kernel_rfl) (O := []) trivial (s27_eq n)
def e43 (n : Nat) : Env := ⟨gT, (27, s27_c n) :: (e42 n).C, gQ, (e42 n).I, (e42 n).M, (e42 n).S, (e42 n).D⟩
theorem h43 (n : Nat) : EnvOK Go.Proofs.Try.prog (e43 n) := env_add (h42 n) (s27_ok n)

/-- criadera/gauge.Gone -/
def s13 (n : Nat) (b : (Int × Int) × (List ((List UInt8) × Int × Int × Int)) × (List (Int × (List UInt8) × (List UInt8) × Int))) (pair : Int × Int) : Option ((Int × Int) × Int) :=
  (s27 n ((b.1.1, b.1.2), (b.2.1, b.2.2)) (pair.1, pair.2)).bind fun x =>
  bif (x.2 != (0 : Int)) then
    some (((0 : Int), (0 : Int)), x.2)
  else
    (geti b.2.1 pair.2).bind fun e =>
    (geti b.2.1 pair.1).bind fun e_1 =>
    (s29 n ((x.1.1.1, x.1.1.2), (x.1.2.1, x.1.2.2)) e_1 e.2.1).bind fun x_1 =>
    (s28 n x_1).bind fun x_2 =>
    some (((IntKind.wrap .i64 (x_2.1 - e.2.2.2)), (IntKind.wrap .i64 (x_2.2 - e.2.2.1))), (0 : Int))

def s13_c (n : Nat) : Con := ⟨[(.pair (.pair (.int .i64) (.int .i64)) (.pair (.slice (.pair .str (.pair (.int .i64) (.pair (.int .i64) (.int .i64))))) (.slice (.pair (.int .i64) (.pair .str (.pair .str (.int .i64))))))), (.pair (.int .i64) (.int .i64))], [], [(.pair (.int .i64) (.int .i64)), (.int .i64)], fun x y => s13 n x.1 x.2, false⟩
theorem s13_eq (n : Nat) (x : denL [(.pair (.pair (.int .i64) (.int .i64)) (.pair (.slice (.pair .str (.pair (.int .i64) (.pair (.int .i64) (.int .i64))))) (.slice (.pair (.int .i64) (.pair .str (.pair .str (.int .i64))))))), (.pair (.int .i64) (.int .i64))]) (y : denL []) : funR (e43 n) Go.Proofs.Try.f13 [(.pair (.pair (.int .i64) (.int .i64)) (.pair (.slice (.pair .str (.pair (.int .i64) (.pair (.int .i64) (.int .i64))))) (.slice (.pair (.int .i64) (.pair .str (.pair .str (.int .i64))))))), (.pair (.int .i64) (.int .i64))] [] [(.pair (.int .i64) (.int .i64)), (.int .i64)] false [] x y = (s13_c n).fn x y := by kernel_rfl
theorem s13_ok (n : Nat) : ConOK Go.Proofs.Try.prog 13 (s13_c n) := func_ok (h43 n) hP Go.Proofs.Try.func13 (by kernel_rfl) (by kernel_rfl) (O := []) trivial (s13_eq n)
def e44 (n : Nat) : Env := ⟨gT, (13, s13_c n) :: (e43 n).C, gQ, (e43 n).I, (e43 n).M, (e43 n).S, (e43 n).D⟩
theorem h44 (n : Nat) : EnvOK Go.Proofs.Try.prog (e44 n) := env_add (h43 n) (s13_ok n)

/-- criadera/gauge.Contradicts -/
def s15 (n : Nat) (b : (Int × Int) × (List ((List UInt8) × Int × Int × Int)) × (List (Int × (List UInt8) × (List UInt8) × Int))) (pair : Int × Int) : Option (Bool × Int) :=
  (s27 n ((b.1.1, b.1.2), (b.2.1, b.2.2)) (pair.1, pair.2)).bind fun x =>
  (part (x.2 == (0 : Int)) (s30 n ((x.1.1.1, x.1.1.2), (x.1.2.1, x.1.2.2)) pair.1 pair.2) false).bind fun x_1 =>
  some (((x.2 == (0 : Int)) && x_1), x.2)

def s15_c (n : Nat) : Con := ⟨[(.pair (.pair (.int .i64) (.int .i64)) (.pair (.slice (.pair .str (.pair (.int .i64) (.pair (.int .i64) (.int .i64))))) (.slice (.pair (.int .i64) (.pair .str (.pair .str (.int .i64))))))), (.pair (.int .i64) (.int .i64))], [], [.bool, (.int .i64)], fun x y => s15 n x.1 x.2, false⟩
theorem s15_eq (n : Nat) (x : denL [(.pair (.pair (.int .i64) (.int .i64)) (.pair (.slice (.pair .str (.pair (.int .i64) (.pair (.int .i64) (.int .i64))))) (.slice (.pair (.int .i64) (.pair .str (.pair .str (.int .i64))))))), (.pair (.int .i64) (.int .i64))]) (y : denL []) : funR (e44 n) Go.Proofs.Try.f15 [(.pair (.pair (.int .i64) (.int .i64)) (.pair (.slice (.pair .str (.pair (.int .i64) (.pair (.int .i64) (.int .i64))))) (.slice (.pair (.int .i64) (.pair .str (.pair .str (.int .i64))))))), (.pair (.int .i64) (.int .i64))] [] [.bool, (.int .i64)] false [] x y = (s15_c n).fn x y := by kernel_rfl
theorem s15_ok (n : Nat) : ConOK Go.Proofs.Try.prog 15 (s15_c n) := func_ok (h44 n) hP Go.Proofs.Try.func15 (by kernel_rfl) (by kernel_rfl) (O := []) trivial (s15_eq n)
def e45 (n : Nat) : Env := ⟨gT, (15, s15_c n) :: (e44 n).C, gQ, (e44 n).I, (e44 n).M, (e44 n).S, (e44 n).D⟩
theorem h45 (n : Nat) : EnvOK Go.Proofs.Try.prog (e45 n) := env_add (h44 n) (s15_ok n)

def e46 (n : Nat) : Env := ⟨gT, (e45 n).C, gQ, (e45 n).I, (33, s33_c n) :: (e45 n).M, (e45 n).S, (e45 n).D⟩
theorem h46 (n : Nat) : EnvOK Go.Proofs.Try.prog (e46 n) := env_mu (h45 n) (s33_ok n)

def e47 (n : Nat) : Env := ⟨gT, (e46 n).C, gQ, (e46 n).I, (34, s34_c n) :: (e46 n).M, (e46 n).S, (e46 n).D⟩
theorem h47 (n : Nat) : EnvOK Go.Proofs.Try.prog (e47 n) := env_mu (h46 n) (s34_ok n)

def s36_l0 (n : Nat) (d : (List Int) × Int × Int × Int × Unit) (again : ((List Int) × Int × Int × Int × Unit) → Option (Int)) (ks : (Unit → Option (Int)) × (Int × Unit → Option (Int)) × Unit) : Option (Int) :=
  match d, ks with
  | (s, v, t7, t8, _), (k0, k1, _) =>
  bif (decide (t8 < t7)) then
    (geti s t8).bind fun e =>
    bif (v == e) then
      k1 (t8, ())
    else
      again (s, v, t7, (IntKind.wrap .i64 (t8 + (1 : Int))), ())
  else
    k0 (())

/-- slices.Index[[]int,int] -/
def s36 (n : Nat) (s : List Int) (v : Int) : Option (Int) :=
  loopG (s36_l0 n) n (s, v, ((List.length s : Nat) : Int), (0 : Int), ())
    (fun (_) =>
      some ((-1 : Int)),
    fun (t4, _) =>
      some (t4), ())

def s36_t0 : Templ := ⟨19, [(.slice (.int .i64)), (.int .i64), (.int .i64), (.int .i64)], [(0, .v (.hole (.slice (.int .i64)))), (1, .v (.hole (.int .i64))), (7, .v (.hole (.int .i64))), (8, .v (.hole (.int .i64)))], [], []⟩
def s36_x0 : List (Way × Templ) := [(.exit 0, ⟨19, [], [], [], []⟩), (.ret, ⟨19, [(.int .i64)], [(4, .v (.hole (.int .i64)))], [], []⟩)]
def s36_o0 (n : Nat) : Ev (denL [(.int .i64)]) := loopO n (e47 n) s36_t0 s36_x0 (s36_l0 n)
theorem s36_b0 (n : Nat) (d) (again) (ks) : codeR (R := (denL [(.int .i64)])) (e47 n) (Hdl.no (R := (denL [(.int .i64)]))) (inn (lp (bd Go.Proofs.Try.f36) 0)) [] (mk s36_t0 d) (turnR (e47 n) s36_t0 s36_x0 again ks) = s36_l0 n d again ks := by kernel_rfl
theorem s36_s0 (n : Nat) : Sound Go.Proofs.Try.prog (Hdl.no (R := (denL [(.int .i64)]))) false (lp (bd Go.Proofs.Try.f36) 0) (s36_o0 n) := loop_ok (h47 n) hP (by kernel_rfl) (O := []) trivial (s36_b0 n)
def s36_c (n : Nat) : Con := ⟨[(.slice (.int .i64)), (.int .i64)], [], [(.int .i64)], fun x y => s36 n x.1 x.2, false⟩
theorem s36_eq (n : Nat) (x : denL [(.slice (.int .i64)), (.int .i64)]) (y : denL []) : funR (e47 n) Go.Proofs.Try.f36 [(.slice (.int .i64)), (.int .i64)] [] [(.int .i64)] false [s36_o0 n] x y = (s36_c n).fn x y := by kernel_rfl
theorem s36_ok (n : Nat) : ConOK Go.Proofs.Try.prog 36 (s36_c n) := func_ok (h47 n) hP Go.Proofs.Try.func36 (by kernel_rfl) (by kernel_rfl) (O := [s36_o0 n]) ⟨s36_s0 n, trivial⟩ (s36_eq n)
def e48 (n : Nat) : Env := ⟨gT, (36, s36_c n) :: (e47 n).C, gQ, (e47 n).I, (e47 n).M, (e47 n).S, (e47 n).D⟩
theorem h48 (n : Nat) : EnvOK Go.Proofs.Try.prog (e48 n) := env_add (h47 n) (s36_ok n)

/-- criadera/gauge.Blamed$1 -/
def s35 (n : Nat) (i : Int) (c0 : List Int) : Option (Int) :=
  (s36 n c0 i).bind fun x =>
  (shlI .u64 (1 : Int) (IntKind.wrap .i64 ((IntKind.wrap .i64 (((List.length c0 : Nat) : Int) - (1 : Int))) - x))).bind fun q =>
  some (q)

def s35_c (n : Nat) : Con := ⟨[(.int .i64)], [(.slice (.int .i64))], [(.int .u64)], fun x y => s35 n x y, false⟩
theorem s35_eq (n : Nat) (x : denL [(.int .i64)]) (y : denL [(.slice (.int .i64))]) : funR (e48 n) Go.Proofs.Try.f35 [(.int .i64)] [(.slice (.int .i64))] [(.int .u64)] false [] x y = (s35_c n).fn x y := by kernel_rfl
theorem s35_ok (n : Nat) : ConOK Go.Proofs.Try.prog 35 (s35_c n) := func_ok (h48 n) hP Go.Proofs.Try.func35 (by kernel_rfl) (by kernel_rfl) (O := []) trivial (s35_eq n)
def e49 (n : Nat) : Env := ⟨gT, (35, s35_c n) :: (e48 n).C, gQ, (e48 n).I, (e48 n).M, (e48 n).S, (e48 n).D⟩
theorem h49 (n : Nat) : EnvOK Go.Proofs.Try.prog (e49 n) := env_add (h48 n) (s35_ok n)

/-- criadera/gauge.Blamed$2 -/
def s38 (n : Nat) (p : Int × Int) (c0 : Int) (c1 : Int → Option Int) : Option (Bool) :=
  (c1 p.1).bind fun x =>
  (part ((bandI .u64 c0 x) == (0 : Int)) (c1 p.2) (0 : Int)).bind fun x_1 =>
  some ((((bandI .u64 c0 x) == (0 : Int)) && ((bandI .u64 c0 x_1) == (0 : Int))))

def s38_c (n : Nat) : Con := ⟨[(.pair (.int .i64) (.int .i64))], [(.int .u64), (.fn1 (.int .i64) (.int .u64))], [.bool], fun x y => s38 n x y.1 y.2, false⟩
theorem s38_eq (n : Nat) (x : denL [(.pair (.int .i64) (.int .i64))]) (y : denL [(.int .u64), (.fn1 (.int .i64) (.int .u64))]) : funR (e49 n) Go.Proofs.Try.f38 [(.pair (.int .i64) (.int .i64))] [(.int .u64), (.fn1 (.int .i64) (.int .u64))] [.bool] false [] x y = (s38_c n).fn x y := by kernel_rfl
theorem s38_ok (n : Nat) : ConOK Go.Proofs.Try.prog 38 (s38_c n) := func_ok (h49 n) hP Go.Proofs.Try.func38 (by kernel_rfl) (by kernel_rfl) (O := []) trivial (s38_eq n)
def e50 (n : Nat) : Env := ⟨gT, (38, s38_c n) :: (e49 n).C, gQ, (e49 n).I, (e49 n).M, (e49 n).S, (e49 n).D⟩
theorem h50 (n : Nat) : EnvOK Go.Proofs.Try.prog (e50 n) := env_add (h49 n) (s38_ok n)

def s55_l0 (n : Nat) (d : (List (Int × Int)) × ((Int × Int) → Option Bool) × Int × Int × Unit) (again : ((List (Int × Int)) × ((Int × Int) → Option Bool) × Int × Int × Unit) → Option (Int)) (ks : (Unit → Option (Int)) × (Int × Unit → Option (Int)) × Unit) : Option (Int) :=
  match d, ks with
  | (s, f, t7, t8, _), (k0, k1, _) =>
  bif (decide (t8 < t7)) then
    (geti s t8).bind fun e =>
    (f e).bind fun x =>
    bif x then
      k1 (t8, ())
    else
      again (s, f, t7, (IntKind.wrap .i64 (t8 + (1 : Int))), ())
  else
    k0 (())

/-- slices.IndexFunc[[][2]int,[2]int] -/
def s55 (n : Nat) (s : List (Int × Int)) (f : (Int × Int) → Option Bool) : Option (Int) :=
  loopG (s55_l0 n) n (s, f, ((List.length s : Nat) : Int), (0 : Int), ())
    (fun (_) =>
      some ((-1 : Int)),
    fun (t4, _) =>
      some (t4), ())

def s55_t0 : Templ := ⟨19, [(.slice (.pair (.int .i64) (.int .i64))), (.fn1 (.pair (.int .i64) (.int .i64)) .bool), (.int .i64), (.int .i64)], [(0, .v (.hole (.slice (.pair (.int .i64) (.int .i64))))), (1, .v (.hole (.fn1 (.pair (.int .i64) (.int .i64)) .bool))), (7, .v (.hole (.int .i64))), (8, .v (.hole (.int .i64)))], [], []⟩
def s55_x0 : List (Way × Templ) := [(.exit 0, ⟨19, [], [], [], []⟩), (.ret, ⟨19, [(.int .i64)], [(4, .v (.hole (.int .i64)))], [], []⟩)]
def s55_o0 (n : Nat) : Ev (denL [(.int .i64)]) := loopO n (e50 n) s55_t0 s55_x0 (s55_l0 n)
theorem s55_b0 (n : Nat) (d) (again) (ks) : codeR (R := (denL [(.int .i64)])) (e50 n) (Hdl.no (R := (denL [(.int .i64)]))) (inn (lp (bd Go.Proofs.Try.f55) 0)) [] (mk s55_t0 d) (turnR (e50 n) s55_t0 s55_x0 again ks) = s55_l0 n d again ks := by kernel_rfl
theorem s55_s0 (n : Nat) : Sound Go.Proofs.Try.prog (Hdl.no (R := (denL [(.int .i64)]))) false (lp (bd Go.Proofs.Try.f55) 0) (s55_o0 n) := loop_ok (h50 n) hP (by kernel_rfl) (O := []) trivial (s55_b0 n)
def s55_c (n : Nat) : Con := ⟨[(.slice (.pair (.int .i64) (.int .i64))), (.fn1 (.pair (.int .i64) (.int .i64)) .bool)], [], [(.int .i64)], fun x y => s55 n x.1 x.2, false⟩
theorem s55_eq (n : Nat) (x : denL [(.slice (.pair (.int .i64) (.int .i64))), (.fn1 (.pair (.int .i64) (.int .i64)) .bool)]) (y : denL []) : funR (e50 n) Go.Proofs.Try.f55 [(.slice (.pair (.int .i64) (.int .i64))), (.fn1 (.pair (.int .i64) (.int .i64)) .bool)] [] [(.int .i64)] false [s55_o0 n] x y = (s55_c n).fn x y := by kernel_rfl
theorem s55_ok (n : Nat) : ConOK Go.Proofs.Try.prog 55 (s55_c n) := func_ok (h50 n) hP Go.Proofs.Try.func55 (by kernel_rfl) (by kernel_rfl) (O := [s55_o0 n]) ⟨s55_s0 n, trivial⟩ (s55_eq n)
def e51 (n : Nat) : Env := ⟨gT, (55, s55_c n) :: (e50 n).C, gQ, (e50 n).I, (e50 n).M, (e50 n).S, (e50 n).D⟩
theorem h51 (n : Nat) : EnvOK Go.Proofs.Try.prog (e51 n) := env_add (h50 n) (s55_ok n)

/-- slices.ContainsFunc[[][2]int,[2]int] -/
def s37 (n : Nat) (s : List (Int × Int)) (f : (Int × Int) → Option Bool) : Option (Bool) :=
  (s55 n s f).bind fun x =>
  some ((decide (x ≥ (0 : Int))))

def s37_c (n : Nat) : Con := ⟨[(.slice (.pair (.int .i64) (.int .i64))), (.fn1 (.pair (.int .i64) (.int .i64)) .bool)], [], [.bool], fun x y => s37 n x.1 x.2, false⟩
theorem s37_eq (n : Nat) (x : denL [(.slice (.pair (.int .i64) (.int .i64))), (.fn1 (.pair (.int .i64) (.int .i64)) .bool)]) (y : denL []) : funR (e51 n) Go.Proofs.Try.f37 [(.slice (.pair (.int .i64) (.int .i64))), (.fn1 (.pair (.int .i64) (.int .i64)) .bool)] [] [.bool] false [] x y = (s37_c n).fn x y := by kernel_rfl
theorem s37_ok (n : Nat) : ConOK Go.Proofs.Try.prog 37 (s37_c n) := func_ok (h51 n) hP Go.Proofs.Try.func37 (by kernel_rfl) (by kernel_rfl) (O := []) trivial (s37_eq n)
def e52 (n : Nat) : Env := ⟨gT, (37, s37_c n) :: (e51 n).C, gQ, (e51 n).I, (e51 n).M, (e51 n).S, (e51 n).D⟩
theorem h52 (n : Nat) : EnvOK Go.Proofs.Try.prog (e52 n) := env_add (h51 n) (s37_ok n)

/-- math/bits.OnesCount32 -/
def s56 (n : Nat) (x : Int) : Option (Int) :=
  (shrI .u32 x (24 : Int)).bind fun q =>
  (geti [0, 1, 1, 2, 1, 2, 2, 3, 1, 2, 2, 3, 2, 3, 3, 4, 1, 2, 2, 3, 2, 3, 3, 4, 2, 3, 3, 4, 3, 4, 4, 5, 1, 2, 2, 3, 2, 3, 3, 4, 2, 3, 3, 4, 3, 4, 4, 5, 2, 3, 3, 4, 3, 4, 4, 5, 3, 4, 4, 5, 4, 5, 5, 6, 1, 2, 2, 3, 2, 3, 3, 4, 2, 3, 3, 4, 3, 4, 4, 5, 2, 3, 3, 4, 3, 4, 4, 5, 3, 4, 4, 5, 4, 5, 5, 6, 2, 3, 3, 4, 3, 4, 4, 5, 3, 4, 4, 5, 4, 5, 5, 6, 3, 4, 4, 5, 4, 5, 5, 6, 4, 5, 5, 6, 5, 6, 6, 7, 1, 2, 2, 3, 2, 3, 3, 4, 2, 3, 3, 4, 3, 4, 4, 5, 2, 3, 3, 4, 3, 4, 4, 5, 3, 4, 4, 5, 4, 5, 5, 6, 2, 3, 3, 4, 3, 4, 4, 5, 3, 4, 4, 5, 4, 5, 5, 6, 3, 4, 4, 5, 4, 5, 5, 6, 4, 5, 5, 6, 5, 6, 6, 7, 2, 3, 3, 4, 3, 4, 4, 5, 3, 4, 4, 5, 4, 5, 5, 6, 3, 4, 4, 5, 4, 5, 5, 6, 4, 5, 5, 6, 5, 6, 6, 7, 3, 4, 4, 5, 4, 5, 5, 6, 4, 5, 5, 6, 5, 6, 6, 7, 4, 5, 5, 6, 5, 6, 6, 7, 5, 6, 6, 7, 6, 7, 7, 8] q).bind fun c =>
  (shrI .u32 x (16 : Int)).bind fun q_1 =>
  (geti [0, 1, 1, 2, 1, 2, 2, 3, 1, 2, 2, 3, 2, 3, 3, 4, 1, 2, 2, 3, 2, 3, 3, 4, 2, 3, 3, 4, 3, 4, 4, 5, 1, 2, 2, 3, 2, 3, 3, 4, 2, 3, 3, 4, 3, 4, 4, 5, 2, 3, 3, 4, 3, 4, 4, 5, 3, 4, 4, 5, 4, 5, 5, 6, 1, 2, 2, 3, 2, 3, 3, 4, 2, 3, 3, 4, 3, 4, 4, 5, 2, 3, 3, 4, 3, 4, 4, 5, 3, 4, 4, 5, 4, 5, 5, 6, 2, 3, 3, 4, 3, 4, 4, 5, 3, 4, 4, 5, 4, 5, 5, 6, 3, 4, 4, 5, 4, 5, 5, 6, 4, 5, 5, 6, 5, 6, 6, 7, 1, 2, 2, 3, 2, 3, 3, 4, 2, 3, 3, 4, 3, 4, 4, 5, 2, 3, 3, 4, 3, 4, 4, 5, 3, 4, 4, 5, 4, 5, 5, 6, 2, 3, 3, 4, 3, 4, 4, 5, 3, 4, 4, 5, 4, 5, 5, 6, 3, 4, 4, 5, 4, 5, 5, 6, 4, 5, 5, 6, 5, 6, 6, 7, 2, 3, 3, 4, 3, 4, 4, 5, 3, 4, 4, 5, 4, 5, 5, 6, 3, 4, 4, 5, 4, 5, 5, 6, 4, 5, 5, 6, 5, 6, 6, 7, 3, 4, 4, 5, 4, 5, 5, 6, 4, 5, 5, 6, 5, 6, 6, 7, 4, 5, 5, 6, 5, 6, 6, 7, 5, 6, 6, 7, 6, 7, 7, 8] (bandI .u32 q_1 (255 : Int))).bind fun c_1 =>
  (shrI .u32 x (8 : Int)).bind fun q_2 =>
  (geti [0, 1, 1, 2, 1, 2, 2, 3, 1, 2, 2, 3, 2, 3, 3, 4, 1, 2, 2, 3, 2, 3, 3, 4, 2, 3, 3, 4, 3, 4, 4, 5, 1, 2, 2, 3, 2, 3, 3, 4, 2, 3, 3, 4, 3, 4, 4, 5, 2, 3, 3, 4, 3, 4, 4, 5, 3, 4, 4, 5, 4, 5, 5, 6, 1, 2, 2, 3, 2, 3, 3, 4, 2, 3, 3, 4, 3, 4, 4, 5, 2, 3, 3, 4, 3, 4, 4, 5, 3, 4, 4, 5, 4, 5, 5, 6, 2, 3, 3, 4, 3, 4, 4, 5, 3, 4, 4, 5, 4, 5, 5, 6, 3, 4, 4, 5, 4, 5, 5, 6, 4, 5, 5, 6, 5, 6, 6, 7, 1, 2, 2, 3, 2, 3, 3, 4, 2, 3, 3, 4, 3, 4, 4, 5, 2, 3, 3, 4, 3, 4, 4, 5, 3, 4, 4, 5, 4, 5, 5, 6, 2, 3, 3, 4, 3, 4, 4, 5, 3, 4, 4, 5, 4, 5, 5, 6, 3, 4, 4, 5, 4, 5, 5, 6, 4, 5, 5, 6, 5, 6, 6, 7, 2, 3, 3, 4, 3, 4, 4, 5, 3, 4, 4, 5, 4, 5, 5, 6, 3, 4, 4, 5, 4, 5, 5, 6, 4, 5, 5, 6, 5, 6, 6, 7, 3, 4, 4, 5, 4, 5, 5, 6, 4, 5, 5, 6, 5, 6, 6, 7, 4, 5, 5, 6, 5, 6, 6, 7, 5, 6, 6, 7, 6, 7, 7, 8] (bandI .u32 q_2 (255 : Int))).bind fun c_2 =>
  (geti [0, 1, 1, 2, 1, 2, 2, 3, 1, 2, 2, 3, 2, 3, 3, 4, 1, 2, 2, 3, 2, 3, 3, 4, 2, 3, 3, 4, 3, 4, 4, 5, 1, 2, 2, 3, 2, 3, 3, 4, 2, 3, 3, 4, 3, 4, 4, 5, 2, 3, 3, 4, 3, 4, 4, 5, 3, 4, 4, 5, 4, 5, 5, 6, 1, 2, 2, 3, 2, 3, 3, 4, 2, 3, 3, 4, 3, 4, 4, 5, 2, 3, 3, 4, 3, 4, 4, 5, 3, 4, 4, 5, 4, 5, 5, 6, 2, 3, 3, 4, 3, 4, 4, 5, 3, 4, 4, 5, 4, 5, 5, 6, 3, 4, 4, 5, 4, 5, 5, 6, 4, 5, 5, 6, 5, 6, 6, 7, 1, 2, 2, 3, 2, 3, 3, 4, 2, 3, 3, 4, 3, 4, 4, 5, 2, 3, 3, 4, 3, 4, 4, 5, 3, 4, 4, 5, 4, 5, 5, 6, 2, 3, 3, 4, 3, 4, 4, 5, 3, 4, 4, 5, 4, 5, 5, 6, 3, 4, 4, 5, 4, 5, 5, 6, 4, 5, 5, 6, 5, 6, 6, 7, 2, 3, 3, 4, 3, 4, 4, 5, 3, 4, 4, 5, 4, 5, 5, 6, 3, 4, 4, 5, 4, 5, 5, 6, 4, 5, 5, 6, 5, 6, 6, 7, 3, 4, 4, 5, 4, 5, 5, 6, 4, 5, 5, 6, 5, 6, 6, 7, 4, 5, 5, 6, 5, 6, 6, 7, 5, 6, 6, 7, 6, 7, 7, 8] (bandI .u32 x (255 : Int))).bind fun c_3 =>
  some ((IntKind.wrap .i64 (IntKind.wrap .u8 ((IntKind.wrap .u8 ((IntKind.wrap .u8 (((UInt8.toNat c : Nat) : Int) + ((UInt8.toNat c_1 : Nat) : Int))) + ((UInt8.toNat c_2 : Nat) : Int))) + ((UInt8.toNat c_3 : Nat) : Int)))))

def s56_c (n : Nat) : Con := ⟨[(.int .u32)], [], [(.int .i64)], fun x y => s56 n x, false⟩
theorem s56_eq (n : Nat) (x : denL [(.int .u32)]) (y : denL []) : funR (e52 n) Go.Proofs.Try.f56 [(.int .u32)] [] [(.int .i64)] false [] x y = (s56_c n).fn x y := by kernel_rfl
theorem s56_ok (n : Nat) : ConOK Go.Proofs.Try.prog 56 (s56_c n) := func_ok (h52 n) hP Go.Proofs.Try.func56 (by kernel_rfl) (by kernel_rfl) (O := []) trivial (s56_eq n)
def e53 (n : Nat) : Env := ⟨gT, (56, s56_c n) :: (e52 n).C, gQ, (e52 n).I, (e52 n).M, (e52 n).S, (e52 n).D⟩
theorem h53 (n : Nat) : EnvOK Go.Proofs.Try.prog (e53 n) := env_add (h52 n) (s56_ok n)

def e54 (n : Nat) : Env := ⟨gT, (57, s57_c n) :: (e53 n).C, gQ, (e53 n).I, (e53 n).M, (e53 n).S, (e53 n).D⟩
theorem h54 (n : Nat) : EnvOK Go.Proofs.Try.prog (e54 n) := env_add (h53 n) (s57_ok n)

/-- math/bits.OnesCount -/
def s39 (n : Nat) (x : Int) : Option (Int) :=
  (s57 n x).bind fun x_1 =>
  some (x_1)

def s39_c (n : Nat) : Con := ⟨[(.int .u64)], [], [(.int .i64)], fun x y => s39 n x, false⟩
theorem s39_eq (n : Nat) (x : denL [(.int .u64)]) (y : denL []) : funR (e54 n) Go.Proofs.Try.f39 [(.int .u64)] [] [(.int .i64)] false [] x y = (s39_c n).fn x y := by kernel_rfl
theorem s39_ok (n : Nat) : ConOK Go.Proofs.Try.prog 39 (s39_c n) := func_ok (h54 n) hP Go.Proofs.Try.func39 (by kernel_rfl) (by kernel_rfl) (O := []) trivial (s39_eq n)
def e55 (n : Nat) : Env := ⟨gT, (39, s39_c n) :: (e54 n).C, gQ, (e54 n).I, (e54 n).M, (e54 n).S, (e54 n).D⟩
theorem h55 (n : Nat) : EnvOK Go.Proofs.Try.prog (e55 n) := env_add (h54 n) (s39_ok n)

def s16_l0 (n : Nat) (d : (List (Int × Int)) × (List (Int × Int)) × Int × Int × (List Int) × Unit) (again : ((List (Int × Int)) × (List (Int × Int)) × Int × Int × (List Int) × Unit) → Option ((List Int) × Int)) (ks : ((List (Int × Int)) × (List Int) × Unit → Option ((List Int) × Int)) × Unit) : Option ((List Int) × Int) :=
  match d, ks with
  | (pairs, t27, t28, t29, all, _), (k0, _) =>
  bif (decide (t29 < t28)) then
    (geti t27 t29).bind fun e =>
    (chk (List.length all + List.length ([e.1, e.2] : List Int))).bind fun u =>
    again (pairs, t27, t28, (IntKind.wrap .i64 (t29 + (1 : Int))), (all ++ ([e.1, e.2] : List Int)), ())
  else
    k0 (pairs, all, ())

def s16_l1 (n : Nat) (d : (List (Int × Int)) × (List Int) × (Int → Option Int) × Int × Int × Unit) (again : ((List (Int × Int)) × (List Int) × (Int → Option Int) × Int × Int × Unit) → Option ((List Int) × Int)) (ks : ((List Int) × (Int → Option Int) × Int × Unit → Option ((List Int) × Int)) × Unit) : Option ((List Int) × Int) :=
  match d, ks with
  | (pairs, all, bit, best, v_set, _), (k0, _) =>
  (s37 n pairs (fun y0 => s38 n y0 v_set bit)).bind fun x =>
  (part (!x) (s39 n v_set) (0 : Int)).bind fun x_1 =>
  (part (!x) (s39 n best) (0 : Int)).bind fun x_2 =>
  bif ((!x) && (decide (x_1 < x_2))) then
    bif (v_set == (0 : Int)) then
      k0 (all, bit, v_set, ())
    else
      again (pairs, all, bit, v_set, (IntKind.wrap .u64 (v_set - (1 : Int))), ())
  else
    bif (v_set == (0 : Int)) then
      k0 (all, bit, best, ())
    else
      again (pairs, all, bit, best, (IntKind.wrap .u64 (v_set - (1 : Int))), ())

def s16_l2 (n : Nat) (d : (Int → Option Int) × Int × (List Int) × Int × Int × (List Int) × Unit) (again : ((Int → Option Int) × Int × (List Int) × Int × Int × (List Int) × Unit) → Option ((List Int) × Int)) (ks : ((List Int) × Unit → Option ((List Int) × Int)) × Unit) : Option ((List Int) × Int) :=
  match d, ks with
  | (bit, best, t72, t73, t74, out, _), (k0, _) =>
  bif (decide (t74 < t73)) then
    (geti t72 t74).bind fun e =>
    (bit e).bind fun x =>
    bif ((bandI .u64 best x) != (0 : Int)) then
      (chk (List.length out + List.length ([e] : List Int))).bind fun u =>
      again (bit, best, t72, t73, (IntKind.wrap .i64 (t74 + (1 : Int))), (out ++ ([e] : List Int)), ())
    else
      again (bit, best, t72, t73, (IntKind.wrap .i64 (t74 + (1 : Int))), out, ())
  else
    k0 (out, ())

/-- criadera/gauge.Blamed -/
def s16 (n : Nat) (b : (Int × Int) × (List ((List UInt8) × Int × Int × Int)) × (List (Int × (List UInt8) × (List UInt8) × Int))) : Option ((List Int) × Int) :=
  (s31 n ((b.1.1, b.1.2), (b.2.1, b.2.2))).bind fun x =>
  bif (x.2 != (0 : Int)) then
    some (([] : List Int), x.2)
  else
    (s32 n ((x.1.1.1, x.1.1.2), (x.1.2.1, x.1.2.2))).bind fun x_1 =>
    loopG (s16_l0 n) n (x_1, x_1, ((List.length x_1 : Nat) : Int), (0 : Int), ([] : List Int), ())
      (fun (pairs_1, all_1, _) =>
        (s33 n all_1).bind fun l =>
        (s34 n l).bind fun l_1 =>
        bif (decide (((List.length l_1 : Nat) : Int) > (14 : Int))) then
          some (([] : List Int), (8 : Int))
        else
          (shlI .u64 (1 : Int) ((List.length l_1 : Nat) : Int)).bind fun q =>
          loopG (s16_l1 n) n (pairs_1, l_1, (fun y0 => s35 n y0 l_1), (IntKind.wrap .u64 (q - (1 : Int))), (IntKind.wrap .u64 (q - (1 : Int))), ())
            (fun (all_3, bit_1, best_1, _) =>
              loopG (s16_l2 n) n (bit_1, best_1, all_3, ((List.length all_3 : Nat) : Int), (0 : Int), ([] : List Int), ())
                (fun (out_1, _) =>
                  some (out_1, (0 : Int)), ()), ()), ())

def s16_t0 : Templ := ⟨90, [(.slice (.pair (.int .i64) (.int .i64))), (.slice (.pair (.int .i64) (.int .i64))), (.int .i64), (.int .i64), (.slice (.int .i64))], [(6, .v (.hole (.slice (.pair (.int .i64) (.int .i64))))), (7, .v (.bptr 90 0)), (27, .v (.hole (.slice (.pair (.int .i64) (.int .i64))))), (28, .v (.hole (.int .i64))), (29, .v (.hole (.int .i64)))], [(90, .box (.slice (.int .i64)) [.hand 91]), (91, .buf (.int .i64))], []⟩
def s16_x0 : List (Way × Templ) := [(.exit 0, ⟨90, [(.slice (.pair (.int .i64) (.int .i64))), (.slice (.int .i64))], [(6, .v (.hole (.slice (.pair (.int .i64) (.int .i64))))), (7, .v (.bptr 90 0))], [(90, .box (.slice (.int .i64)) [.hand 91]), (91, .buf (.int .i64))], []⟩)]
def s16_o0 (n : Nat) : Ev (denL [(.slice (.int .i64)), (.int .i64)]) := loopO n (e55 n) s16_t0 s16_x0 (s16_l0 n)
theorem s16_b0 (n : Nat) (d) (again) (ks) : codeR (R := (denL [(.slice (.int .i64)), (.int .i64)])) (e55 n) (Hdl.no (R := (denL [(.slice (.int .i64)), (.int .i64)]))) (inn (lp (bd Go.Proofs.Try.f16) 0)) [] (mk s16_t0 d) (turnR (e55 n) s16_t0 s16_x0 again ks) = s16_l0 n d again ks := by kernel_rfl
theorem s16_s0 (n : Nat) : Sound Go.Proofs.Try.prog (Hdl.no (R := (denL [(.slice (.int .i64)), (.int .i64)]))) false (lp (bd Go.Proofs.Try.f16) 0) (s16_o0 n) := loop_ok (h55 n) hP (by kernel_rfl) (O := []) trivial (s16_b0 n)
def s16_t1 : Templ := ⟨90, [(.slice (.pair (.int .i64) (.int .i64))), (.slice (.int .i64)), (.fn1 (.int .i64) (.int .u64)), (.int .u64), (.int .u64)], [(6, .v (.hole (.slice (.pair (.int .i64) (.int .i64))))), (7, .v (.pp (.slice (.int .i64)))), (10, .v (.pp (.fn1 (.int .i64) (.int .u64)))), (11, .v (.hole (.int .u64))), (12, .v (.bptr 90 0))], [(90, .box (.int .u64) [.hole (.int .u64)])], []⟩
def s16_x1 : List (Way × Templ) := [(.exit 2, ⟨90, [(.slice (.int .i64)), (.fn1 (.int .i64) (.int .u64)), (.int .u64)], [(7, .v (.pp (.slice (.int .i64)))), (10, .v (.pp (.fn1 (.int .i64) (.int .u64)))), (11, .v (.hole (.int .u64)))], [], []⟩)]
def s16_o1 (n : Nat) : Ev (denL [(.slice (.int .i64)), (.int .i64)]) := loopO n (e55 n) s16_t1 s16_x1 (s16_l1 n)
theorem s16_b1 (n : Nat) (d) (again) (ks) : codeR (R := (denL [(.slice (.int .i64)), (.int .i64)])) (e55 n) (Hdl.no (R := (denL [(.slice (.int .i64)), (.int .i64)]))) (inn (lp (bd Go.Proofs.Try.f16) 1)) [] (mk s16_t1 d) (turnR (e55 n) s16_t1 s16_x1 again ks) = s16_l1 n d again ks := by kernel_rfl
theorem s16_s1 (n : Nat) : Sound Go.Proofs.Try.prog (Hdl.no (R := (denL [(.slice (.int .i64)), (.int .i64)]))) false (lp (bd Go.Proofs.Try.f16) 1) (s16_o1 n) := loop_ok (h55 n) hP (by kernel_rfl) (O := []) trivial (s16_b1 n)
def s16_t2 : Templ := ⟨90, [(.fn1 (.int .i64) (.int .u64)), (.int .u64), (.slice (.int .i64)), (.int .i64), (.int .i64), (.slice (.int .i64))], [(10, .v (.pp (.fn1 (.int .i64) (.int .u64)))), (11, .v (.hole (.int .u64))), (14, .v (.hand 90)), (72, .v (.hole (.slice (.int .i64)))), (73, .v (.hole (.int .i64))), (74, .v (.hole (.int .i64)))], [(90, .buf (.int .i64))], []⟩
def s16_x2 : List (Way × Templ) := [(.exit 4, ⟨90, [(.slice (.int .i64))], [(14, .v (.hand 90))], [(90, .buf (.int .i64))], []⟩)]
def s16_o2 (n : Nat) : Ev (denL [(.slice (.int .i64)), (.int .i64)]) := loopO n (e55 n) s16_t2 s16_x2 (s16_l2 n)
theorem s16_b2 (n : Nat) (d) (again) (ks) : codeR (R := (denL [(.slice (.int .i64)), (.int .i64)])) (e55 n) (Hdl.no (R := (denL [(.slice (.int .i64)), (.int .i64)]))) (inn (lp (bd Go.Proofs.Try.f16) 2)) [] (mk s16_t2 d) (turnR (e55 n) s16_t2 s16_x2 again ks) = s16_l2 n d again ks := by kernel_rfl
theorem s16_s2 (n : Nat) : Sound Go.Proofs.Try.prog (Hdl.no (R := (denL [(.slice (.int .i64)), (.int .i64)]))) false (lp (bd Go.Proofs.Try.f16) 2) (s16_o2 n) := loop_ok (h55 n) hP (by kernel_rfl) (O := []) trivial (s16_b2 n)
def s16_c (n : Nat) : Con := ⟨[(.pair (.pair (.int .i64) (.int .i64)) (.pair (.slice (.pair .str (.pair (.int .i64) (.pair (.int .i64) (.int .i64))))) (.slice (.pair (.int .i64) (.pair .str (.pair .str (.int .i64)))))))], [], [(.slice (.int .i64)), (.int .i64)], fun x y => s16 n x, false⟩
theorem s16_eq (n : Nat) (x : denL [(.pair (.pair (.int .i64) (.int .i64)) (.pair (.slice (.pair .str (.pair (.int .i64) (.pair (.int .i64) (.int .i64))))) (.slice (.pair (.int .i64) (.pair .str (.pair .str (.int .i64)))))))]) (y : denL []) : funR (e55 n) Go.Proofs.Try.f16 [(.pair (.pair (.int .i64) (.int .i64)) (.pair (.slice (.pair .str (.pair (.int .i64) (.pair (.int .i64) (.int .i64))))) (.slice (.pair (.int .i64) (.pair .str (.pair .str (.int .i64)))))))] [] [(.slice (.int .i64)), (.int .i64)] false [s16_o0 n, s16_o1 n, s16_o2 n] x y = (s16_c n).fn x y := by kernel_rfl
theorem s16_ok (n : Nat) : ConOK Go.Proofs.Try.prog 16 (s16_c n) := func_ok (h55 n) hP Go.Proofs.Try.func16 (by kernel_rfl) (by kernel_rfl) (O := [s16_o0 n, s16_o1 n, s16_o2 n]) ⟨s16_s0 n, s16_s1 n, s16_s2 n, trivial⟩ (s16_eq n)
def e56 (n : Nat) : Env := ⟨gT, (16, s16_c n) :: (e55 n).C, gQ, (e55 n).I, (e55 n).M, (e55 n).S, (e55 n).D⟩
theorem h56 (n : Nat) : EnvOK Go.Proofs.Try.prog (e56 n) := env_add (h55 n) (s16_ok n)

def s4_l0 (n : Nat) (d : Int × Int × Int × Int × Int × (List Int) × (List (Int × Int)) × Int × Int × (List ((List UInt8) × Int × Int × Int)) × Unit) (again : (Int × Int × Int × Int × Int × (List Int) × (List (Int × Int)) × Int × Int × (List ((List UInt8) × Int × Int × Int)) × Unit) → Option (Bool)) (ks : (Int × Int × Int × (List ((List UInt8) × Int × Int × Int)) × Unit → Option (Bool)) × (Bool × Unit → Option (Bool)) × Unit) : Option (Bool) :=
  match d, ks with
  | (taken, i, t3, t3_1, t3_2, t3_3, t3_4, b, b_1, b_2, _), (k0, k1, _) =>
  bif (decide (i < (2 : Int))) then
    (geti t3_3 i).bind fun e =>
    (geti t3_3 i).bind fun e_1 =>
    (s12 n e_1 (0 : Int) (8 : Int)).bind fun x =>
    (part ((!(!x)) && (decide (i > (0 : Int)))) (geti t3_3 i) (0 : Int)).bind fun e_2 =>
    (part ((!(!x)) && (decide (i > (0 : Int)))) (geti t3_3 (0 : Int)) (0 : Int)).bind fun e_3 =>
    (part (!((!x) || ((decide (i > (0 : Int))) && (decide (e_2 < e_3))))) (geti t3_4 i) ((0 : Int), (0 : Int))).bind fun e_4 =>
    (part (!((!x) || ((decide (i > (0 : Int))) && (decide (e_2 < e_3))))) (s12 n e_4.1 (0 : Int) (100 : Int)) false).bind fun x_1 =>
    (part (!(((!x) || ((decide (i > (0 : Int))) && (decide (e_2 < e_3)))) || (!x_1))) (geti t3_4 i) ((0 : Int), (0 : Int))).bind fun e_5 =>
    (part (!(((!x) || ((decide (i > (0 : Int))) && (decide (e_2 < e_3)))) || (!x_1))) (s12 n e_5.2 (0 : Int) (100 : Int)) false).bind fun x_2 =>
    bif (((((!x) || ((decide (i > (0 : Int))) && (decide (e_2 < e_3)))) || (!x_1)) || (!x_2)) || (decide ((IntKind.wrap .i64 ((IntKind.wrap .i64 (t3 - (IntKind.wrap .i64 (t3_1 * e)))) - (IntKind.wrap .i64 (i * taken)))) < (100 : Int)))) then
      k1 (true, ())
    else
      (geti t3_3 i).bind fun e_6 =>
      (geti t3_4 i).bind fun e_7 =>
      (geti t3_4 i).bind fun e_8 =>
      (chk (List.length b_2 + List.length ([([99, 97, 115, 107], ((IntKind.wrap .i64 ((1000 : Int) * e_6)), ((IntKind.wrap .i64 ((IntKind.wrap .i64 ((IntKind.wrap .i64 (t3 - (IntKind.wrap .i64 (t3_1 * e)))) - (IntKind.wrap .i64 (i * taken)))) - e_7.1)), (IntKind.wrap .i64 ((IntKind.wrap .i64 ((IntKind.wrap .i64 (t3 - (IntKind.wrap .i64 (t3_1 * e)))) - (IntKind.wrap .i64 (i * taken)))) + e_8.2)))))] : List ((List UInt8) × Int × Int × Int)))).bind fun u =>
      again (taken, (IntKind.wrap .i64 (i + (1 : Int))), t3, t3_1, t3_2, t3_3, t3_4, b, b_1, (b_2 ++ ([([99, 97, 115, 107], ((IntKind.wrap .i64 ((1000 : Int) * e_6)), ((IntKind.wrap .i64 ((IntKind.wrap .i64 ((IntKind.wrap .i64 (t3 - (IntKind.wrap .i64 (t3_1 * e)))) - (IntKind.wrap .i64 (i * taken)))) - e_7.1)), (IntKind.wrap .i64 ((IntKind.wrap .i64 ((IntKind.wrap .i64 (t3 - (IntKind.wrap .i64 (t3_1 * e)))) - (IntKind.wrap .i64 (i * taken)))) + e_8.2)))))] : List ((List UInt8) × Int × Int × Int))), ())
  else
    k0 (taken, b, b_1, b_2, ())

/-- criadera/criaderatop.TopGaugeGone -/
def s4 (n : Nat) (x : Int × Int × Int × (List Int) × (List (Int × Int))) (loss : Int × Int) (taken : Int) : Option (Bool) :=
  (s5 n).bind fun x_1 =>
  bif (!x_1) then
    some (false)
  else
    (s12 n x.1 (0 : Int) (50000 : Int)).bind fun x_2 =>
    (part (!(!x_2)) (s12 n loss.1 (0 : Int) x.2.1) false).bind fun x_3 =>
    (part (!((!x_2) || (!x_3))) (s12 n loss.2 x.2.1 (1000 : Int)) false).bind fun x_4 =>
    (part (!((((((!x_2) || (!x_3)) || (!x_4)) || (x.2.2.1 != (0 : Int))) || (((List.length x.2.2.2.1 : Nat) : Int) != (2 : Int))) || (decide (((List.length x.2.2.2.2 : Nat) : Int) < (2 : Int))))) (s12 n taken (0 : Int) (20000 : Int)) false).bind fun x_5 =>
    bif (((((((!x_2) || (!x_3)) || (!x_4)) || (x.2.2.1 != (0 : Int))) || (((List.length x.2.2.2.1 : Nat) : Int) != (2 : Int))) || (decide (((List.length x.2.2.2.2 : Nat) : Int) < (2 : Int)))) || (!x_5)) then
      some (true)
    else
      loopG (s4_l0 n) n (taken, (0 : Int), x.1, x.2.1, x.2.2.1, x.2.2.2.1, x.2.2.2.2, loss.1, loss.2, ([] : List ((List UInt8) × Int × Int × Int)), ())
        (fun (taken_2, b_3, b_4, b_5, _) =>
          (s14 n ((b_3, b_4), (b_5, ([] : List (Int × (List UInt8) × (List UInt8) × Int))))).bind fun x_9 =>
          (s13 n x_9 ((0 : Int), (1 : Int))).bind fun x_10 =>
          (s14 n ((b_3, b_4), (b_5, ([] : List (Int × (List UInt8) × (List UInt8) × Int))))).bind fun x_11 =>
          (s15 n x_11 ((0 : Int), (1 : Int))).bind fun x_12 =>
          (s14 n ((b_3, b_4), (b_5, ([] : List (Int × (List UInt8) × (List UInt8) × Int))))).bind fun x_13 =>
          (s16 n x_13).bind fun x_14 =>
          (part (!(((x_10.2 != (0 : Int)) || (x_12.2 != (0 : Int))) || (x_14.2 != (0 : Int)))) (s12 n taken_2 x_10.1.1 x_10.1.2) false).bind fun x_15 =>
          bif ((((x_10.2 != (0 : Int)) || (x_12.2 != (0 : Int))) || (x_14.2 != (0 : Int))) || (!x_15)) then
            some (false)
          else
            bif x_12.1 then
              some (((decide (taken_2 > (0 : Int))) && (((List.length x_14.1 : Nat) : Int) == (1 : Int))))
            else
              some ((((List.length x_14.1 : Nat) : Int) == (0 : Int))),
        fun (t6, _) =>
          some (t6), ())

def s4_t0 : Templ := ⟨207, [(.int .i64), (.int .i64), (.int .i64), (.int .i64), (.int .i64), (.slice (.int .i64)), (.slice (.pair (.int .i64) (.int .i64))), (.int .i64), (.int .i64), (.slice (.pair .str (.pair (.int .i64) (.pair (.int .i64) (.int .i64)))))], [(2, .v (.hole (.int .i64))), (3, .v (.bptr 207 0)), (7, .v (.bptr 208 0)), (8, .v (.hole (.int .i64)))], [(207, .box (.pair (.int .i64) (.pair (.int .i64) (.pair (.int .i64) (.pair (.slice (.int .i64)) (.slice (.pair (.int .i64) (.int .i64))))))) [.hole (.int .i64), .hole (.int .i64), .hole (.int .i64), .hole (.slice (.int .i64)), .hole (.slice (.pair (.int .i64) (.int .i64)))]), (208, .box (.pair (.pair (.int .i64) (.int .i64)) (.pair (.slice (.pair .str (.pair (.int .i64) (.pair (.int .i64) (.int .i64))))) (.slice (.pair (.int .i64) (.pair .str (.pair .str (.int .i64))))))) [.hole (.int .i64), .hole (.int .i64), .hand 209, .nils]), (209, .buf (.pair .str (.pair (.int .i64) (.pair (.int .i64) (.int .i64)))))], []⟩
def s4_x0 : List (Way × Templ) := [(.exit 0, ⟨207, [(.int .i64), (.int .i64), (.int .i64), (.slice (.pair .str (.pair (.int .i64) (.pair (.int .i64) (.int .i64)))))], [(2, .v (.hole (.int .i64))), (7, .v (.bptr 207 0))], [(207, .box (.pair (.pair (.int .i64) (.int .i64)) (.pair (.slice (.pair .str (.pair (.int .i64) (.pair (.int .i64) (.int .i64))))) (.slice (.pair (.int .i64) (.pair .str (.pair .str (.int .i64))))))) [.hole (.int .i64), .hole (.int .i64), .hand 208, .nils]), (208, .buf (.pair .str (.pair (.int .i64) (.pair (.int .i64) (.int .i64)))))], []⟩), (.ret, ⟨207, [.bool], [(6, .v (.hole .bool))], [], []⟩)]
def s4_o0 (n : Nat) : Ev (denL [.bool]) := loopO n (e56 n) s4_t0 s4_x0 (s4_l0 n)
theorem s4_b0 (n : Nat) (d) (again) (ks) : codeR (R := (denL [.bool])) (e56 n) (Hdl.no (R := (denL [.bool]))) (inn (lp (bd Go.Proofs.Try.f4) 0)) [] (mk s4_t0 d) (turnR (e56 n) s4_t0 s4_x0 again ks) = s4_l0 n d again ks := by kernel_rfl
theorem s4_s0 (n : Nat) : Sound Go.Proofs.Try.prog (Hdl.no (R := (denL [.bool]))) false (lp (bd Go.Proofs.Try.f4) 0) (s4_o0 n) := loop_ok (h56 n) hP (by kernel_rfl) (O := []) trivial (s4_b0 n)
def s4_c (n : Nat) : Con := ⟨[(.pair (.int .i64) (.pair (.int .i64) (.pair (.int .i64) (.pair (.slice (.int .i64)) (.slice (.pair (.int .i64) (.int .i64))))))), (.pair (.int .i64) (.int .i64)), (.int .i64)], [], [.bool], fun x y => s4 n x.1 x.2.1 x.2.2, false⟩
theorem s4_eq (n : Nat) (x : denL [(.pair (.int .i64) (.pair (.int .i64) (.pair (.int .i64) (.pair (.slice (.int .i64)) (.slice (.pair (.int .i64) (.int .i64))))))), (.pair (.int .i64) (.int .i64)), (.int .i64)]) (y : denL []) : funR (e56 n) Go.Proofs.Try.f4 [(.pair (.int .i64) (.pair (.int .i64) (.pair (.int .i64) (.pair (.slice (.int .i64)) (.slice (.pair (.int .i64) (.int .i64))))))), (.pair (.int .i64) (.int .i64)), (.int .i64)] [] [.bool] false [s4_o0 n] x y = (s4_c n).fn x y := by kernel_rfl
theorem s4_ok (n : Nat) : ConOK Go.Proofs.Try.prog 4 (s4_c n) := func_ok (h56 n) hP Go.Proofs.Try.func4 (by kernel_rfl) (by kernel_rfl) (O := [s4_o0 n]) ⟨s4_s0 n, trivial⟩ (s4_eq n)
def e57 (n : Nat) : Env := ⟨gT, (4, s4_c n) :: (e56 n).C, gQ, (e56 n).I, (e56 n).M, (e56 n).S, (e56 n).D⟩
theorem h57 (n : Nat) : EnvOK Go.Proofs.Try.prog (e57 n) := env_add (h56 n) (s4_ok n)

end Go.Abs

set_option linter.unusedSimpArgs false
set_option linter.unusedVariables false
namespace Go.Abs
open Go

/-! Specifications. -/
def firstErr : List Int → Int
  | [] => 0
  | e :: r => bif e == 0 then firstErr r else e
def unl (ok : Bool) (e : Int) : Int := bif ok then 0 else e
def inR (n lo hi : Int) : Bool := decide (lo ≤ n) && decide (n ≤ hi)

def chOk (first : Bool) (c : UInt8) : Bool :=
  let n : Int := (c.toNat : Int)
  let letter := (decide (n ≥ 97) && decide (n ≤ 122)) || (decide (n ≥ 65) && decide (n ≤ 90))
  !(!letter && (first || (n != 45 && (decide (n < 48) || decide (n > 57)))))
def charsOk : Nat → List UInt8 → Bool
  | _, [] => true
  | i, c :: r => chOk (i == 0) c && charsOk (i + 1) r
def nameOk (s : List UInt8) : Bool := charsOk 0 s && s != [] && decide (s.length ≤ 12)

theorem v23 (n : Nat) (ok : Bool) (e : Int) : s23 n ok e = some (unl ok e) := by
  unfold s23 unl
  cases ok <;> rfl
theorem v41 (n : Nat) (x lo hi : Int) : s41 n x lo hi = some (inR x lo hi) := rfl
theorem v12 (n : Nat) (x lo hi : Int) : s12 n x lo hi = some (inR x lo hi) := rfl
theorem v40 (n : Nat) (x hi : Int) : s40 n x hi = some (inR x 10 hi) := rfl

theorem v22 (n : Nat) (l : List Int) (hl : l.length ≤ maxLen) (hn : l.length < n) : s22 n l = some (firstErr l) := by
  unfold s22
  refine list_loop0 l (fun i => (l, (l.length : Int), (i : Int), ())) (fun _ r => some (firstErr r)) hl ?_ ?_ hn
  · intro i x r hi hx hd hg hlt hw again ih
    simp only [s22_l0, hlt, cond_true, hg, Option.bind_some, hw, ih, firstErr, bne]
    cases h : (x == 0) <;> rfl
  · intro hlt again
    simp only [s22_l0, hlt, cond_false, firstErr]

theorem zero_beq (i : Nat) : ((i : Int) == 0) = (i == 0) := by
  cases i <;> simp
  omega

theorem v59 (n : Nat) (s : List UInt8) (hl : s.length ≤ maxLen) (hn : s.length < n) : s59 n s = some (nameOk s) := by
  unfold s59
  have hb : (bytesOf s).length = s.length := by simp [bytesOf]
  rw [hb]
  refine (list_loop0 s (fun i => (s, bytesOf s, (s.length : Int), (i : Int), ())) (fun i r => some (charsOk i r && s != [] && decide (s.length ≤ 12))) hl ?_ ?_ hn)
  · intro i x r hi hx hd hg hlt hw again ih
    have hg' : geti (bytesOf s) (i : Int) = some (x.toNat : Int) := by
      rw [geti_nat]; simp [bytesOf, hx]
    simp only [s59_l0, hlt, cond_true, hg', Option.bind_some, hw, ih, charsOk, chOk, zero_beq]
    rw [bif_eq]
    split
    · rename_i h
      rw [h]; rfl
    · rename_i h
      rw [Bool.not_eq_true] at h
      rw [h]; rfl
  · intro hlt again
    simp only [s59_l0, hlt, cond_false, charsOk, Bool.true_and]
    congr 2
    simp
    omega

theorem v46 (n : Nat) (s : List UInt8) (hn : 12 < n) : s46 n s = some (nameOk s) := by
  unfold s46
  rw [bif_eq]
  split
  · rename_i h
    have : nameOk s = false := by
      unfold nameOk
      cases s with
      | nil => simp
      | cons c r =>
        simp only [Bool.or_eq_true, decide_eq_true_eq] at h
        have : ¬ (c :: r).length ≤ 12 := by rcases h with h | h <;> simp at h ⊢ <;> omega
        simp only [this, decide_false, Bool.and_false]
    rw [this]
  · rename_i h
    have h12 : 1 ≤ s.length ∧ s.length ≤ 12 := by simp at h; omega
    refine (list_loop0 s (fun i => (s, (i : Int), ())) (fun i r => some (charsOk i r)) (by unfold maxLen; omega) ?_ ?_ (by omega)).trans ?_
    · intro i x r hi hx hd hg hlt hw again ih
      simp only [s46_l0, hlt, cond_true, hg, Option.bind_some, hw, ih, charsOk, chOk, zero_beq]
      rw [bif_eq]
      split
      · rename_i h
        rw [h]; rfl
      · rename_i h
        rw [Bool.not_eq_true] at h
        rw [h]; rfl
    · intro hlt again
      simp only [s46_l0, hlt, cond_false, charsOk]
    · unfold nameOk
      have : s != [] := by cases s <;> simp at h12 ⊢
      simp [this, h12]

end Go.Abs
