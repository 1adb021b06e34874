/- A function's contract is what the evaluator makes of its body. -/
import Derived.Test.YtbcbiemjokpghaaNAbsVS
set_option linter.unusedSimpArgs false
set_option linter.unusedVariables false
namespace Go.Abs
open Go
variable {P : Program} {E : Env} {w0 : Start} {w : World} {conc : Conc} {st : ASt} {a : Act}

theorem load_of_loadAt {T : Nat} {v u : Value} (h : (Instr.loadAt T v).run P w = .ok u w) : (do loadVar T (← asAddr v) : Sem Value).run P w = .ok u w := by
  cases v with
  | pointer p =>
    cases p with
    | none => simp [Instr.loadAt, Instr.sureAddr, stuck] at h
    | some q => exact h
  | _ => simp [Instr.loadAt, Instr.sureAddr, stuck] at h

def resVal (a : Act) : ResultVar → Sem Value
  | .tmp t => pure (a.tmps.getD t undef)
  | .cell c t => do loadVar t (← asAddr (a.tmps.getD c undef))

theorem resOf_spec (hE : EnvOK P E) (h : Mod P w0 conc st a w) : {rs : List ResultVar} → {l : List SVal} → (resOf E rs).run st = some l →
    ∃ vs, (rs.mapM (resVal a)).run P w = .ok vs w ∧ All2 (SRel P w conc (okOf conc)) l vs ∧ vs.length = rs.length
  | [], l, hr => by cases hr; exact ⟨[], by simp, trivial, rfl⟩
  | .tmp t :: r, l, hr => by
    obtain ⟨s, h1, h2⟩ := RM.bind_some hr
    obtain ⟨m, h3, h4⟩ := RM.bind_some h2
    cases h4
    have := rd_rel h (labs_nil _) h1
    obtain ⟨vs, e1, e2, e3⟩ := resOf_spec hE h h3
    refine ⟨a.eval (.tmp t) :: vs, ?_, ⟨this, e2⟩, by simp [e3]⟩
    have he : a.eval (.tmp t) = a.tmps.getD t undef := by simp [Act.eval]
    simp [List.mapM_cons, resVal, he, e1]
  | .cell c T :: r, l, hr => by
    simp only [resOf] at hr
    cases hT : E.ty T with
    | none => rw [hT] at hr; cases hr
    | some t =>
      rw [hT] at hr
      dsimp only at hr
      obtain ⟨b, h0, hr⟩ := RM.bind_some hr
      obtain ⟨s, h1, h2⟩ := RM.bind_some hr
      obtain ⟨m, h3, h4⟩ := RM.bind_some h2
      cases h4
      have hb := rdA_rel h (labs_nil _) h0
      obtain ⟨u, f1, f2⟩ := loadAt_sound hE h hT h1 hb
      have f3 := load_of_loadAt f1
      obtain ⟨vs, e1, e2, e3⟩ := resOf_spec hE h h3
      refine ⟨u :: vs, ?_, ⟨f2, e2⟩, by simp [e3]⟩
      have he : a.eval (.tmp c) = a.tmps.getD c undef := by simp [Act.eval]
      rw [he] at f3
      have : (resVal a (.cell c T)).run P w = .ok u w := f3
      simp [List.mapM_cons, this, e1]

theorem results_run {fn : Func} {vs : List Value} (h : (fn.results.toList.mapM (resVal a)).run P w = .ok vs w) : (results fn a.tmps).run P w = .ok (if vs.length = 1 then vs.headD undef else .tuple vs.toArray) w := by
  unfold results
  have e : ∀ g : ResultVar → Sem Value, (∀ r, g r = resVal a r) → fn.results.mapM g = Functor.map List.toArray (fn.results.toList.mapM (resVal a)) := by
    intro g hg
    rw [Array.mapM_eq_mapM_toList, show g = resVal a from funext hg]
  rw [e _ (fun r => by cases r <;> rfl)]
  simp only [map_eq_pure_bind, bind_assoc, pure_bind]
  rw [Sem.run_bind, h]
  simp only [Result.andThen_ok]
  match vs with
  | [] => rfl
  | [v] => rfl
  | v :: u :: r => simp

/-! A call's start. -/

theorem number_get : (l : List AVal) → (n d : Nat) → {sl : Slot} → Map.get (number n l) d = some sl → ∃ i x, d = n + i ∧ l[i]? = some x ∧ sl = ⟨[], true, .v x⟩
  | [], n, d, sl, h => by cases h
  | x :: r, n, d, sl, h => by
    simp only [number, Map.get, nbeq] at h
    by_cases hd : n = d
    · simp [hd] at h
      exact ⟨0, x, by omega, rfl, h.symm⟩
    · simp [hd] at h
      obtain ⟨i, y, h1, h2, h3⟩ := number_get r (n + 1) d h
      exact ⟨i + 1, y, by omega, by simpa using h2, h3⟩

theorem tupOf_len : (ts : List Ty) → (x : denL ts) → (tupOf ts x).length = ts.length
  | [], _ => rfl
  | [t], x => rfl
  | t :: u :: ts, (x, y) => by simp [tupOf, tupOf_len (u :: ts) y]

theorem ptrs_rel {ok : Nat → Prop} : (ts : List Ty) → {vs : List Value} → {x : denL ts} → CapsRep P w ok ts vs x → All2 (VRel P w conc ok) (ptrs (tupOf ts x)) vs
  | [], vs, x, h => by cases h; trivial
  | [t], vs, x, ⟨v, h1, h2⟩ => by subst h1; exact ⟨h2, trivial⟩
  | t :: u :: ts, vs, x, ⟨v, r, h1, h2, h3⟩ => by subst h1; exact ⟨h2, ptrs_rel (u :: ts) h3⟩

theorem ptrs_len : ∀ l : List AVal, (ptrs l).length = l.length
  | [] => rfl
  | a :: l => by cases a <;> simp [ptrs, ptrs_len l]

theorem start_ok (ok : Nat → Prop) (w : World) (tm : Array Value) (l : Nat) : StartOK ⟨w, newOk ok w, fun _ => False, [], tm, l, w.heap.size⟩ where
  up := fun b hb => .inr hb
  mB := fun b hb => hb.elim
  ds := (fun _ h => nomatch h)
  dn := List.nodup_nil
  lo := Nat.le_refl _

theorem entry_models {ok : Nat → Prop} {N : Nat} {ins caps : List Ty} {vs cs : List Value} {x : denL ins} {y : denL caps} (hN : ins.length + caps.length ≤ N) (hx : ArgsRep P w ok ins vs x) (hy : CapsRep P w ok caps cs y) (tm : Array Value) :
    Models P ⟨w, newOk ok w, fun _ => False, [], tm, 0, w.heap.size⟩ (entry N ins caps x y) { tmps := (vs ++ cs).toArray ++ Array.replicate (N - (vs ++ cs).toArray.size) undef, defers := [] } w := by
  let conc : Conc := ⟨fun _ => none, newOk ok w, 0⟩
  have hok : ∀ b, ok b → okOf conc b := fun b hb => ⟨.inl hb, (fun _ _ _ h => nomatch h)⟩
  have h1 : All2 (VRel P w conc (okOf conc)) (tupOf ins x) vs := (tup_rel (conc := conc) ins hx).imp fun a b h => VRel.mono ⟨Nat.le_refl _, fun _ _ _ => rfl⟩ (fun b hb _ => hok b hb) (CLe.refl _) a h
  have h2 : All2 (VRel P w conc (okOf conc)) (ptrs (tupOf caps y)) cs := (ptrs_rel (conc := conc) caps hy).imp fun a b h => VRel.mono ⟨Nat.le_refl _, fun _ _ _ => rfl⟩ (fun b hb _ => hok b hb) (CLe.refl _) a h
  have h3 := h1.append h2
  have hl1 := h1.length
  have hl2 := h2.length
  rw [tupOf_len] at hl1
  rw [ptrs_len, tupOf_len] at hl2
  refine ⟨conc, { defers := rfl, size := ?_, marks := ?_, slots := ?_, heap := (fun id ver o h => nomatch h), dead := fun _ _ => rfl, inj := (fun _ _ _ _ _ _ _ h => nomatch h), base := (fun _ _ _ _ h => nomatch h), keeps := ⟨rfl, rfl, rfl, Nat.le_refl _, fun _ _ _ => rfl⟩, cB := rfl, cY := rfl, okS := start_ok ok w tm 0, fixed := (fun _ h => nomatch h) }⟩
  · simp [entry]
    omega
  · intro d sl hd p hp
    obtain ⟨i, a, _, _, e⟩ := number_get _ _ _ hd
    rw [e] at hp
    cases hp
  · intro d sl hd
    obtain ⟨i, a, e1, e2, e3⟩ := number_get _ _ _ hd
    rw [Nat.zero_add] at e1
    subst e1
    obtain ⟨v, g1, g2⟩ := All2.get d a h3 e2
    refine ⟨v, ?_, ?_⟩
    · have hlt : d < (vs ++ cs).length := (List.getElem?_eq_some_iff.1 g1).1
      rw [Array.getElem?_append_left (by simpa using hlt)]
      simpa using g1
    · rw [e3]
      exact ⟨fun _ => ⟨rfl, g2⟩, fun hn => absurd (labs_nil _) hn⟩

/-- How an iterator starts: its first argument is the function to be called. -/
def entryY (N : Nat) (caps : List Ty) (y : denL caps) : ASt :=
  { N, marks := [], slots := (0, ⟨[], true, .v .yld⟩) :: number 1 (ptrs (tupOf caps y)), heap := [], fixed := [] }

theorem entryY_models {ok : Nat → Prop} {N : Nat} {caps : List Ty} {cs : List Value} {y : denL caps} (l : Nat) (hN : 1 + caps.length ≤ N) (hy : CapsRep P w ok caps cs y) (tm : Array Value) :
    Models P ⟨w, newOk ok w, fun _ => False, [], tm, l, w.heap.size⟩ (entryY N caps y) { tmps := (#[Value.func (.yield l) #[] #[]] ++ cs.toArray) ++ Array.replicate (N - (#[Value.func (.yield l) #[] #[]] ++ cs.toArray).size) undef, defers := [] } w := by
  let conc : Conc := ⟨fun _ => none, newOk ok w, l⟩
  have hok : ∀ b, ok b → okOf conc b := fun b hb => ⟨.inl hb, (fun _ _ _ h => nomatch h)⟩
  have h2 : All2 (VRel P w conc (okOf conc)) (ptrs (tupOf caps y)) cs := (ptrs_rel (conc := conc) caps hy).imp fun a b h => VRel.mono ⟨Nat.le_refl _, fun _ _ _ => rfl⟩ (fun b hb _ => hok b hb) (CLe.refl _) a h
  have hl2 := h2.length
  rw [ptrs_len, tupOf_len] at hl2
  have hget : ∀ d sl, Map.get (entryY N caps y).slots d = some sl → (d = 0 ∧ sl = ⟨[], true, .v .yld⟩) ∨ ∃ i a, d = 1 + i ∧ (ptrs (tupOf caps y))[i]? = some a ∧ sl = ⟨[], true, .v a⟩ := by
    intro d sl hd
    simp only [entryY, Map.get, nbeq] at hd
    by_cases h0 : 0 = d
    · simp [h0] at hd
      exact .inl ⟨h0.symm, hd.symm⟩
    · simp [h0] at hd
      exact .inr (number_get _ _ _ hd)
  refine ⟨conc, { defers := rfl, size := ?_, marks := ?_, slots := ?_, heap := (fun id ver o h => nomatch h), dead := fun _ _ => rfl, inj := (fun _ _ _ _ _ _ _ h => nomatch h), base := (fun _ _ _ _ h => nomatch h), keeps := ⟨rfl, rfl, rfl, Nat.le_refl _, fun _ _ _ => rfl⟩, cB := rfl, cY := rfl, okS := start_ok ok w tm l, fixed := (fun _ h => nomatch h) }⟩
  · simp [entryY]
    omega
  · intro d sl hd p hp
    rcases hget d sl hd with ⟨_, e⟩ | ⟨i, a, _, _, e⟩
    · rw [e] at hp; cases hp
    · rw [e] at hp; cases hp
  · intro d sl hd
    rcases hget d sl hd with ⟨e1, e⟩ | ⟨i, a, e1, e2, e3⟩
    · subst e1 e
      refine ⟨.func (.yield l) #[] #[], ?_, ⟨fun _ => ⟨rfl, rfl⟩, fun hn => absurd (labs_nil _) hn⟩⟩
      rw [Array.getElem?_append_left (by simp), Array.getElem?_append_left (by simp)]
      rfl
    · obtain ⟨v, g1, g2⟩ := All2.get i a h2 e2
      refine ⟨v, ?_, ?_⟩
      · have hlt : i < cs.length := (List.getElem?_eq_some_iff.1 g1).1
        subst e1
        rw [Array.getElem?_append_left (by simp; omega)]
        rw [Array.getElem?_append_right (by simp)]
        simpa using g1
      · rw [e3]
        exact ⟨fun _ => ⟨rfl, g2⟩, fun hn => absurd (labs_nil _) hn⟩

theorem args_len {ok : Nat → Prop} : (ts : List Ty) → {vs : List Value} → {x : denL ts} → ArgsRep P w ok ts vs x → vs.length = ts.length
  | [], vs, x, h => by cases h; rfl
  | [t], vs, x, ⟨cs, h1, h2⟩ => by subst h1; rfl
  | t :: u :: ts, vs, x, ⟨cs, r, h1, h2, h3⟩ => by subst h1; simp [args_len (u :: ts) h3]

theorem args_mono {ok ok' : Nat → Prop} (hs : Sub w ok ok') : (ts : List Ty) → {vs : List Value} → {x : denL ts} → ArgsRep P w ok ts vs x → ArgsRep P w ok' ts vs x
  | [], vs, x, h => h
  | [t], vs, x, ⟨cs, h1, h2⟩ => ⟨cs, h1, h2.re hs⟩
  | t :: u :: ts, vs, x, ⟨cs, r, h1, h2, h3⟩ => ⟨cs, r, h1, h2.re hs, args_mono hs (u :: ts) h3⟩

theorem res_of_args {ok : Nat → Prop} : (ts : List Ty) → {vs : List Value} → {x : denL ts} → ArgsRep P w ok ts vs x → ResRep P w ok ts (if vs.length = 1 then vs.headD undef else .tuple vs.toArray) x
  | [], vs, x, h => by cases h; rfl
  | [t], vs, x, ⟨cs, h1, h2⟩ => by subst h1; exact ⟨cs, rfl, h2⟩
  | t :: u :: ts, vs, x, h => by
    have hl := args_len _ h
    simp only [List.length_cons] at hl
    rw [if_neg (by omega)]
    exact ⟨vs, rfl, h⟩

theorem FreshT.sub {n : Nat} {ok ok' : Nat → Prop} (hs : Sub w ok ok') : (t : Ty) → {vs : List Value} → {d : t.den} → {bs : List Nat} → FreshT P n w ok t vs d bs → FreshT P n w ok' t vs d bs
  | .slice e, vs, d, bs, h => by
    rcases h with h | ⟨b, off, cap, cs, T, h1, h2, h3, h4, h5, h6, h7, h8⟩
    · exact .inl h
    · exact .inr ⟨b, off, cap, cs, T, h1, h2, h3, h4, h5, h6, h7, fun i x hi => (h8 i x hi).re hs⟩
  | .pair a b, vs, (x, y), bs, ⟨b1, b2, h1, h2, h3⟩ => ⟨b1, b2, h1, FreshT.sub hs a h2, FreshT.sub hs b h3⟩
  | .int k, vs, d, bs, ⟨h1, h2⟩ => ⟨h1, h2.re hs⟩
  | .bool, vs, d, bs, ⟨h1, h2⟩ => ⟨h1, h2.re hs⟩
  | .str, vs, d, bs, ⟨h1, h2⟩ => ⟨h1, h2.re hs⟩
  | .unit, vs, d, bs, ⟨h1, h2⟩ => ⟨h1, h2.re hs⟩
  | .fn1 _ _, vs, d, bs, ⟨h1, h2⟩ => ⟨h1, h2.re hs⟩
  | .fn2 _ _ _, vs, d, bs, ⟨h1, h2⟩ => ⟨h1, h2.re hs⟩
  | .seq _, vs, d, bs, ⟨h1, h2⟩ => ⟨h1, h2.re hs⟩
  | .seq2 _ _, vs, d, bs, ⟨h1, h2⟩ => ⟨h1, h2.re hs⟩
  | .map _ _, vs, d, bs, ⟨h1, h2⟩ => ⟨h1, h2.re hs⟩

/-- Fresh data are data. -/
theorem FreshT.rep {n : Nat} {ok ok' : Nat → Prop} (hs : Sub w ok ok') (hn : ∀ b, n ≤ b → ok' b) : (t : Ty) → {vs : List Value} → {d : t.den} → {bs : List Nat} → FreshT P n w ok t vs d bs → Rep P t w ok' vs d
  | .slice e, vs, l, bs, h => by
    rcases h with ⟨h1, h2, _⟩ | ⟨b, off, cap, cs, T, h1, h2, h3, h4, h5, h6, h7, h8⟩
    · refine ⟨none, 0, ?_, ?_, .inl h2⟩
      · rw [h1, h2]; rfl
      · rw [h2]; exact Nat.le_refl _
    · refine ⟨some ⟨b, off, none⟩, cap, h1, h5, .inr ⟨b, off, cs, T, _, rfl, hn b h3, h4, ?_, fun i y hi => ?_⟩⟩
      · exact Nat.le_trans (Nat.add_le_add_left (Nat.mul_le_mul_right _ h5) _) h7
      · exact (h8 i y hi).re hs
  | .pair a b, vs, (x, y), bs, ⟨b1, b2, h1, h2, h3⟩ => ⟨FreshT.rep hs hn a h2, FreshT.rep hs hn b h3⟩
  | .int k, vs, d, bs, ⟨h1, h2⟩ => h2.re hs
  | .bool, vs, d, bs, ⟨h1, h2⟩ => h2.re hs
  | .str, vs, d, bs, ⟨h1, h2⟩ => h2.re hs
  | .unit, vs, d, bs, ⟨h1, h2⟩ => h2.re hs
  | .fn1 _ _, vs, d, bs, ⟨h1, h2⟩ => h2.re hs
  | .fn2 _ _ _, vs, d, bs, ⟨h1, h2⟩ => h2.re hs
  | .seq _, vs, d, bs, ⟨h1, h2⟩ => h2.re hs
  | .seq2 _ _, vs, d, bs, ⟨h1, h2⟩ => h2.re hs
  | .map _ _, vs, d, bs, ⟨h1, h2⟩ => h2.re hs

def blk (conc : Conc) (id : Nat) : Option Nat := (conc id).bind fun p => blockOf p.2.1

theorem freshCells_one {n : Nat} {t : Ty} (ht : ∀ w ok vs d bs, FreshT P n w ok t vs d bs ↔ bs = [] ∧ Rep P t w ok vs d) {x : AVal} {r : List AVal} {us : List Value} {q : (t.den × List Nat) × List AVal}
    (hq : (freshOne t x r).run st = some q) (hs : t.sz = 1) (hp : t.isPair = false) (hv : All2 (VRel P w conc (okOf conc)) (x :: r) us) :
    ∃ vs ws bs, us = vs ++ ws ∧ All2 (VRel P w conc (okOf conc)) q.2 ws ∧ vs.length = t.sz ∧ FreshT P n w (okOf conc) t vs q.1.1 bs ∧ bs = q.1.2.filterMap (blk conc) ∧ ∀ id ∈ q.1.2, ∃ cv c, conc id = some (cv, c, true) := by
  unfold freshOne at hq
  split at hq
  · split at hq
    · rename_i y hy
      cases hq
      obtain ⟨e, he⟩ := castTy_some hy
      subst e
      subst he
      match us, hv with
      | v :: us, hv =>
        obtain ⟨zs, h1, h2⟩ := hv.1
        have hl := h2.len
        rw [hs] at hl
        match zs, hl with
        | [z], _ =>
          have : v = z := by rw [h1]; simp [Ty.val, hp]
          subst this
          exact ⟨[v], us, [], rfl, hv.2, by rw [hs]; rfl, (ht _ _ _ _ _).2 ⟨rfl, h2⟩, rfl, fun _ h => nomatch h⟩
    · cases hq
  · cases hq

theorem freshCells_spec {n : Nat} (h : Mod P w0 conc st a w) (hn : ∀ b, ownedB conc b → n ≤ b) : (t : Ty) → {l : List AVal} → {us : List Value} → {q : (t.den × List Nat) × List AVal} → (freshCells t l).run st = some q → All2 (VRel P w conc (okOf conc)) l us →
    ∃ vs ws bs, us = vs ++ ws ∧ All2 (VRel P w conc (okOf conc)) q.2 ws ∧ vs.length = t.sz ∧ FreshT P n w (okOf conc) t vs q.1.1 bs ∧ bs = q.1.2.filterMap (blk conc) ∧ ∀ id ∈ q.1.2, ∃ cv c, conc id = some (cv, c, true)
  | .slice e, .hand id ver :: r, v :: us, q, hr, hv => by
    simp only [freshCells, RM.run] at hr
    split at hr
    · rename_i cv e' l ho
      obtain ⟨g1, g2⟩ := cond_some hr
      have := nbeq_true g1
      subst this
      split at g2
      · rename_i x hx
        cases g2
        obtain ⟨he, hx⟩ := castTy_some hx
        cases he
        subst hx
        obtain ⟨c, ow, k1, k2⟩ := obj_rel h ho
        obtain ⟨cv', c', ow', m1, m2, mo, m3⟩ := hv.1
        rw [k1] at m1; cases m1
        have hvc := m3 rfl
        subst hvc
        obtain ⟨rfl, k2⟩ := k2
        rcases k2 with ⟨q1, q2⟩ | ⟨b, off, cap, cs, T, q1, q2, q3, q4, q5, q6⟩
        · refine ⟨[v], us, [], rfl, hv.2, rfl, .inl ⟨by rw [q1], q2, rfl⟩, ?_, ?_⟩
          · simp [blk, k1, q1, blockOf]
          · intro j hj; rw [List.mem_singleton] at hj; subst hj; exact ⟨_, _, k1⟩
        · refine ⟨[v], us, [b], rfl, hv.2, rfl, .inr ⟨b, off, cap, cs, T, by rw [q1], rfl, hn b ⟨id, cv, v, k1, by rw [q1]; rfl⟩, q2, q3, q4, q5, q6⟩, ?_, ?_⟩
          · simp [blk, k1, q1, blockOf]
          · intro j hj; rw [List.mem_singleton] at hj; subst hj; exact ⟨_, _, k1⟩
      · cases g2
    · cases hr
  | .slice e, .nils :: r, v :: us, q, hr, hv => by
    cases hr
    have hvn : v = .slice none 0 0 := hv.1
    subst hvn
    exact ⟨[_], us, [], rfl, hv.2, rfl, .inl ⟨rfl, rfl, rfl⟩, rfl, fun _ h => nomatch h⟩
  | .pair x y, l, us, q, hr, hv => by
    simp only [freshCells] at hr
    obtain ⟨p1, g1, hr⟩ := RM.bind_some hr
    obtain ⟨p2, g2, hr⟩ := RM.bind_some hr
    cases hr
    obtain ⟨vs1, ws1, bs1, e1, e2, e3, e4, e5, e6⟩ := freshCells_spec h hn x g1 hv
    obtain ⟨vs2, ws2, bs2, f1, f2, f3, f4, f5, f6⟩ := freshCells_spec h hn y g2 e2
    refine ⟨vs1 ++ vs2, ws2, bs1 ++ bs2, by rw [e1, f1, List.append_assoc], f2, by simp [Ty.sz, e3, f3], ⟨bs1, bs2, rfl, ?_, ?_⟩, by simp [e5, f5], ?_⟩
    · rw [List.take_left' e3]; exact e4
    · rw [List.drop_left' e3]; exact f4
    · intro id hid
      rcases List.mem_append.1 hid with hid | hid
      · exact e6 id hid
      · exact f6 id hid
  | .int k, x :: r, us, q, hr, hv => freshCells_one (fun _ _ _ _ _ => Iff.rfl) hr rfl rfl hv
  | .bool, x :: r, us, q, hr, hv => freshCells_one (fun _ _ _ _ _ => Iff.rfl) hr rfl rfl hv
  | .str, x :: r, us, q, hr, hv => freshCells_one (fun _ _ _ _ _ => Iff.rfl) hr rfl rfl hv
  | .int k, [], us, q, hr, hv => by cases hr
  | .bool, [], us, q, hr, hv => by cases hr
  | .str, [], us, q, hr, hv => by cases hr
  | .slice e, .hand id ver :: r, [], q, hr, hv => hv.elim
  | .slice e, .nils :: r, [], q, hr, hv => hv.elim
  | .slice e, [], us, q, hr, hv => by cases hr
  | .slice e, .pure _ _ :: r, us, q, hr, hv => by cases hr
  | .slice e, .bptr _ _ _ :: r, us, q, hr, hv => by cases hr
  | .slice e, .pptr _ _ :: r, us, q, hr, hv => by cases hr
  | .slice e, .eptr _ _ _ _ :: r, us, q, hr, hv => by cases hr
  | .slice e, .fref _ :: r, us, q, hr, hv => by cases hr
  | .slice e, .junk :: r, us, q, hr, hv => by cases hr
  | .slice e, .yld :: r, us, q, hr, hv => by cases hr
  | .unit, l, us, q, hr, hv => by cases l <;> first | cases hr | (rename_i x r; cases x <;> cases hr)
  | .fn1 _ _, l, us, q, hr, hv => by cases l <;> first | cases hr | (rename_i x r; cases x <;> cases hr)
  | .fn2 _ _ _, l, us, q, hr, hv => by cases l <;> first | cases hr | (rename_i x r; cases x <;> cases hr)
  | .seq _, l, us, q, hr, hv => by cases l <;> first | cases hr | (rename_i x r; cases x <;> cases hr)
  | .seq2 _ _, l, us, q, hr, hv => by cases l <;> first | cases hr | (rename_i x r; cases x <;> cases hr)
  | .map _ _, l, us, q, hr, hv => by cases l <;> first | cases hr | (rename_i x r; cases x <;> cases hr)

theorem nodupN_ok : {l : List Nat} → nodupN l = true → l.Nodup
  | [], _ => List.nodup_nil
  | i :: r, h => by
    simp only [nodupN, Bool.and_eq_true, Bool.not_eq_true', List.any_eq_false] at h
    refine List.nodup_cons.2 ⟨fun hm => h.1 i hm (by simp [nbeq]), nodupN_ok h.2⟩

theorem blks_nodup (h : Mod P w0 conc st a w) : {l : List Nat} → l.Nodup → (∀ id ∈ l, ∃ cv c, conc id = some (cv, c, true)) → (l.filterMap (blk conc)).Nodup
  | [], _, _ => List.nodup_nil
  | i :: r, hn, ho => by
    rw [List.nodup_cons] at hn
    have ih := blks_nodup h hn.2 fun id hid => ho id (List.mem_cons_of_mem _ hid)
    rw [List.filterMap_cons]
    split
    · exact ih
    · rename_i b hb
      refine List.nodup_cons.2 ⟨fun hm => ?_, ih⟩
      obtain ⟨j, hj, hbj⟩ := List.mem_filterMap.1 hm
      obtain ⟨cv, c, hc⟩ := ho i List.mem_cons_self
      obtain ⟨cv', c', hc'⟩ := ho j (List.mem_cons_of_mem _ hj)
      simp only [blk, hc, Option.bind_some] at hb
      simp only [blk, hc', Option.bind_some] at hbj
      have := h.inj i j _ _ _ _ b hc hc' hb hbj
      subst this
      exact hn.1 hj

theorem freshOf_spec {n : Nat} {ok : Nat → Prop} (h : Mod P w0 conc st a w) (hn : ∀ b, ownedB conc b → n ≤ b) (hnB : ∀ b, n ≤ b → ok b) (hsB : ∀ b, conc.B b → ok b) : (outs : List Ty) → {l : List SVal} → {vs : List Value} → {r : denL outs} → (freshOf outs l).run st = some r → All2 (SRel P w conc (okOf conc)) l vs →
    ∃ v, vs = [v] ∧ ResRep P w ok outs v r ∧ FreshC P n w conc.B outs v r := by
  intro outs l vs r hr hv
  unfold freshOf at hr
  split at hr
  · rename_i e id ver
    match vs, hv with
    | [v], hv =>
      simp only [RM.run] at hr
      split at hr
      · rename_i cv e' l ho
        obtain ⟨g1, g2⟩ := cond_some hr
        have := nbeq_true g1
        subst this
        split at g2
        · rename_i x hx
          cases g2
          obtain ⟨he, hx⟩ := castTy_some hx
          obtain ⟨c, ow, k1, k2⟩ := obj_rel h ho
          obtain ⟨cv', c', ow', m1, m2, mo, m3⟩ := hv.1
          rw [k1] at m1; cases m1
          have hvc := m3 rfl
          subst hvc
          cases he
          subst hx
          obtain ⟨rfl, k2⟩ := k2
          refine ⟨v, rfl, ?_, ?_⟩
          · refine ⟨[v], rfl, ?_⟩
            rcases k2 with ⟨q1, q2⟩ | ⟨b, off, cap, cs, T, q1, q2, q3, q4, q5, q6⟩
            · refine ⟨none, 0, ?_, ?_, .inl q2⟩
              · rw [q1, q2]; rfl
              · rw [q2]; exact Nat.le_refl _
            · refine ⟨some ⟨b, off, none⟩, cap, by rw [q1], q3, .inr ⟨b, off, cs, T, _, rfl, ?_, q2, ?_, fun i y hi => ?_⟩⟩
              · exact hnB b (hn b ⟨id, cv, v, k1, by rw [q1]; rfl⟩)
              · exact Nat.le_trans (Nat.add_le_add_left (Nat.mul_le_mul_right _ q3) _) q5
              · exact (q6 i y hi).re fun b hb _ => hsB b hb.1
          · rcases k2 with q | ⟨b, off, cap, cs, T, q1, q2, q3, q4, q5, q6⟩
            · exact .inl q
            · refine .inr ⟨b, off, cap, cs, T, q1, hn b ⟨id, cv, v, k1, by rw [q1]; rfl⟩, q2, q3, q4, q5, fun i y hi => (q6 i y hi).re fun b' hb' _ => ⟨hb'.1, fun e => ?_⟩⟩
              subst e
              exact hb'.2 id cv v k1 (by rw [q1]; rfl)
        · cases g2
      · cases hr
    | [], hv => exact hv.elim
    | _ :: _ :: _, hv => exact hv.2.elim
  · rename_i e
    match vs, hv with
    | [v], hv =>
      cases hr
      have hvn : v = .slice none 0 0 := hv.1
      subst hvn
      exact ⟨_, rfl, ⟨[_], rfl, Rep.nilS⟩, .inl ⟨rfl, rfl⟩⟩
    | [], hv => exact hv.elim
    | _ :: _ :: _, hv => exact hv.2.elim
  · rename_i x y l
    match vs, hv with
    | [v], hv =>
      obtain ⟨q, g1, g2⟩ := RM.bind_some hr
      obtain ⟨us, hu1, hu2, hu3⟩ := hv.1
      obtain ⟨cs, ws, bs, e1, e2, e3, e4, e5, e6⟩ := freshCells_spec h hn _ g1 hu3
      split at g2
      · rename_i hnil
        obtain ⟨hnd, g3⟩ := cond_some g2
        cases g3
        rw [hnil] at e2
        match ws, e2 with
        | [], _ =>
          rw [List.append_nil] at e1
          subst e1
          have hval : v = (Ty.pair x y).val us := by rw [hu1]; simp [Ty.val, Ty.isPair]
          refine ⟨v, rfl, ⟨us, hval, e4.rep (fun b hb _ => hsB b hb.1) hnB⟩, us, bs, hval, hu2, ?_, e3, e4.sub fun b hb _ => ⟨hb.1, fun hm => ?_⟩⟩
          · rw [e5]; exact blks_nodup h (nodupN_ok hnd) e6
          · rw [e5] at hm
            obtain ⟨id, hid, hbl⟩ := List.mem_filterMap.1 hm
            obtain ⟨cv, c, hc⟩ := e6 id hid
            simp only [blk, hc, Option.bind_some] at hbl
            exact hb.2 id cv c hc hbl
        | _ :: _, e2 => exact e2.elim
      · cases g2
    | [], hv => exact hv.elim
    | _ :: _ :: _, hv => exact hv.2.elim
  · cases hr

theorem FreshC.sub {n : Nat} {ok ok' : Nat → Prop} (hs : Sub w ok ok') {ts : List Ty} {v : Value} {r : denL ts} (h : FreshC P n w ok ts v r) : FreshC P n w ok' ts v r := by
  unfold FreshC at h ⊢
  split at h
  · rcases h with h | ⟨b, off, cap, cs, T, h1, h2, h3, h4, h5, h6, h7⟩
    · exact .inl h
    · exact .inr ⟨b, off, cap, cs, T, h1, h2, h3, h4, h5, h6, fun i x hi => (h7 i x hi).re fun b' hb' hl => ⟨hs b' hb'.1 hl, hb'.2⟩⟩
  · obtain ⟨vs, bs, h1, h2, h3, h4, h5⟩ := h
    exact ⟨vs, bs, h1, h2, h3, h4, h5.sub fun b' hb' hl => ⟨hs b' hb'.1 hl, hb'.2⟩⟩
  · trivial

theorem resRep_sub {ok ok' : Nat → Prop} (hs : Sub w ok ok') {ts : List Ty} {v : Value} {r : denL ts} (h : ResRep P w ok ts v r) : ResRep P w ok' ts v r := ResRep.mono ⟨Nat.le_refl _, fun _ _ _ => rfl⟩ hs ts h

/-- The deferred calls are fewer. -/
theorem Mod.fewer {s : Start} (h : Mod P s conc st a w) (r : List Deferred) (hS : StartOK { s with ds := r }) : Mod P { s with ds := r } conc st { a with defers := r } w :=
  { defers := rfl, size := h.size, marks := h.marks, slots := h.slots, heap := h.heap, dead := h.dead, inj := h.inj, base := h.base, keeps := ⟨h.keeps.os, h.keeps.tape, h.keeps.output, h.keeps.size, h.keeps.block⟩, cB := h.cB, cY := h.cY, okS := hS, fixed := h.fixed }

/-- A mark is come to. -/
theorem mark_step {s0 s : Start} (hl : LinkR s0 s) (hlo : s0.lo = s0.w.heap.size) (h : Mod P s conc st a w) {d : Deferred} {r : List Deferred} (hd : a.defers = d :: r) :
    ∃ D, d = { target := .collected D, args := #[] } ∧ (Instr.takeDeferred D).run P w = .ok [] (w.putObj D (.deferred none)) ∧ ∃ s', LinkR s0 s' ∧ Models P s' st { a with defers := r } (w.putObj D (.deferred none)) := by
  have hds : s.ds = d :: r := h.defers.symm.trans hd
  obtain ⟨D, e, h1, h2, h3⟩ := h.okS.ds d (by rw [hds]; exact List.mem_cons_self)
  have hlt := (Array.getElem?_eq_some_iff.1 h1).1
  have hD : w.heap[D]? = some (.deferred (some [])) := (h.keeps.block D hlt fun g => h2 (h.okS.mB D g)).trans h1
  have hdn := h.okS.dn
  rw [hds, List.nodup_cons] at hdn
  have hot : ∀ b, b ≠ D → (w.putObj D (.deferred none)).heap[b]? = w.heap[b]? := fun b hb => World.putObj_heap_other hb
  have hsz : (w.putObj D (.deferred none)).heap.size = w.heap.size := by simp
  have hk := h.keeps.size
  refine ⟨D, e, run_takeDeferred hD, ⟨w.putObj D (.deferred none), s.B, ownedB conc, r, s.tmps, s.yl, s.lo⟩, ?_, ?_⟩
  · have l1 := hl.trans h.link.toR
    exact {
      os := l1.os
      tape := l1.tape
      output := l1.output
      size := by
        have := l1.size
        show s0.w.heap.size ≤ (w.putObj D (.deferred none)).heap.size
        have h2 : s0.w.heap.size ≤ w.heap.size := this
        omega
      block := fun b hb hm => (hot b fun g => by
        have := hl.lo
        omega).trans (l1.block b hb hm)
      M := l1.M
      B1 := l1.B1
      B2 := l1.B2
      lo := l1.lo }
  · have hr : Mod P { s with ds := r } conc st { a with defers := r } w := h.fewer r {
      up := h.okS.up
      mB := h.okS.mB
      ds := fun d' hd' => h.okS.ds d' (by rw [hds]; exact List.mem_cons_of_mem _ hd')
      dn := hdn.2
      lo := h.okS.lo }
    refine ⟨_, Mod.move' hr s.B (by omega) (fun b _ hb => hot b fun g => h2 (by rw [← g, ← h.cB]; exact hb)) (fun b _ hb => by rw [← h.cB]; exact hb) rfl rfl (fun b hb => hb) rfl rfl rfl {
      up := fun b hb => h.okS.up b (by
        have h1 : (w.putObj D (.deferred none)).heap.size ≤ b := hb
        omega)
      mB := fun b ⟨i, v, c, g1, g2⟩ => h.inB g1 g2
      ds := fun d' hd' => by
        obtain ⟨D', e', k1, k2, k3⟩ := h.okS.ds d' (by rw [hds]; exact List.mem_cons_of_mem _ hd')
        have hlt' := (Array.getElem?_eq_some_iff.1 k1).1
        refine ⟨D', e', (hot D' fun g => ?_).trans ((h.keeps.block D' hlt' fun g => k2 (h.okS.mB D' g)).trans k1), k2, k3⟩
        subst g
        exact hdn.1 (by rw [e, ← e']; exact hd')
      dn := hdn.2
      lo := by
        have := h.okS.lo
        show s.lo ≤ (w.putObj D (.deferred none)).heap.size
        omega }⟩

theorem fin_sound (hE : EnvOK P E) {fn : Func} {outs : List Ty} {fresh : Bool} {ex : Exit} {ans : denL outs} {ok : Nat → Prop} {w1 : World} {tm : Array Value} {n : Nat} : ∀ (ds : List Deferred) {s : Start} {a : Act} {w : World}, a.defers = ds →
    LinkR ⟨w1, newOk ok w1, fun _ => False, [], tm, 0, w1.heap.size⟩ s → Models P s st a w → finR E fresh fn.results.toList outs ex st = some ans →
    LeavesInM Fence.wide n P fn a.tmps (fun e w' => ∃ v, e = .returned v ∧ Keeps w1 w' ∧ ResRep P w' (newOk ok w1) outs v ans ∧ (fresh = true → FreshC P w1.heap.size w' (newOk ok w1) outs v ans)) ds .returning w
  | d :: r, s, a, w, hd, hl, ⟨conc, hm⟩, h => by
    obtain ⟨D, e, hrun, s', hl', hm'⟩ := mark_step hl rfl hm hd
    subst e
    exact ⟨by simp, .inl ⟨D, _, rfl, hrun, fin_sound hE r (a := { a with defers := r }) rfl hl' hm' h⟩⟩
  | [], s, a, w, hd, hl, ⟨conc, hm⟩, h => by
    have l1 := hl.trans hm.link.toR
    have hk : Keeps w1 w := ⟨l1.os, l1.tape, l1.output, l1.size, fun b hb => l1.block b hb id⟩
    have hsub : Sub w conc.B (newOk ok w1) := fun b hb _ => by
      rw [hm.cB] at hb
      by_cases hlt : b < w1.heap.size
      · exact hl.B2 b hlt hb
      · exact .inr (by omega)
    have hn : ∀ b, ownedB conc b → w1.heap.size ≤ b := fun b hb => by
      rcases l1.M b hb with g | g
      · exact g.elim
      · exact g
    have key : (bif fresh then ((resOf E fn.results.toList).bind fun l => freshOf outs l).runK st some
      else ((resOf E fn.results.toList).bind fun l => packArgs E outs l).runK st fun x => some x.1) = some ans → ∃ v, (results fn a.tmps).run P w = .ok v w ∧
        ∃ v', Ending.returned v = .returned v' ∧ Keeps w1 w ∧ ResRep P w (newOk ok w1) outs v' ans ∧ (fresh = true → FreshC P w1.heap.size w (newOk ok w1) outs v' ans) := by
      intro h
      cases fresh with
      | true =>
        simp only [cond_true] at h
        rw [RM.runK_eq] at h
        cases hr : ((resOf E fn.results.toList).bind fun l => freshOf outs l).run st with
        | none => rw [hr] at h; cases h
        | some x =>
          rw [hr] at h
          cases h
          obtain ⟨l, g1, g2⟩ := RM.bind_some hr
          obtain ⟨vs, e1, e2, e3⟩ := resOf_spec hE hm g1
          obtain ⟨v, f1, f2, f3⟩ := freshOf_spec (ok := fun b => conc.B b ∨ w1.heap.size ≤ b) hm hn (fun b hb => .inr hb) (fun b hb => .inl hb) outs g2 e2
          refine ⟨_, results_run e1, v, ?_, hk, resRep_sub (fun b hb hlt => ?_) f2, fun _ => f3.sub hsub⟩
          · rw [f1]; rfl
          · rcases hb with hb | hb
            · exact hsub b hb hlt
            · exact .inr hb
      | false =>
        simp only [cond_false] at h
        rw [RM.runK_eq] at h
        cases hr : ((resOf E fn.results.toList).bind fun l => packArgs E outs l).run st with
        | none => rw [hr] at h; cases h
        | some x =>
          rw [hr] at h
          cases h
          obtain ⟨l, g1, g2⟩ := RM.bind_some hr
          obtain ⟨vs, e1, e2, e3⟩ := resOf_spec hE hm g1
          have hp := (packArgs_spec hE hm outs g2 e2 (ids x.2) fun _ h => h).2
          have hp' : ArgsRep P w (newOk ok w1) outs vs x.1 := args_mono (fun b hb hlt => hsub b hb.1 hlt) outs hp
          exact ⟨_, results_run e1, _, rfl, hk, res_of_args outs hp', (fun h => nomatch h)⟩
    cases ex <;> simp only [finR] at h <;> first | exact key h | cases h

/-- What a function's body comes to. -/
def funR (E : Env) (fn : Func) (ins caps outs : List Ty) (fresh : Bool) (O : List (Ev (denL outs))) (x : denL ins) (y : denL caps) : Option (denL outs) :=
  match fn.body with
  | some c => bif Nat.ble (ins.length + caps.length) fn.ntmps then codeR E Hdl.no c O (entry fn.ntmps ins caps x y) (finR E fresh fn.results.toList outs) else none
  | none => none

theorem fun_ok (hE : EnvOK P E) (hP : P.follows .mixedOrders = true) {f : FuncId} {fn : Func} (hf : P.funcs[f]? = some fn) (hn : (fn.name == "runtime.NumGoroutine") = false)
    {ins caps outs : List Ty} {g : denL ins → denL caps → Option (denL outs)} {fresh : Bool} {O : List (Ev (denL outs))} (hO : ∀ c, fn.body = some c → OsOK P (Hdl.no (R := denL outs)) false c O)
    (heq : ∀ x y, funR E fn ins caps outs fresh O x y = g x y) (hb : fn.body.isSome = true) : ConOK P f ⟨ins, caps, outs, g, fresh⟩ := by
  obtain ⟨c, hc⟩ := Option.isSome_iff_exists.1 hb
  refine ⟨⟨fn, hf, hn, by rw [hc]; rfl⟩, ?_⟩
  intro w ok vs cs x y r hx hy hr
  dsimp only at hx hy hr
  rw [← heq] at hr
  unfold funR at hr
  rw [hc] at hr
  dsimp only at hr
  cases hle : Nat.ble (ins.length + caps.length) fn.ntmps with
  | false => rw [hle] at hr; cases hr
  | true =>
    rw [hle] at hr
    simp only [cond_true] at hr
    let s0 : Start := ⟨w, newOk ok w, fun _ => False, [], #[], 0, w.heap.size⟩
    have hI : InvOK P (Hdl.no (R := denL outs)) false (fun s b => b = r ∧ LinkR s0 s) := {
      link := fun s s' b hb hl => ⟨hb.1, hb.2.trans hl.toR⟩
      nods := fun h => absurd rfl h
      fnl := fun _ _ => ⟨s0, r, fun _ _ => Iff.rfl⟩
      yld := fun h => absurd rfl h }
    refine callsIn_wide.1 (callsIn_of_wp_marks (n := 7) hf hc trivial (wpIn_mono (codeR_sound hE hP c O (hO c hc) none rfl _ hI _ _ _ _ _ _ hr (entry_models (Nat.le_of_ble_eq_true hle) hx hy #[]) ⟨rfl, LinkR.refl _⟩) ?_))
    rintro e a' w' ⟨s', ans', st', hm, ⟨rfl, hl⟩, h'⟩
    cases e with
    | normal => exact fin_sound hE a'.defers rfl hl hm h'
    | ret => exact fin_sound (ex := .ret) hE a'.defers rfl hl hm h'
    | exit i => cases h'
    | goto i => cases h'
    | panic c => cases h'
    | outgrown => cases h'

/-! Iterators. -/
def finI {α : Type} : Exit → ASt → Option (List α)
  | .normal, _ => some []
  | .ret, _ => some []
  | _, _ => none

def hdlL (tys : List Ty) : Hdl (List (denL tys)) := ⟨tys, fun x A B => emitL x A B⟩

def iterR (E : Env) (fn : Func) (tys caps : List Ty) (O : List (Ev (List (denL tys)))) (y : denL caps) : Option (List (denL tys)) :=
  match fn.body with
  | some c => bif fn.results.toList.isEmpty && Nat.ble (1 + caps.length) fn.ntmps then codeR E (hdlL tys) c O (entryY fn.ntmps caps y) finI else none
  | none => none

def InvIt {α : Type} (l : Nat) (w1 : World) (ok : Nat → Prop) (xs : List α) (J : Nat → (Nat → Prop) → (Nat → Prop) → World → Prop) (Jx : (Nat → Prop) → (Nat → Prop) → World → Prop) (s : Start) (ans : List α) : Prop :=
  s.ds = [] ∧ s.yl = l ∧ w1.heap.size ≤ s.w.heap.size ∧ ∃ A : Nat → Prop, (∀ b, A b → w1.heap.size ≤ b ∧ b < s.w.heap.size) ∧ (∀ b, s.M b → A b) ∧ (∀ b, b < s.w.heap.size → s.B b → (ok b ∧ b < w1.heap.size) ∨ A b) ∧
    ((∃ k, k ≤ xs.length ∧ xs.drop k = ans ∧ J k A s.M s.w) ∨ (ans = [] ∧ Jx A s.M s.w))

theorem InvIt.link {α : Type} {l : Nat} {w1 : World} {ok : Nat → Prop} {xs : List α} {J : Nat → (Nat → Prop) → (Nat → Prop) → World → Prop} {Jx : (Nat → Prop) → (Nat → Prop) → World → Prop}
    (hJ : ∀ k A S W A' S' W', J k A S W → Steps A S W A' S' W' → J k A' S' W') (hJx : ∀ A S W A' S' W', Jx A S W → Steps A S W A' S' W' → Jx A' S' W')
    {s s' : Start} {ans : List α} (h : InvIt l w1 ok xs J Jx s ans) (hl : Link s s') : InvIt l w1 ok xs J Jx s' ans := by
  obtain ⟨h1, h2, h3, A, h4, h5, h6, h7⟩ := h
  have hsz := hl.size
  have hst : Steps A s.M s.w (fun b => A b ∨ (s.w.heap.size ≤ b ∧ b < s'.w.heap.size)) s'.M s'.w := {
    os := hl.os
    tape := hl.tape
    output := hl.output
    size := hsz
    block := hl.block
    A1 := fun b hb => .inl hb
    A2 := fun b hb => hb.imp id fun g => g.1
    A3 := fun b hb => by
      rcases hb with g | g
      · have := (h4 b g).2; omega
      · exact g.2
    S2 := fun b hb => (hl.M b hb).imp id fun g => g.1
    SA := fun b hb => (hl.M b hb).imp (h5 b) id }
  refine ⟨hl.ds.trans h1, hl.yl.trans h2, by omega, _, fun b hb => ?_, hst.SA, fun b hb hB => ?_, ?_⟩
  · rcases hb with g | g
    · have := h4 b g; omega
    · omega
  · by_cases hlt : b < s.w.heap.size
    · exact (h6 b hlt ((hl.B b).1 hB)).imp id .inl
    · exact .inr (.inr ⟨by omega, hb⟩)
  · rcases h7 with ⟨k, g1, g2, g3⟩ | ⟨g1, g2⟩
    · exact .inl ⟨k, g1, g2, hJ _ _ _ _ _ _ _ g3 hst⟩
    · exact .inr ⟨g1, hJx _ _ _ _ _ _ g2 hst⟩

theorem opt_cond {α : Type} {b : Bool} {x : Option α} {y : α} (h : (bif b then x else none) = some y) : b = true ∧ x = some y := by
  cases b with
  | true => exact ⟨rfl, h⟩
  | false => cases h

theorem emitL_some {α : Type} {x : α} {A B : Option (List α)} {ans : List α} (h : emitL x A B = some ans) : ∃ ys, A = some ys ∧ B = some [] ∧ ans = x :: ys := by
  unfold emitL at h
  cases A with
  | none => cases h
  | some ys =>
    cases B with
    | none => cases h
    | some zs =>
      cases zs with
      | nil => cases h; exact ⟨ys, rfl, rfl, rfl⟩
      | cons _ _ => cases h

theorem iter_seq (hE : EnvOK P E) (hP : P.follows .mixedOrders = true) {tys : List Ty} (hne : tys ≠ []) {AR : World → (Nat → Prop) → Array Value → denL tys → Prop} (hAR : ∀ W o as x, ArgsRep P W o tys as x → AR W o as.toArray x)
    {f : FuncId} {fn : Func} (hf : P.funcs[f]? = some fn) {caps : List Ty} {O : List (Ev (List (denL tys)))} {c : Code} (hc : fn.body = some c) (hO : OsOK P (hdlL tys) false c O)
    {w1 : World} {ok : Nat → Prop} {cs : List Value} {y : denL caps} {xs : List (denL tys)} (hy : CapsRep P w1 ok caps cs y) (hr : iterR E fn tys caps O y = some xs) : SeqOK P AR f cs.toArray w1 ok xs := by
  intro l J Jx hJ hJx hY h0
  unfold iterR at hr
  rw [hc] at hr
  dsimp only at hr
  obtain ⟨g, hr⟩ := opt_cond hr
  simp only [Bool.and_eq_true] at g
  have hres : fn.results.toList = [] := by simpa using g.1
  have hI : InvOK P (hdlL tys) false (InvIt l w1 ok xs J Jx) := {
    link := fun s s' ans h hl => h.link hJ hJx hl
    nods := fun _ s ans h => h.1
    fnl := fun _ h => absurd h hne
    yld := fun _ s ans x A B as hinv hS he hargs => by
      obtain ⟨ys, rfl, rfl, rfl⟩ := emitL_some he
      obtain ⟨h1, h2, h3, A, h4, h5, h6, h7⟩ := hinv
      rcases h7 with ⟨k, q1, q2, q3⟩ | ⟨q1, _⟩
      · have hlt : k < xs.length := by
          rcases Nat.lt_or_ge k xs.length with q | q
          · exact q
          · rw [List.drop_eq_nil_of_le q] at q2
            cases q2
        rw [List.drop_eq_getElem_cons hlt] at q2
        have q2 := List.cons.inj q2
        have hk : xs[k]? = some x := by rw [List.getElem?_eq_getElem hlt]; exact congrArg some q2.1
        have hAR' : AR s.w (fun b => (ok b ∧ b < w1.heap.size) ∨ (A b ∧ ¬ s.M b)) as.toArray x := hAR _ _ _ _ (args_mono (fun b hb hlt => (h6 b hlt hb.1).imp id fun g => ⟨g, hb.2⟩) tys hargs)
        obtain ⟨fn1, tm1, as1, bd1, y1, y2⟩ := hY k x A s.M s.w as.toArray q3 hk h5 h4 h3 hAR'
        rw [h2]
        refine ⟨fn1, tm1, as1, bd1, y1, y2.mono ?_⟩
        rintro e W' ⟨k1, k2⟩
        have hsz := k1.size
        have hA' : ∀ b, A b → w1.heap.size ≤ b ∧ b < W'.heap.size := fun b hb => ⟨(h4 b hb).1, Nat.lt_of_lt_of_le (h4 b hb).2 hsz⟩
        have hB' : ∀ b, b < W'.heap.size → (s.after W').B b → (ok b ∧ b < w1.heap.size) ∨ A b := fun b hb hB => by
          rcases hB with ⟨g1, g2⟩ | g
          · exact h6 b g1 g2
          · omega
        refine ⟨⟨k1.os, k1.tape, k1.output, k1.size, fun b hb hB => k1.block b hb (h6 b hb hB)⟩, ?_⟩
        rcases k2 with ⟨rfl, k2⟩ | ⟨rfl, k2⟩
        · exact ⟨true, rfl, ys, rfl, h1, h2, Nat.le_trans h3 hsz, A, hA', h5, hB', .inl ⟨k + 1, hlt, q2.2, k2⟩⟩
        · exact ⟨false, rfl, [], rfl, h1, h2, Nat.le_trans h3 hsz, A, hA', h5, hB', .inr ⟨rfl, k2⟩⟩
      · cases q1 }
  have hent := entryY_models (P := P) (w := w1) (ok := ok) (N := fn.ntmps) l (Nat.le_of_ble_eq_true g.2) hy #[]
  refine callsIn_wide.1 (callsIn_of_wp (n := 7) hf hc trivial (wpIn_mono (codeR_sound hE hP c O hO none rfl _ hI _ _ _ _ _ _ hr hent
    ⟨rfl, rfl, Nat.le_refl _, fun _ => False, (fun _ h => h.elim), (fun _ h => h.elim), fun b hb hB => ?_, .inl ⟨0, Nat.zero_le _, rfl, h0⟩⟩) ?_))
  · rcases hB with hB | hB
    · exact .inl ⟨hB, hb⟩
    · exact absurd hb (Nat.not_lt.2 hB)
  rintro e a' w' ⟨s', ans', st', ⟨conc, hm⟩, hinv, h'⟩
  have hd : a'.defers = [] := hm.defers.trans hinv.1
  have hfin : InvIt l w1 ok xs J Jx (s'.now conc a' w') ans' := hinv.link hJ hJx hm.link
  have key : ans' = [] → a'.defers = [] ∧ ∃ v, (results fn a'.tmps).run P w' = .ok v w' ∧ ((∃ u, Ending.returned v = .returned u) ∧ ((∃ A S, J xs.length A S w') ∨ ∃ A S, Jx A S w')) := by
    intro ha
    subst ha
    refine ⟨hd, _, results_run (a := a') (vs := []) (by rw [hres]; simp), ⟨_, rfl⟩, ?_⟩
    obtain ⟨h1, h2, h3, A, h4, h5, h6, h7⟩ := hfin
    rcases h7 with ⟨k, q1, q2, q3⟩ | ⟨_, q2⟩
    · have : k = xs.length := by
        have := List.drop_eq_nil_iff.1 q2
        omega
      subst this
      exact .inl ⟨_, _, q3⟩
    · exact .inr ⟨_, _, q2⟩
  cases e with
  | normal => exact key (by cases h'; rfl)
  | ret => exact key (by cases h'; rfl)
  | exit i => cases h'
  | goto i => cases h'
  | panic c => cases h'
  | outgrown => cases h'

theorem iter1_ok (hE : EnvOK P E) (hP : P.follows .mixedOrders = true) {f : FuncId} {fn : Func} (hf : P.funcs[f]? = some fn) (hn : (fn.name == "runtime.NumGoroutine") = false) {e : Ty} {caps : List Ty} {g : denL caps → Option (List e.den)}
    {O : List (Ev (List (denL [e])))} (hO : ∀ c, fn.body = some c → OsOK P (hdlL [e]) false c O) (heq : ∀ y, iterR E fn [e] caps O y = g y) (hb : fn.body.isSome = true) : IConOK P f ⟨caps, .seq e, g⟩ := by
  obtain ⟨c, hc⟩ := Option.isSome_iff_exists.1 hb
  refine ⟨rfl, fun w ok cs y xs hy hx => ?_⟩
  dsimp only at hy hx
  refine ⟨f, cs.toArray, rfl, ⟨fn, hf, hn, by rw [hc]; rfl⟩, fun w' ok' hext hsub => ?_⟩
  exact iter_seq hE hP (tys := [e]) (by simp) (fun W o as x ⟨us, h1, h2⟩ => ⟨us, by rw [h1], h2⟩) hf hc (hO c hc) (hy.mono hext hsub caps) ((heq y).trans hx)

theorem iter2_ok (hE : EnvOK P E) (hP : P.follows .mixedOrders = true) {f : FuncId} {fn : Func} (hf : P.funcs[f]? = some fn) (hn : (fn.name == "runtime.NumGoroutine") = false) {a b : Ty} {caps : List Ty} {g : denL caps → Option (List (a.den × b.den))}
    {O : List (Ev (List (denL [a, b])))} (hO : ∀ c, fn.body = some c → OsOK P (hdlL [a, b]) false c O) (heq : ∀ y, iterR E fn [a, b] caps O y = g y) (hb : fn.body.isSome = true) : IConOK P f ⟨caps, .seq2 a b, g⟩ := by
  obtain ⟨c, hc⟩ := Option.isSome_iff_exists.1 hb
  refine ⟨rfl, fun w ok cs y xs hy hx => ?_⟩
  dsimp only at hy hx
  refine ⟨f, cs.toArray, rfl, ⟨fn, hf, hn, by rw [hc]; rfl⟩, fun w' ok' hext hsub => ?_⟩
  refine iter_seq hE hP (tys := [a, b]) (by simp) (fun W o as x hx => ?_) hf hc (hO c hc) (hy.mono hext hsub caps) ((heq y).trans hx)
  obtain ⟨us, r, h1, h2, us', h3, h4⟩ := hx
  exact ⟨us, us', by rw [h1, h3], h2, h4⟩

end Go.Abs
