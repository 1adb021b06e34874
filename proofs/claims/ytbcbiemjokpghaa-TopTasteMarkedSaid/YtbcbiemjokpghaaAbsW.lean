/- A function's contract is what the evaluator makes of its body. -/
import Derived.Test.YtbcbiemjokpghaaAbsV
set_option linter.unusedSimpArgs false
set_option linter.unusedVariables false
namespace Go.Abs
open Go
variable {P : Program} {E : Env} {w0 : Start} {w : World} {conc : Conc} {st : ASt} {a : Act}

theorem load_of_loadAt {T : Nat} {v u : Value} (h : (Instr.loadAt T v).run P w = .ok u w) : (do loadVar T (← asAddr v) : Sem Value).run P w = .ok u w := by
  cases v with
  | pointer p =>
    cases p with
    | none => simp [Instr.loadAt, Instr.sureAddr, stuck] at h
    | some q => exact h
  | _ => simp [Instr.loadAt, Instr.sureAddr, stuck] at h

def resVal (a : Act) : ResultVar → Sem Value
  | .tmp t => pure (a.tmps.getD t undef)
  | .cell c t => do loadVar t (← asAddr (a.tmps.getD c undef))

theorem resOf_spec (hE : EnvOK P E) (h : Mod P w0 conc st a w) : {rs : List ResultVar} → {l : List SVal} → (resOf E rs).run st = some l →
    ∃ vs, (rs.mapM (resVal a)).run P w = .ok vs w ∧ All2 (SRel P w conc (okOf conc)) l vs ∧ vs.length = rs.length
  | [], l, hr => by cases hr; exact ⟨[], by simp, trivial, rfl⟩
  | .tmp t :: r, l, hr => by
    obtain ⟨s, h1, h2⟩ := RM.bind_some hr
    obtain ⟨m, h3, h4⟩ := RM.bind_some h2
    cases h4
    have := rd_rel h (labs_nil _) h1
    obtain ⟨vs, e1, e2, e3⟩ := resOf_spec hE h h3
    refine ⟨a.eval (.tmp t) :: vs, ?_, ⟨this, e2⟩, by simp [e3]⟩
    have he : a.eval (.tmp t) = a.tmps.getD t undef := by simp [Act.eval]
    simp [List.mapM_cons, resVal, he, e1]
  | .cell c T :: r, l, hr => by
    simp only [resOf] at hr
    cases hT : E.ty T with
    | none => rw [hT] at hr; cases hr
    | some t =>
      rw [hT] at hr
      dsimp only at hr
      obtain ⟨b, h0, hr⟩ := RM.bind_some hr
      obtain ⟨s, h1, h2⟩ := RM.bind_some hr
      obtain ⟨m, h3, h4⟩ := RM.bind_some h2
      cases h4
      have hb := rdA_rel h (labs_nil _) h0
      obtain ⟨u, f1, f2⟩ := loadAt_sound hE h hT h1 hb
      have f3 := load_of_loadAt f1
      obtain ⟨vs, e1, e2, e3⟩ := resOf_spec hE h h3
      refine ⟨u :: vs, ?_, ⟨f2, e2⟩, by simp [e3]⟩
      have he : a.eval (.tmp c) = a.tmps.getD c undef := by simp [Act.eval]
      rw [he] at f3
      have : (resVal a (.cell c T)).run P w = .ok u w := f3
      simp [List.mapM_cons, this, e1]

theorem results_run {fn : Func} {vs : List Value} (h : (fn.results.toList.mapM (resVal a)).run P w = .ok vs w) : (results fn a.tmps).run P w = .ok (if vs.length = 1 then vs.headD undef else .tuple vs.toArray) w := by
  unfold results
  have e : ∀ g : ResultVar → Sem Value, (∀ r, g r = resVal a r) → fn.results.mapM g = Functor.map List.toArray (fn.results.toList.mapM (resVal a)) := by
    intro g hg
    rw [Array.mapM_eq_mapM_toList, show g = resVal a from funext hg]
  rw [e _ (fun r => by cases r <;> rfl)]
  simp only [map_eq_pure_bind, bind_assoc, pure_bind]
  rw [Sem.run_bind, h]
  simp only [Result.andThen_ok]
  match vs with
  | [] => rfl
  | [v] => rfl
  | v :: u :: r => simp

/-! A call's start. -/

theorem number_get : (l : List AVal) → (n d : Nat) → {sl : Slot} → Map.get (number n l) d = some sl → ∃ i x, d = n + i ∧ l[i]? = some x ∧ sl = ⟨[], true, .v x⟩
  | [], n, d, sl, h => by cases h
  | x :: r, n, d, sl, h => by
    simp only [number, Map.get, nbeq] at h
    by_cases hd : n = d
    · simp [hd] at h
      exact ⟨0, x, by omega, rfl, h.symm⟩
    · simp [hd] at h
      obtain ⟨i, y, h1, h2, h3⟩ := number_get r (n + 1) d h
      exact ⟨i + 1, y, by omega, by simpa using h2, h3⟩

theorem tupOf_len : (ts : List Ty) → (x : denL ts) → (tupOf ts x).length = ts.length
  | [], _ => rfl
  | [t], x => rfl
  | t :: u :: ts, (x, y) => by simp [tupOf, tupOf_len (u :: ts) y]

theorem ptrs_rel {ok : Nat → Prop} : (ts : List Ty) → {vs : List Value} → {x : denL ts} → CapsRep P w ok ts vs x → All2 (VRel P w conc ok) (ptrs (tupOf ts x)) vs
  | [], vs, x, h => by cases h; trivial
  | [t], vs, x, ⟨v, h1, h2⟩ => by subst h1; exact ⟨h2, trivial⟩
  | t :: u :: ts, vs, x, ⟨v, r, h1, h2, h3⟩ => by subst h1; exact ⟨h2, ptrs_rel (u :: ts) h3⟩

theorem entry_models {ok : Nat → Prop} {N : Nat} {ins caps : List Ty} {vs cs : List Value} {x : denL ins} {y : denL caps} (hN : ins.length + caps.length ≤ N) (hx : ArgsRep P w ok ins vs x) (hy : CapsRep P w ok caps cs y) :
    Models P ⟨w, newOk ok w⟩ (entry N ins caps x y) { tmps := (vs ++ cs).toArray ++ Array.replicate (N - (vs ++ cs).toArray.size) undef, defers := [] } w := by
  let conc : Conc := ⟨fun _ => none, newOk ok w⟩
  have hok : ∀ b, ok b → okOf conc b := fun b hb => ⟨.inl hb, (fun _ _ _ h => nomatch h)⟩
  have h1 : All2 (VRel P w conc (okOf conc)) (tupOf ins x) vs := (tup_rel (conc := conc) ins hx).imp fun a b h => VRel.mono ⟨Nat.le_refl _, fun _ _ _ => rfl⟩ (fun b hb _ => hok b hb) (CLe.refl _) a h
  have h2 : All2 (VRel P w conc (okOf conc)) (ptrs (tupOf caps y)) cs := (ptrs_rel (conc := conc) caps hy).imp fun a b h => VRel.mono ⟨Nat.le_refl _, fun _ _ _ => rfl⟩ (fun b hb _ => hok b hb) (CLe.refl _) a h
  have h3 := h1.append h2
  have hl1 := h1.length
  have hl2 := h2.length
  have hpl : ∀ l : List AVal, (ptrs l).length = l.length := by
    intro l
    induction l with
    | nil => rfl
    | cons a l ih => cases a <;> simp [ptrs, ih]
  rw [tupOf_len] at hl1
  rw [hpl, tupOf_len] at hl2
  refine ⟨conc, { defers := rfl, size := ?_, marks := ?_, slots := ?_, heap := (fun id ver o h => nomatch h), dead := fun _ _ => rfl, inj := (fun _ _ _ _ _ _ _ h => nomatch h), base := (fun _ _ _ _ h => nomatch h), keeps := Keeps.refl w, cB := rfl, up := fun b hb => .inr hb }⟩
  · simp [entry]
    omega
  · intro d sl hd p hp
    obtain ⟨i, a, _, _, e⟩ := number_get _ _ _ hd
    rw [e] at hp
    cases hp
  · intro d sl hd
    obtain ⟨i, a, e1, e2, e3⟩ := number_get _ _ _ hd
    rw [Nat.zero_add] at e1
    subst e1
    obtain ⟨v, g1, g2⟩ := All2.get d a h3 e2
    refine ⟨v, ?_, ?_⟩
    · have hlt : d < (vs ++ cs).length := (List.getElem?_eq_some_iff.1 g1).1
      rw [Array.getElem?_append_left (by simpa using hlt)]
      simpa using g1
    · rw [e3]
      exact ⟨fun _ => ⟨rfl, g2⟩, fun hn => absurd (labs_nil _) hn⟩

theorem args_len {ok : Nat → Prop} : (ts : List Ty) → {vs : List Value} → {x : denL ts} → ArgsRep P w ok ts vs x → vs.length = ts.length
  | [], vs, x, h => by cases h; rfl
  | [t], vs, x, ⟨cs, h1, h2⟩ => by subst h1; rfl
  | t :: u :: ts, vs, x, ⟨cs, r, h1, h2, h3⟩ => by subst h1; simp [args_len (u :: ts) h3]

theorem args_mono {ok ok' : Nat → Prop} (hs : Sub w ok ok') : (ts : List Ty) → {vs : List Value} → {x : denL ts} → ArgsRep P w ok ts vs x → ArgsRep P w ok' ts vs x
  | [], vs, x, h => h
  | [t], vs, x, ⟨cs, h1, h2⟩ => ⟨cs, h1, h2.re hs⟩
  | t :: u :: ts, vs, x, ⟨cs, r, h1, h2, h3⟩ => ⟨cs, r, h1, h2.re hs, args_mono hs (u :: ts) h3⟩

theorem res_of_args {ok : Nat → Prop} : (ts : List Ty) → {vs : List Value} → {x : denL ts} → ArgsRep P w ok ts vs x → ResRep P w ok ts (if vs.length = 1 then vs.headD undef else .tuple vs.toArray) x
  | [], vs, x, h => by cases h; rfl
  | [t], vs, x, ⟨cs, h1, h2⟩ => by subst h1; exact ⟨cs, rfl, h2⟩
  | t :: u :: ts, vs, x, h => by
    have hl := args_len _ h
    simp only [List.length_cons] at hl
    rw [if_neg (by omega)]
    exact ⟨vs, rfl, h⟩

theorem FreshT.sub {n : Nat} {ok ok' : Nat → Prop} (hs : Sub w ok ok') : (t : Ty) → {vs : List Value} → {d : t.den} → {bs : List Nat} → FreshT P n w ok t vs d bs → FreshT P n w ok' t vs d bs
  | .slice e, vs, d, bs, h => by
    rcases h with h | ⟨b, cap, cs, T, h1, h2, h3, h4, h5, h6, h7, h8⟩
    · exact .inl h
    · exact .inr ⟨b, cap, cs, T, h1, h2, h3, h4, h5, h6, h7, fun i x hi => (h8 i x hi).re hs⟩
  | .pair a b, vs, (x, y), bs, ⟨b1, b2, h1, h2, h3⟩ => ⟨b1, b2, h1, FreshT.sub hs a h2, FreshT.sub hs b h3⟩
  | .int k, vs, d, bs, ⟨h1, h2⟩ => ⟨h1, h2.re hs⟩
  | .bool, vs, d, bs, ⟨h1, h2⟩ => ⟨h1, h2.re hs⟩
  | .str, vs, d, bs, ⟨h1, h2⟩ => ⟨h1, h2.re hs⟩
  | .unit, vs, d, bs, ⟨h1, h2⟩ => ⟨h1, h2.re hs⟩
  | .fn1 _ _, vs, d, bs, ⟨h1, h2⟩ => ⟨h1, h2.re hs⟩
  | .fn2 _ _ _, vs, d, bs, ⟨h1, h2⟩ => ⟨h1, h2.re hs⟩

/-- Fresh data are data. -/
theorem FreshT.rep {n : Nat} {ok ok' : Nat → Prop} (hs : Sub w ok ok') (hn : ∀ b, n ≤ b → ok' b) : (t : Ty) → {vs : List Value} → {d : t.den} → {bs : List Nat} → FreshT P n w ok t vs d bs → Rep P t w ok' vs d
  | .slice e, vs, l, bs, h => by
    rcases h with ⟨h1, h2, _⟩ | ⟨b, cap, cs, T, h1, h2, h3, h4, h5, h6, h7, h8⟩
    · refine ⟨none, 0, ?_, ?_, .inl h2⟩
      · rw [h1, h2]; rfl
      · rw [h2]; exact Nat.le_refl _
    · refine ⟨some ⟨b, 0, none⟩, cap, h1, h5, .inr ⟨b, 0, cs, T, _, rfl, hn b h3, h4, ?_, fun i y hi => ?_⟩⟩
      · rw [h7, Nat.zero_add]; exact Nat.mul_le_mul_right _ h5
      · rw [Nat.zero_add]; exact (h8 i y hi).re hs
  | .pair a b, vs, (x, y), bs, ⟨b1, b2, h1, h2, h3⟩ => ⟨FreshT.rep hs hn a h2, FreshT.rep hs hn b h3⟩
  | .int k, vs, d, bs, ⟨h1, h2⟩ => h2.re hs
  | .bool, vs, d, bs, ⟨h1, h2⟩ => h2.re hs
  | .str, vs, d, bs, ⟨h1, h2⟩ => h2.re hs
  | .unit, vs, d, bs, ⟨h1, h2⟩ => h2.re hs
  | .fn1 _ _, vs, d, bs, ⟨h1, h2⟩ => h2.re hs
  | .fn2 _ _ _, vs, d, bs, ⟨h1, h2⟩ => h2.re hs

def blk (conc : Conc) (id : Nat) : Option Nat := (conc id).bind fun p => blockOf p.2.1

theorem freshCells_one {t : Ty} (ht : ∀ w ok vs d bs, FreshT P w0.w.heap.size w ok t vs d bs ↔ bs = [] ∧ Rep P t w ok vs d) {x : AVal} {r : List AVal} {us : List Value} {q : (t.den × List Nat) × List AVal}
    (hq : (freshOne t x r).run st = some q) (hs : t.sz = 1) (hp : t.isPair = false) (hv : All2 (VRel P w conc (okOf conc)) (x :: r) us) :
    ∃ vs ws bs, us = vs ++ ws ∧ All2 (VRel P w conc (okOf conc)) q.2 ws ∧ vs.length = t.sz ∧ FreshT P w0.w.heap.size w (okOf conc) t vs q.1.1 bs ∧ bs = q.1.2.filterMap (blk conc) ∧ ∀ id ∈ q.1.2, ∃ cv c, conc id = some (cv, c, true) := by
  unfold freshOne at hq
  split at hq
  · split at hq
    · rename_i y hy
      cases hq
      obtain ⟨e, he⟩ := castTy_some hy
      subst e
      subst he
      match us, hv with
      | v :: us, hv =>
        obtain ⟨zs, h1, h2⟩ := hv.1
        have hl := h2.len
        rw [hs] at hl
        match zs, hl with
        | [z], _ =>
          have : v = z := by rw [h1]; simp [Ty.val, hp]
          subst this
          exact ⟨[v], us, [], rfl, hv.2, by rw [hs]; rfl, (ht _ _ _ _ _).2 ⟨rfl, h2⟩, rfl, fun _ h => nomatch h⟩
    · cases hq
  · cases hq

theorem freshCells_spec (h : Mod P w0 conc st a w) : (t : Ty) → {l : List AVal} → {us : List Value} → {q : (t.den × List Nat) × List AVal} → (freshCells t l).run st = some q → All2 (VRel P w conc (okOf conc)) l us →
    ∃ vs ws bs, us = vs ++ ws ∧ All2 (VRel P w conc (okOf conc)) q.2 ws ∧ vs.length = t.sz ∧ FreshT P w0.w.heap.size w (okOf conc) t vs q.1.1 bs ∧ bs = q.1.2.filterMap (blk conc) ∧ ∀ id ∈ q.1.2, ∃ cv c, conc id = some (cv, c, true)
  | .slice e, .hand id ver :: r, v :: us, q, hr, hv => by
    simp only [freshCells, RM.run] at hr
    split at hr
    · rename_i cv e' l ho
      obtain ⟨g1, g2⟩ := cond_some hr
      have := nbeq_true g1
      subst this
      split at g2
      · rename_i x hx
        cases g2
        obtain ⟨he, hx⟩ := castTy_some hx
        cases he
        subst hx
        obtain ⟨c, ow, k1, k2⟩ := obj_rel h ho
        obtain ⟨cv', c', ow', m1, m2, mo, m3⟩ := hv.1
        rw [k1] at m1; cases m1
        have hvc := m3 rfl
        subst hvc
        obtain ⟨rfl, k2⟩ := k2
        rcases k2 with ⟨q1, q2⟩ | ⟨b, cap, cs, T, q1, q2, q3, q4, q5, q6⟩
        · refine ⟨[v], us, [], rfl, hv.2, rfl, .inl ⟨by rw [q1], q2, rfl⟩, ?_, ?_⟩
          · simp [blk, k1, q1, blockOf]
          · intro j hj; rw [List.mem_singleton] at hj; subst hj; exact ⟨_, _, k1⟩
        · refine ⟨[v], us, [b], rfl, hv.2, rfl, .inr ⟨b, cap, cs, T, by rw [q1], rfl, (h.base id cv v b k1 (by rw [q1]; rfl)).1, q2, q3, q4, q5, q6⟩, ?_, ?_⟩
          · simp [blk, k1, q1, blockOf]
          · intro j hj; rw [List.mem_singleton] at hj; subst hj; exact ⟨_, _, k1⟩
      · cases g2
    · cases hr
  | .slice e, .nils :: r, v :: us, q, hr, hv => by
    cases hr
    have hvn : v = .slice none 0 0 := hv.1
    subst hvn
    exact ⟨[_], us, [], rfl, hv.2, rfl, .inl ⟨rfl, rfl, rfl⟩, rfl, fun _ h => nomatch h⟩
  | .pair x y, l, us, q, hr, hv => by
    simp only [freshCells] at hr
    obtain ⟨p1, g1, hr⟩ := RM.bind_some hr
    obtain ⟨p2, g2, hr⟩ := RM.bind_some hr
    cases hr
    obtain ⟨vs1, ws1, bs1, e1, e2, e3, e4, e5, e6⟩ := freshCells_spec h x g1 hv
    obtain ⟨vs2, ws2, bs2, f1, f2, f3, f4, f5, f6⟩ := freshCells_spec h y g2 e2
    refine ⟨vs1 ++ vs2, ws2, bs1 ++ bs2, by rw [e1, f1, List.append_assoc], f2, by simp [Ty.sz, e3, f3], ⟨bs1, bs2, rfl, ?_, ?_⟩, by simp [e5, f5], ?_⟩
    · rw [List.take_left' e3]; exact e4
    · rw [List.drop_left' e3]; exact f4
    · intro id hid
      rcases List.mem_append.1 hid with hid | hid
      · exact e6 id hid
      · exact f6 id hid
  | .int k, x :: r, us, q, hr, hv => freshCells_one (fun _ _ _ _ _ => Iff.rfl) hr rfl rfl hv
  | .bool, x :: r, us, q, hr, hv => freshCells_one (fun _ _ _ _ _ => Iff.rfl) hr rfl rfl hv
  | .str, x :: r, us, q, hr, hv => freshCells_one (fun _ _ _ _ _ => Iff.rfl) hr rfl rfl hv
  | .int k, [], us, q, hr, hv => by cases hr
  | .bool, [], us, q, hr, hv => by cases hr
  | .str, [], us, q, hr, hv => by cases hr
  | .slice e, .hand id ver :: r, [], q, hr, hv => hv.elim
  | .slice e, .nils :: r, [], q, hr, hv => hv.elim
  | .slice e, [], us, q, hr, hv => by cases hr
  | .slice e, .pure _ _ :: r, us, q, hr, hv => by cases hr
  | .slice e, .bptr _ _ _ :: r, us, q, hr, hv => by cases hr
  | .slice e, .pptr _ _ :: r, us, q, hr, hv => by cases hr
  | .slice e, .eptr _ _ _ _ :: r, us, q, hr, hv => by cases hr
  | .slice e, .fref _ :: r, us, q, hr, hv => by cases hr
  | .slice e, .junk :: r, us, q, hr, hv => by cases hr
  | .unit, l, us, q, hr, hv => by cases l <;> first | cases hr | (rename_i x r; cases x <;> cases hr)
  | .fn1 _ _, l, us, q, hr, hv => by cases l <;> first | cases hr | (rename_i x r; cases x <;> cases hr)
  | .fn2 _ _ _, l, us, q, hr, hv => by cases l <;> first | cases hr | (rename_i x r; cases x <;> cases hr)

theorem nodupN_ok : {l : List Nat} → nodupN l = true → l.Nodup
  | [], _ => List.nodup_nil
  | i :: r, h => by
    simp only [nodupN, Bool.and_eq_true, Bool.not_eq_true', List.any_eq_false] at h
    refine List.nodup_cons.2 ⟨fun hm => h.1 i hm (by simp [nbeq]), nodupN_ok h.2⟩

theorem blks_nodup (h : Mod P w0 conc st a w) : {l : List Nat} → l.Nodup → (∀ id ∈ l, ∃ cv c, conc id = some (cv, c, true)) → (l.filterMap (blk conc)).Nodup
  | [], _, _ => List.nodup_nil
  | i :: r, hn, ho => by
    rw [List.nodup_cons] at hn
    have ih := blks_nodup h hn.2 fun id hid => ho id (List.mem_cons_of_mem _ hid)
    rw [List.filterMap_cons]
    split
    · exact ih
    · rename_i b hb
      refine List.nodup_cons.2 ⟨fun hm => ?_, ih⟩
      obtain ⟨j, hj, hbj⟩ := List.mem_filterMap.1 hm
      obtain ⟨cv, c, hc⟩ := ho i List.mem_cons_self
      obtain ⟨cv', c', hc'⟩ := ho j (List.mem_cons_of_mem _ hj)
      simp only [blk, hc, Option.bind_some] at hb
      simp only [blk, hc', Option.bind_some] at hbj
      have := h.inj i j _ _ _ _ b hc hc' hb hbj
      subst this
      exact hn.1 hj

theorem freshOf_spec (h : Mod P w0 conc st a w) : (outs : List Ty) → {l : List SVal} → {vs : List Value} → {r : denL outs} → (freshOf outs l).run st = some r → All2 (SRel P w conc (okOf conc)) l vs →
    ∃ v, vs = [v] ∧ ResRep P w conc.B outs v r ∧ FreshC P w0.w.heap.size w conc.B outs v r := by
  intro outs l vs r hr hv
  unfold freshOf at hr
  split at hr
  · rename_i e id ver
    match vs, hv with
    | [v], hv =>
      simp only [RM.run] at hr
      split at hr
      · rename_i cv e' l ho
        obtain ⟨g1, g2⟩ := cond_some hr
        have := nbeq_true g1
        subst this
        split at g2
        · rename_i x hx
          cases g2
          obtain ⟨he, hx⟩ := castTy_some hx
          obtain ⟨c, ow, k1, k2⟩ := obj_rel h ho
          obtain ⟨cv', c', ow', m1, m2, mo, m3⟩ := hv.1
          rw [k1] at m1; cases m1
          have hvc := m3 rfl
          subst hvc
          cases he
          subst hx
          obtain ⟨rfl, k2⟩ := k2
          refine ⟨v, rfl, ?_, ?_⟩
          · refine ⟨[v], rfl, ?_⟩
            rcases k2 with ⟨q1, q2⟩ | ⟨b, cap, cs, T, q1, q2, q3, q4, q5, q6⟩
            · refine ⟨none, 0, ?_, ?_, .inl q2⟩
              · rw [q1, q2]; rfl
              · rw [q2]; exact Nat.le_refl _
            · refine ⟨some ⟨b, 0, none⟩, cap, by rw [q1], q3, .inr ⟨b, 0, cs, T, _, rfl, ?_, q2, ?_, fun i y hi => ?_⟩⟩
              · rw [h.cB]; exact h.up b (h.base id cv v b k1 (by rw [q1]; rfl)).1
              · rw [q5, Nat.zero_add]; exact Nat.mul_le_mul_right _ q3
              · rw [Nat.zero_add]; exact (q6 i y hi).re fun b hb _ => hb.1
          · rcases k2 with q | ⟨b, cap, cs, T, q1, q2, q3, q4, q5, q6⟩
            · exact .inl q
            · refine .inr ⟨b, cap, cs, T, q1, (h.base id cv v b k1 (by rw [q1]; rfl)).1, q2, q3, q4, q5, fun i y hi => (q6 i y hi).re fun b' hb' _ => ⟨hb'.1, fun e => ?_⟩⟩
              subst e
              exact hb'.2 id cv v k1 (by rw [q1]; rfl)
        · cases g2
      · cases hr
    | [], hv => exact hv.elim
    | _ :: _ :: _, hv => exact hv.2.elim
  · rename_i e
    match vs, hv with
    | [v], hv =>
      cases hr
      have hvn : v = .slice none 0 0 := hv.1
      subst hvn
      exact ⟨_, rfl, ⟨[_], rfl, Rep.nilS⟩, .inl ⟨rfl, rfl⟩⟩
    | [], hv => exact hv.elim
    | _ :: _ :: _, hv => exact hv.2.elim
  · rename_i x y l
    match vs, hv with
    | [v], hv =>
      obtain ⟨q, g1, g2⟩ := RM.bind_some hr
      obtain ⟨us, hu1, hu2, hu3⟩ := hv.1
      obtain ⟨cs, ws, bs, e1, e2, e3, e4, e5, e6⟩ := freshCells_spec h _ g1 hu3
      split at g2
      · rename_i hnil
        obtain ⟨hnd, g3⟩ := cond_some g2
        cases g3
        rw [hnil] at e2
        match ws, e2 with
        | [], _ =>
          rw [List.append_nil] at e1
          subst e1
          have hval : v = (Ty.pair x y).val us := by rw [hu1]; simp [Ty.val, Ty.isPair]
          refine ⟨v, rfl, ⟨us, hval, e4.rep (fun b hb _ => hb.1) (fun b hb => by rw [h.cB]; exact h.up b hb)⟩, us, bs, hval, hu2, ?_, e3, e4.sub fun b hb _ => ⟨hb.1, fun hm => ?_⟩⟩
          · rw [e5]; exact blks_nodup h (nodupN_ok hnd) e6
          · rw [e5] at hm
            obtain ⟨id, hid, hbl⟩ := List.mem_filterMap.1 hm
            obtain ⟨cv, c, hc⟩ := e6 id hid
            simp only [blk, hc, Option.bind_some] at hbl
            exact hb.2 id cv c hc hbl
        | _ :: _, e2 => exact e2.elim
      · cases g2
    | [], hv => exact hv.elim
    | _ :: _ :: _, hv => exact hv.2.elim
  · cases hr

theorem fin_sound (hE : EnvOK P E) {fn : Func} {outs : List Ty} {fresh : Bool} {e : Exit} {ans : denL outs} {ok : Nat → Prop} {w1 : World} (hm : Models P ⟨w1, newOk ok w1⟩ st a w) (h : finR E fresh fn.results.toList outs e st = some ans) :
    bodyPost P fn (fun e w' => ∃ v, e = .returned v ∧ Keeps w1 w' ∧ ResRep P w' (newOk ok w1) outs v ans ∧ (fresh = true → FreshC P w1.heap.size w' (newOk ok w1) outs v ans)) e a w := by
  obtain ⟨conc, hm⟩ := hm
  have key : (bif fresh then ((resOf E fn.results.toList).bind fun l => freshOf outs l).runK st some
    else ((resOf E fn.results.toList).bind fun l => packArgs E outs l).runK st fun x => some x.1) = some ans → a.defers = [] ∧ ∃ v, (results fn a.tmps).run P w = .ok v w ∧
      ∃ v', Ending.returned v = .returned v' ∧ Keeps w1 w ∧ ResRep P w (newOk ok w1) outs v' ans ∧ (fresh = true → FreshC P w1.heap.size w (newOk ok w1) outs v' ans) := by
    intro h
    refine ⟨hm.defers, ?_⟩
    cases fresh with
    | true =>
      simp only [cond_true] at h
      rw [RM.runK_eq] at h
      cases hr : ((resOf E fn.results.toList).bind fun l => freshOf outs l).run st with
      | none => rw [hr] at h; cases h
      | some x =>
        rw [hr] at h
        cases h
        obtain ⟨l, g1, g2⟩ := RM.bind_some hr
        obtain ⟨vs, e1, e2, e3⟩ := resOf_spec hE hm g1
        obtain ⟨v, f1, f2, f3⟩ := freshOf_spec hm outs g2 e2
        have hB := hm.cB
        dsimp only at hB
        rw [hB] at f2 f3
        refine ⟨_, results_run e1, v, ?_, hm.keeps, f2, fun _ => f3⟩
        rw [f1]; rfl
    | false =>
      simp only [cond_false] at h
      rw [RM.runK_eq] at h
      cases hr : ((resOf E fn.results.toList).bind fun l => packArgs E outs l).run st with
      | none => rw [hr] at h; cases h
      | some x =>
        rw [hr] at h
        cases h
        obtain ⟨l, g1, g2⟩ := RM.bind_some hr
        obtain ⟨vs, e1, e2, e3⟩ := resOf_spec hE hm g1
        have hp := (packArgs_spec hE hm outs g2 e2 (ids x.2) fun _ h => h).2
        have hB := hm.cB
        dsimp only at hB
        have hp' : ArgsRep P w (newOk ok w1) outs vs x.1 := args_mono (fun b hb _ => by rw [← hB]; exact hb.1) outs hp
        exact ⟨_, results_run e1, _, rfl, hm.keeps, res_of_args outs hp', (fun h => nomatch h)⟩
  cases e <;> simp only [finR] at h <;> first | exact key h | cases h

theorem fun_ok (hE : EnvOK P E) (hP : P.follows .mixedOrders = true) {f : FuncId} {fn : Func} (hf : P.funcs[f]? = some fn) (hn : (fn.name == "runtime.NumGoroutine") = false)
    {ins caps outs : List Ty} {g : denL ins → denL caps → Option (denL outs)} {fresh : Bool} {O : List (Ev (denL outs))} (hO : ∀ w0 c, fn.body = some c → OsOK P w0 c O)
    (heq : ∀ x y, funR E fn ins caps outs fresh O x y = g x y) (hb : fn.body.isSome = true) : ConOK P f ⟨ins, caps, outs, g, fresh⟩ := by
  obtain ⟨c, hc⟩ := Option.isSome_iff_exists.1 hb
  refine ⟨⟨fn, hf, hn, by rw [hc]; rfl⟩, ?_⟩
  intro w ok vs cs x y r hx hy hr
  dsimp only at hx hy hr
  rw [← heq] at hr
  unfold funR at hr
  rw [hc] at hr
  dsimp only at hr
  cases hle : Nat.ble (ins.length + caps.length) fn.ntmps with
  | false => rw [hle] at hr; cases hr
  | true =>
    rw [hle] at hr
    simp only [cond_true] at hr
    refine calls_of_wp hf hc (wp_mono (codeR_sound hE hP c O (hO ⟨w, newOk ok w⟩ c hc) _ _ _ _ _ hr (entry_models (Nat.le_of_ble_eq_true hle) hx hy)) ?_)
    rintro e a' w' ⟨st', hm, h'⟩
    exact fin_sound hE hm h'

end Go.Abs
