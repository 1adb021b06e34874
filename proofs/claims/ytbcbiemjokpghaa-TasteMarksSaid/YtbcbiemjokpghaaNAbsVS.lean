/- Ranges over functions, the whole statement. -/
import Derived.Test.YtbcbiemjokpghaaNAbsVR
set_option linter.unusedSimpArgs false
set_option linter.unusedVariables false
namespace Go.Abs
open Go
variable {P : Program} {E : Env} {R : Type}

theorem Between.done {w0 : Start} {wb : World} {conc0 : Conc} {a : Act} {fn : FuncId} {ps : Array Tmp} {ca cb : Code} {A S : Nat → Prop} {conc : Conc} {st st0 : ASt} {W : World} {stt : LoopState} {pe : Option Code}
    (h0 : Mod P w0 conc0 st0 a wb) (h : Between P w0 wb (ownedB conc0) a fn ps ca cb stt pe A S conc st W) (hmk : ∀ d sl, Map.get st.slots d = some sl → sl.L = []) (hfx : st.fixed = []) (o : Obj) :
    ∃ s4, Models P s4 st { a with defers := [{ target := .collected wb.heap.size, args := #[] }] ++ a.defers } (W.putObj (wb.heap.size + 1) o) ∧ LinkR w0 s4 := by
  have hs := h.size
  have h4 : ∀ b, b ≠ wb.heap.size + 1 → (W.putObj (wb.heap.size + 1) o).heap[b]? = W.heap[b]? := fun b hb => World.putObj_heap_other hb
  have hsz : (W.putObj (wb.heap.size + 1) o).heap.size = W.heap.size := by simp
  have hcB : conc.B = fun b => (b < wb.heap.size ∧ w0.B b) ∨ (wb.heap.size + 2 ≤ b ∧ ¬ S b) := h.mod.cB
  have hinB : ∀ b, ownedB conc b → (b < wb.heap.size ∧ w0.B b) ∨ (wb.heap.size + 2 ≤ b ∧ ¬ S b) := fun b ⟨i, v, c, g1, g2⟩ => by
    have := h.mod.inB g1 g2
    exact this
  have h0o : ∀ b, ownedB conc0 b → w0.w.heap.size ≤ b ∨ w0.M b := fun b ⟨i, v, c, g1, g2⟩ => (h0.base i v c b g1 g2).1
  have hk := h0.keeps
  have hlo := h0.okS.lo
  have hsize := hk.size
  refine ⟨⟨W.putObj (wb.heap.size + 1) o, fun b => (b < wb.heap.size ∧ w0.B b) ∨ (wb.heap.size + 2 ≤ b ∧ ¬ S b), ownedB conc, [{ target := .collected wb.heap.size, args := #[] }] ++ a.defers, a.tmps, w0.yl, w0.lo⟩, ⟨_, h.mod.move _ rfl (fun d sl hd => ⟨hd, hmk d sl hd, rfl⟩) (fun _ => rfl) rfl rfl (fun d hd => absurd hd (by rw [hfx]; simp)) (by rw [hsz]; exact Nat.le_refl _) (fun b hlt hb => h4 b fun e => ?_) (fun b _ hb => by rw [hcB] at hb; exact hb) rfl rfl (fun b hb => hb) rfl ?_⟩, ?_⟩
  · rw [hcB] at hb
    rcases hb with hb | hb <;> omega
  · exact {
      up := fun b hb => .inr ⟨by
        have h1 : (W.putObj (wb.heap.size + 1) o).heap.size ≤ b := hb
        omega, fun hs => by
        have := (h.A2 b (h.SA b hs)).2
        have h1 : (W.putObj (wb.heap.size + 1) o).heap.size ≤ b := hb
        omega⟩
      mB := hinB
      ds := fun d hd => by
        rcases List.mem_append.1 hd with hd | hd
        · simp only [List.mem_singleton] at hd
          subst hd
          refine ⟨_, rfl, (h4 _ (by omega)).trans h.dfr, fun hb => ?_, by show w0.lo ≤ wb.heap.size; omega⟩
          rcases hb with ⟨g, _⟩ | ⟨g, _⟩ <;> omega
        · obtain ⟨D, e, h1, h2⟩ := h0.okS.ds d (by rw [← h0.defers]; exact hd)
          have hlt := (Array.getElem?_eq_some_iff.1 h1).1
          have hM : ¬ w0.M D := fun g => h2.1 (h0.okS.mB D g)
          have n0 : ¬ ownedB conc0 D := fun hb => by
            rcases h0o D hb with g | g
            · omega
            · exact hM g
          refine ⟨D, e, (h4 _ (by omega)).trans ((h.old D (by omega) n0).trans ((hk.block D hlt hM).trans h1)), fun hb => ?_, h2.2⟩
          rcases hb with ⟨_, g⟩ | ⟨g, _⟩
          · exact h2.1 g
          · omega
      dn := by
        show ([{ target := .collected wb.heap.size, args := #[] }] ++ a.defers : List Deferred).Nodup
        rw [List.singleton_append, List.nodup_cons]
        refine ⟨fun hm => ?_, by rw [h0.defers]; exact h0.okS.dn⟩
        obtain ⟨D, e, h1, _⟩ := h0.okS.ds _ (by rw [← h0.defers]; exact hm)
        have hlt := (Array.getElem?_eq_some_iff.1 h1).1
        cases e
        omega
      lo := by
        show w0.lo ≤ (W.putObj (wb.heap.size + 1) o).heap.size
        omega }
  · exact {
      os := h.os.trans hk.os
      tape := h.tape.trans hk.tape
      output := h.output.trans hk.output
      size := by
        show w0.w.heap.size ≤ (W.putObj (wb.heap.size + 1) o).heap.size
        omega
      block := fun b hb hM => by
        have n0 : ¬ ownedB conc0 b := fun ho => by
          rcases h0o b ho with g | g
          · omega
          · exact hM g
        exact (h4 b (by omega)).trans ((h.old b (by omega) n0).trans (hk.block b hb hM))
      M := fun b hb => by
        rcases h.own b hb with g | g
        · exact (h0o b g).symm
        · exact .inr (by omega)
      B1 := fun b hb h1 => .inl ⟨by omega, h1⟩
      B2 := fun b hb h1 => by
        rcases h1 with h1 | h1
        · exact h1.2
        · omega
      lo := rfl }

theorem range_sound (hE : EnvOK P E) {H : Hdl R} (hH : H.tys = []) {e : Ty} {p : Nat} {g : Operand} {ca cb : Code} {Oa Ob : List (Ev R)} {T : Templ} {F : List Nat} {X : List (Way × Templ)} {body : denU T.tys → e.den → (denU T.tys → Option R) → conts R X → Option R}
    (hR : RangeOK P E e p ca cb Oa Ob T F X body) : Sound P H false (.rangeFunc g #[p] ca cb) (rangeO E e g T X body) := by
  intro r hr Inv hI K ans st a w w0 h hm hinv
  have hr : r = none := by cases r <;> simp at hr ⊢
  subst hr
  unfold rangeO at h
  cases hd : dec E T st with
  | none => rw [hd] at h; cases h
  | some d =>
  rw [hd] at h
  simp only [Option.bind_some] at h
  obtain ⟨conc, hm⟩ := dec_models hE hm hd
  clear hd
  rw [RM.runK_eq] at h
  cases hx : ((rdA [] g).bind (seqOf e)).run (mk T d) with
  | none => rw [hx] at h; cases h
  | some xs =>
  rw [hx] at h
  simp only [Option.bind_some] at h
  obtain ⟨x, hx1, hx2⟩ := RM.bind_some hx
  have hv := rdA_rel hm (labs_nil _) hx1
  obtain ⟨so, ao, hso⟩ := hI.fnl rfl hH
  have hgv : ∃ vs, a.eval g = (Ty.seq e).val vs ∧ Rep P (.seq e) w (okOf conc) vs xs := by
    cases x <;> simp only [seqOf] at hx2 <;> try (cases hx2; done)
    rename_i u dd
    have hc : castTy (t := u) (t' := .seq e) dd = some xs := by
      cases hc : castTy (t := u) (t' := .seq e) dd with
      | none => rw [hc] at hx2; cases hx2
      | some z => rw [hc] at hx2; cases hx2; rfl
    obtain ⟨rfl, rfl⟩ := castTy_some hc
    exact hv
  obtain ⟨vs, hev, fid, lb, rfl, hbod, hseq⟩ := hgv
  have hev : a.eval g = .func (.func fid) #[] lb := hev
  let done : denU T.tys → Option R := fun d => K .normal (mk T d)
  refine wpIn_rangeFunc fun fn _ => ?_
  have hent := run_enterLoop_outer (P := P) (w := w) fn a.tmps #[p] ca cb
  generalize hW1 : (w.alloc (.deferred (some []))).alloc (.loop { state := .ready, pending := none, fn, tmps := a.tmps, params := #[p], assign := ca, body := cb, defers := w.heap.size }) = W1 at hent
  refine ⟨w.heap.size + 1, [{ target := .collected w.heap.size, args := #[] }], W1, { target := .fn (.func fid) lb, args := #[.func (.yield (w.heap.size + 1)) #[] #[]] }, W1, fid, #[.func (.yield (w.heap.size + 1)) #[] #[]] ++ lb, W1,
    hent, ?_, fun _ _ => trivial, ?_, fun _ => by decide, ?_⟩
  · show (Deferred.ofValue (a.eval g) _).run P W1 = _
    rw [hev]
    have he : (rangeCall g (w.heap.size + 1)).args.map a.eval = #[.func (.yield (w.heap.size + 1)) #[] #[]] := by simp [rangeCall, Act.eval]
    rw [he]
    simp [Deferred.ofValue]
  · simp only [invoke]
    exact callFunc_run hbod _
  have hsz1 : W1.heap.size = w.heap.size + 2 := by rw [← hW1]; simp
  have hold1 : ∀ b, b < w.heap.size → W1.heap[b]? = w.heap[b]? := fun b hb => by
    rw [← hW1]
    show ((w.heap.push _).push _)[b]? = _
    rw [Array.getElem?_push, Array.getElem?_push]
    simp only [Array.size_push]
    rw [if_neg (by omega), if_neg (by omega)]
  have hD1 : W1.heap[w.heap.size]? = some (.deferred (some [])) := by
    rw [← hW1]
    show ((w.heap.push _).push _)[w.heap.size]? = _
    rw [Array.getElem?_push, Array.getElem?_push]
    simp
  have hL1 : W1.heap[w.heap.size + 1]? = some (.loop { state := .ready, pending := none, fn, tmps := a.tmps, params := #[p], assign := ca, body := cb, defers := w.heap.size }) := by
    rw [← hW1]
    show ((w.heap.push _).push _)[w.heap.size + 1]? = _
    rw [Array.getElem?_push]
    simp
  have hmisc : W1.os = w.os ∧ W1.tape = w.tape ∧ W1.output = w.output := by rw [← hW1]; exact ⟨rfl, rfl, rfl⟩
  have hcB : conc.B = w0.B := hm.cB
  obtain ⟨_, _, hmf⟩ := mk_head d
  have hlab : ∀ (d' : denU T.tys), ∀ k sl, Map.get (mk T d').slots k = some sl → sl.L = [] := fun d' k sl hk => mk_labs d' hk
  have own0 : ∀ b, ownedB conc b → b < w.heap.size ∧ w0.B b := fun b ⟨i, v, c, g1, g2⟩ => ⟨(hm.base i v c b g1 g2).2, hm.inB g1 g2⟩
  have hds0 : ∀ dd ∈ a.defers, ∃ D, dd = { target := .collected D, args := #[] } ∧ w.heap[D]? = some (.deferred (some [])) ∧ ¬ ownedB conc D ∧ ¬ w0.B D ∧ w0.lo ≤ D := fun dd hd => by
    obtain ⟨D, e', h1, h2⟩ := hm.rebase.okS.ds dd hd
    exact ⟨D, e', h1, fun hb => h2.1 (hm.rebase.okS.mB D hb), h2⟩
  have b0 : ∃ conc1, Between P w0 w (ownedB conc) a fn #[p] ca cb .ready none (fun _ => False) (fun _ => False) conc1 (mk T d) W1 := by
    refine ⟨⟨conc.m, fun b => (b < w.heap.size ∧ w0.B b) ∨ (w.heap.size + 2 ≤ b ∧ ¬ False), conc.yl⟩, {
      mod := hm.rebase.move _ rfl (fun k sl hk => ⟨hk, hlab d k sl hk, rfl⟩) (fun _ => rfl) rfl rfl (fun k hk => absurd hk (by rw [hmf, hR.fx]; simp)) (by omega) (fun b hlt _ => hold1 b hlt) (fun b hlt hb => .inl ⟨hlt, by rw [← hcB]; exact hb⟩) rfl rfl (fun b hb => hb) rfl {
        up := fun b hb => .inr ⟨by have h1 : W1.heap.size ≤ b := hb
                                   omega, id⟩
        mB := fun b hb => .inl (own0 b hb)
        ds := fun dd hd => by
          obtain ⟨D, e', h1, _, h2⟩ := hds0 dd hd
          have hlt := (Array.getElem?_eq_some_iff.1 h1).1
          refine ⟨D, e', (hold1 D hlt).trans h1, fun hb => ?_, h2.2⟩
          rcases hb with ⟨_, g⟩ | ⟨g, _⟩
          · exact h2.1 g
          · omega
        dn := hm.rebase.okS.dn
        lo := by
          have h1 := hm.okS.lo
          have h2 := hm.keeps.size
          show w0.lo ≤ W1.heap.size
          omega }
      rec' := hL1
      dfr := hD1
      os := hmisc.1
      tape := hmisc.2.1
      output := hmisc.2.2
      size := by omega
      old := fun b hb _ => hold1 b hb
      own := fun b hb => .inl hb
      disj := fun _ _ h => h
      SA := fun _ h => h
      A2 := fun _ h => h.elim }⟩
  obtain ⟨conc1, b0⟩ := b0
  let ok1 : Nat → Prop := fun b => okOf conc b ∧ b < w.heap.size
  let J : Nat → (Nat → Prop) → (Nat → Prop) → World → Prop := fun k A S W => ∃ conc' d', Between P w0 w (ownedB conc) a fn #[p] ca cb .ready none A S conc' (mk T d') W ∧ rangeG body (kOf K X) done (xs.drop k) d' = some ans
  let Jx : (Nat → Prop) → (Nat → Prop) → World → Prop := fun A S W => ∃ conc', ∃ y ∈ X, ∃ d', Between P w0 w (ownedB conc) a fn #[p] ca cb .done (some (jumpOf y.1.exit')) A S conc' (mk y.2 d') W ∧ K y.1.exit' (mk y.2 d') = some ans
  have hcall := hseq W1 ok1 ⟨by omega, fun b _ hlt => hold1 b hlt⟩ (fun b hb hlt => ⟨hb, hlt⟩) (w.heap.size + 1) J Jx
    (fun k A S W A' S' W' ⟨conc', d', hb, hans⟩ hst => by
      obtain ⟨conc2, _, h2⟩ := hb.steps ⟨(mk_head d').2.1, hlab d'⟩ ((mk_head d').2.2.trans hR.fx) hst hds0
      exact ⟨conc2, d', h2, hans⟩)
    (fun A S W A' S' W' ⟨conc', y, hy, d', hb, hans⟩ hst => by
      obtain ⟨conc2, _, h2⟩ := hb.steps ⟨(mk_head d').2.1, fun k sl hk => mk_labs d' hk⟩ ((mk_head d').2.2.trans (hR.xfx y hy)) hst hds0
      exact ⟨conc2, y, hy, d', h2, hans⟩)
    (fun k x A S W as ⟨conc', d', hb, hans⟩ hk hSA hA hsz ⟨cs, e1, hrep⟩ => by
      subst e1
      have hlt := (List.getElem?_eq_some_iff.1 hk).1
      rw [List.drop_eq_getElem_cons hlt] at hans
      have hxk : xs[k] = x := (List.getElem?_eq_some_iff.1 hk).2
      rw [hxk] at hans
      have hcB' : conc'.B = fun b => (b < w.heap.size ∧ w0.B b) ∨ (w.heap.size + 2 ≤ b ∧ ¬ S b) := hb.mod.cB
      have hsub : Sub W (fun b => (ok1 b ∧ b < W1.heap.size) ∨ (A b ∧ ¬ S b)) (okOf conc') := fun b hh hlt' => by
        have ho : ¬ ownedB conc' b → ∀ id ver c, conc' id = some (ver, c, true) → blockOf c ≠ some b := fun hn i v c g1 g2 => hn ⟨i, v, c, g1, g2⟩
        rcases hh with ⟨⟨g1, g2⟩, _⟩ | ⟨g1, g2⟩
        · refine ⟨by rw [hcB']; exact .inl ⟨g2, by rw [← hcB]; exact g1.1⟩, ho fun hh => ?_⟩
          rcases hb.own b hh with ⟨i, v, c, k1, k2⟩ | k1
          · exact g1.2 i v c k1 k2
          · omega
        · exact ⟨by rw [hcB']; exact .inr ⟨(hb.A2 b g1).1, g2⟩, ho fun hh => hb.disj b hh g1⟩
      obtain ⟨fn1, tm1, as1, bd1, y1, y2⟩ := round_ok hE hR (again := fun d => rangeG body (kOf K X) done (xs.drop (k + 1)) d) hb hds0 (hrep.mono e ⟨Nat.le_refl _, fun _ _ _ => rfl⟩ hsub) hans
      refine ⟨fn1, tm1, as1, bd1, y1, y2.mono ?_⟩
      rintro en W' ⟨q1, q2, q3, q4, q5, q6⟩
      refine ⟨{ os := q3, tape := q4, output := q5, size := q2, block := fun b hlt' hh => ?_ }, q6⟩
      rcases hh with ⟨⟨g1, g2⟩, _⟩ | g1
      · refine q1 b hlt' (fun hh => ?_) (by omega)
        rcases hb.own b hh with ⟨i, v, c, k1, k2⟩ | k1
        · exact g1.2 i v c k1 k2
        · omega
      · exact q1 b hlt' (fun hh => hb.disj b hh g1) (by have := (hb.A2 b g1).1; omega))
    ⟨conc1, d, b0, h⟩
  refine fr_calls (hcall.mono ?_)
  have fin : ∀ {A S : Nat → Prop} {conc' : Conc} {st' : ASt} {W' : World} {stt : LoopState} {pe : Option Code} (hb : Between P w0 w (ownedB conc) a fn #[p] ca cb stt pe A S conc' st' W') (ex : Exit) (hmk : ∀ d sl, Map.get st'.slots d = some sl → sl.L = []) (hfx : st'.fixed = []) (hk : K ex st' = some ans) (o : Obj),
      ∃ w0' ans' st'', Models P w0' st'' { a with defers := [{ target := .collected w.heap.size, args := #[] }] ++ a.defers } (W'.putObj (w.heap.size + 1) o) ∧ Inv w0' ans' ∧ K ex st'' = some ans' := by
    intro A S conc' st' W' stt pe hb ex hmk hfx hk o
    obtain ⟨s4, g1, g2⟩ := Between.done hm hb hmk hfx o
    exact ⟨s4, ans, st', g1, (hso _ _).2 ⟨((hso _ _).1 hinv).1, ((hso _ _).1 hinv).2.trans g2⟩, hk⟩
  rintro en W' ⟨⟨v, rfl⟩, hJ⟩
  rcases hJ with ⟨A, S, conc', d', hb, hans⟩ | ⟨A, S, conc', y, hy, d', hb, hans⟩
  · refine ⟨none, _, run_endLoop hb.rec' (by simp), ?_⟩
    rw [List.drop_length] at hans
    exact fin hb .normal (hlab d') ((mk_head d').2.2.trans hR.fx) hans _
  · refine ⟨some (jumpOf y.1.exit'), _, run_endLoop hb.rec' (by simp), ?_⟩
    have := fin hb y.1.exit' (fun k sl hk => mk_labs d' hk) ((mk_head d').2.2.trans (hR.xfx y hy)) hans
    cases hw : y.1 with
    | exit i =>
      rw [hw] at this
      exact wpIn_exit (this _)
    | ret =>
      rw [hw] at this
      exact wpIn_ret (this _)

end Go.Abs
