/- What can be read as data is data of the evaluator. -/
import Derived.Test.YtbcbiemjokpghaaNAbsY
import Derived.ProofKit
set_option linter.unusedSimpArgs false
set_option linter.unusedVariables false
namespace Go.Abs
open Go
variable {P : Program}

/-- The bounds of numbers and lengths. -/
def Ty.wf : (t : Ty) → t.den → Prop
  | .int k, n => k.min ≤ n ∧ (n : Int) ≤ k.max
  | .bool, _ => True
  | .str, l => List.length (α := UInt8) l ≤ maxLen
  | .unit, _ => True
  | .slice e, l => List.length l ≤ maxLen ∧ ∀ x ∈ (l : List e.den), e.wf x
  | .pair a b, (x, y) => a.wf x ∧ b.wf y
  | .fn1 _ _, _ => True
  | .fn2 _ _ _, _ => True
  | .seq _, _ => True
  | .seq2 _ _, _ => True
  | .map _ _, _ => True

mutual
def shp (P : Program) : Nat → Nat → Ty → Bool
  | 0, _, _ => false
  | n + 1, T, t => match P.underlying T, t with
    | some (.int k), .int k' => decide (k = k')
    | some .bool, .bool => true
    | some .string, .str => true
    | some (.slice T'), .slice e => Nat.beq (P.cellsOf T') e.sz && Nat.blt 0 e.sz && shp P n T' e
    | some (.struct fs), .pair a b => Nat.beq (P.cellsOf T) (Ty.pair a b).sz && shpF P n fs.toList 0 (.pair a b)
    | _, _ => false

def shpF (P : Program) : Nat → List Field → Nat → Ty → Bool
  | 0, _, _, _ => false
  | n + 1, [f], off, t => Nat.beq f.offset off && Nat.beq (P.cellsOf f.type) t.sz && shp P n f.type t
  | n + 1, f :: g :: r, off, .pair a b => Nat.beq f.offset off && Nat.beq (P.cellsOf f.type) a.sz && shp P n f.type a && shpF P n (g :: r) (off + a.sz) b
  | _ + 1, _, _, _ => false
end

theorem mapM_cons_some {α β : Type} {f : α → Option β} {x : α} {l : List α} {ys : List β} (h : (x :: l).mapM f = some ys) : ∃ y r, f x = some y ∧ l.mapM f = some r ∧ ys = y :: r := by
  rw [List.mapM_cons] at h
  cases hx : f x with
  | none => rw [hx] at h; cases h
  | some y =>
    rw [hx] at h
    cases hl : l.mapM f with
    | none => rw [hl] at h; cases h
    | some r => rw [hl] at h; cases h; exact ⟨y, r, rfl, rfl, rfl⟩

theorem mapM_get {α β : Type} {f : α → Option β} : {l : List α} → {ys : List β} → l.mapM f = some ys → ∀ (i : Nat) x, l[i]? = some x → ∃ y, f x = some y
  | [], ys, h, i, x, hx => by simp at hx
  | a :: l, ys, h, i, x, hx => by
    obtain ⟨y, r, h1, h2, h3⟩ := mapM_cons_some h
    cases i with
    | zero => simp at hx; subst hx; exact ⟨y, h1⟩
    | succ i => exact mapM_get h2 i x (by simpa using hx)

theorem mapM_len {α β : Type} {f : α → Option β} : {l : List α} → {ys : List β} → l.mapM f = some ys → ys.length = l.length
  | [], ys, h => by cases h; rfl
  | a :: l, ys, h => by
    obtain ⟨y, r, h1, h2, h3⟩ := mapM_cons_some h
    subst h3
    simp [mapM_len h2]

theorem mapM_at {α β : Type} {f : α → Option β} : {l : List α} → {ys : List β} → l.mapM f = some ys → ∀ (i : Nat) x y, l[i]? = some x → ys[i]? = some y → f x = some y
  | [], ys, h, i, x, y, hx, hy => by simp at hx
  | a :: l, ys, h, i, x, y, hx, hy => by
    obtain ⟨y', r, h1, h2, h3⟩ := mapM_cons_some h
    subst h3
    cases i with
    | zero => simp at hx hy; subst hx; subst hy; exact h1
    | succ i => exact mapM_at h2 i x y (by simpa using hx) (by simpa using hy)

/-- Cells that are read one by one. -/
theorem cells_read {W : World} {b off n : Nat} {sp : Option Nat} {cs : List Value} (h : W.cells? 0 ⟨b, off, sp⟩ n = some cs) (hn : 0 < n) : sp = none ∨ True := .inr trivial

theorem exists_choice {α : Type} {n : Nat} {Q : Nat → α → Prop} (h : ∀ i, i < n → ∃ x, Q i x) : ∃ l : List α, l.length = n ∧ ∀ (i : Nat) x, l[i]? = some x → Q i x := by
  induction n with
  | zero => exact ⟨[], rfl, fun i x hx => by simp at hx⟩
  | succ n ih =>
    obtain ⟨l, h1, h2⟩ := ih fun i hi => h i (by omega)
    obtain ⟨x, hx⟩ := h n (by omega)
    refine ⟨l ++ [x], by simp [h1], fun i y hy => ?_⟩
    by_cases hi : i < l.length
    · rw [List.getElem?_append_left hi] at hy
      exact h2 i y hy
    · rw [List.getElem?_append_right (by omega)] at hy
      have : i - l.length = 0 := by
        cases hk : i - l.length with
        | zero => rfl
        | succ k => rw [hk] at hy; simp at hy
      rw [this] at hy
      simp at hy
      subst hy
      have : i = n := by omega
      subst this
      exact hx

section
variable {H : Type} {enc : TypeId × Value → H} {W : World} {spare : Nat → Bool} {held : Bool}

mutual
theorem open_ty : (n : Nat) → (T : Nat) → (t : Ty) → shp P n T t = true → ∀ (fuel : Nat) (cs : List Value) (d : DataW H) (ps : List MemPlace), DataW.trod enc P W 0 spare held fuel T cs = some (d, ps) →
    ∃ x : t.den, Rep P t W (fun b => b < W.heap.size) cs x ∧ t.wf x
  | 0, T, t, h, fuel, cs, d, ps, hd => by simp [shp] at h
  | n + 1, T, t, h, 0, cs, d, ps, hd => by cases hd
  | n + 1, T, t, h, fuel + 1, cs, d, ps, hd => by
    unfold shp at h
    unfold DataW.trod at hd
    split at h
    · rename_i k k' hu
      have hk : k = k' := of_decide_eq_true h
      subst hk
      rw [hu] at hd
      match cs, hd with
      | [.int k2 m], hd =>
        simp only at hd
        split at hd
        · rename_i hh
          obtain ⟨rfl, hw⟩ := hh
          refine ⟨m, rfl, ?_⟩
          simpa [Lit.wf, Ty.wf] using hw
        · cases hd
    · rename_i hu
      rw [hu] at hd
      match cs, hd with
      | [.bool b], hd => exact ⟨b, rfl, trivial⟩
    · rename_i hu
      rw [hu] at hd
      match cs, hd with
      | [.string s], hd =>
        simp only at hd
        split at hd
        · rename_i hs
          obtain ⟨⟨s⟩⟩ := s
          exact ⟨s, rfl, hs⟩
        · cases hd
    · rename_i T' e hu
      simp only [Bool.and_eq_true] at h
      obtain ⟨⟨h1, h2⟩, h3⟩ := h
      have hc := nbeq_true h1
      have hpos : 0 < e.sz := Nat.le_of_ble_eq_true h2
      rw [hu] at hd
      match cs, hd with
      | [.slice none 0 0], hd => exact ⟨([] : List e.den), ⟨none, 0, rfl, Nat.le_refl _, .inl rfl⟩, ⟨Nat.zero_le _, fun _ h => nomatch h⟩⟩
      | [.slice (some a) len cap], hd =>
        simp only at hd
        split at hd
        · rename_i hh
          obtain ⟨_, hlc, hcm⟩ := hh
          cases hm : (List.range len).mapM (fun i => (W.cells? 0 (a.add (i * P.cellsOf T')) (P.cellsOf T')).bind (DataW.trod enc P W 0 spare held fuel T')) with
          | none => rw [hm] at hd; cases hd
          | some els =>
            clear hd
            have hel : ∀ i, i < len → ∃ ds y, W.cells? 0 (a.add (i * e.sz)) e.sz = some ds ∧ Rep P e W (fun b => b < W.heap.size) ds y ∧ e.wf y := by
              intro i hi
              obtain ⟨z, hz⟩ := mapM_get hm i i (by simp [hi])
              rw [hc] at hz
              cases hcs : W.cells? 0 (a.add (i * e.sz)) e.sz with
              | none => rw [hcs] at hz; cases hz
              | some ds =>
                rw [hcs] at hz
                obtain ⟨y, hy1, hy2⟩ := open_ty n T' e h3 fuel ds z.1 z.2 hz
                exact ⟨ds, y, rfl, hy1, hy2⟩
            by_cases hlen : len = 0
            · subst hlen
              exact ⟨([] : List e.den), ⟨some a, cap, rfl, Nat.zero_le _, .inl rfl⟩, ⟨Nat.zero_le _, fun _ h => nomatch h⟩⟩
            · -- each cell of each element
              have hcell : ∀ i, i < len → ∀ j, j < e.sz → ∃ v, W.cell? ((a.add (i * e.sz)).add j) = some v := by
                intro i hi j hj
                obtain ⟨ds, y, q1, _⟩ := hel i hi
                unfold World.cells? at q1
                rw [if_pos (Nat.zero_le _)] at q1
                exact mapM_get q1 j j (by simp [hj])
              obtain ⟨b, off, sp⟩ := a
              obtain ⟨v0, hv0⟩ := hcell 0 (by omega) 0 hpos
              have e0 : (Addr.mk b off sp).add (0 * e.sz) = ⟨b, off, sp⟩ := by simp [Addr.add]
              rw [e0, show (Addr.mk b off sp).add 0 = ⟨b, off, sp⟩ from rfl] at hv0
              unfold World.cell? at hv0
              cases hb : W.heap[b]? with
              | none => simp only [hb] at hv0; cases hv0
              | some o =>
                cases o with
                | cells C U fr =>
                  simp only [hb] at hv0
                  cases sp with
                  | some s => simp at hv0
                  | none =>
                    have addoff : ∀ i j, (((Addr.mk b off none).add (i * e.sz)).add j) = ⟨b, off + i * e.sz + j, none⟩ := by
                      intro i j
                      unfold Addr.add
                      by_cases h1 : i * e.sz = 0 <;> by_cases h2 : j = 0 <;> simp [h1, h2]
                    have hin : ∀ i, i < len → ∀ j, j < e.sz → ∃ v, C[off + i * e.sz + j]? = some v := by
                      intro i hi j hj
                      obtain ⟨v, hv⟩ := hcell i hi j hj
                      rw [addoff] at hv
                      unfold World.cell? at hv
                      simp only [hb] at hv
                      exact ⟨v, by simpa using hv⟩
                    have hds : ∀ i, i < len → ∀ ds, W.cells? 0 ((Addr.mk b off none).add (i * e.sz)) e.sz = some ds → ds = chunk C.toList (off + i * e.sz) e.sz := by
                      intro i hi ds q1
                      unfold World.cells? at q1
                      rw [if_pos (Nat.zero_le _)] at q1
                      have hl := mapM_len q1
                      rw [List.length_range] at hl
                      apply List.ext_getElem?
                      intro j
                      by_cases hj : j < e.sz
                      · obtain ⟨v, hv⟩ := hin i hi j hj
                        have hdj : ds[j]? = some ds[j] := List.getElem?_eq_getElem (by omega)
                        have hat := mapM_at q1 j j _ (by simp [hj]) hdj
                        rw [addoff] at hat
                        unfold World.cell? at hat
                        simp only [hb] at hat
                        simp only [Option.isSome_none, Bool.false_eq_true, if_false] at hat
                        rw [hdj, ← hat]
                        unfold chunk
                        rw [List.getElem?_take_of_lt hj, List.getElem?_drop]
                        simp
                      · rw [List.getElem?_eq_none (by omega), List.getElem?_eq_none (by unfold chunk; simp; omega)]
                    obtain ⟨l, hl1, hl2⟩ := exists_choice (Q := fun i y => Rep P e W (fun b => b < W.heap.size) (chunk C.toList (off + i * e.sz) e.sz) y ∧ e.wf y) fun i hi => by
                      obtain ⟨ds, y, q1, q2, q3⟩ := hel i hi
                      rw [hds i hi ds q1] at q2
                      exact ⟨y, q2, q3⟩
                    refine ⟨l, ⟨some ⟨b, off, none⟩, cap, by rw [hl1], by rw [hl1]; exact hlc, .inr ⟨b, off, C, U, fr, rfl, (Array.getElem?_eq_some_iff.1 hb).1, hb, ?_, fun i x hx => (hl2 i x hx).1⟩⟩, ⟨by rw [hl1]; omega, fun x hx => ?_⟩⟩
                    · obtain ⟨v, hv⟩ := hin (len - 1) (by omega) (e.sz - 1) (by omega)
                      have := (Array.getElem?_eq_some_iff.1 hv).1
                      rw [hl1]
                      have e1 : len * e.sz = (len - 1) * e.sz + e.sz := by
                        conv => lhs; rw [show len = (len - 1) + 1 from by omega]
                        rw [Nat.succ_mul]
                      omega
                    · obtain ⟨i, hi, rfl⟩ := List.getElem_of_mem hx
                      exact (hl2 i l[i] (List.getElem?_eq_getElem hi)).2
                | _ => simp only [hb] at hv0; cases hv0
        · cases hd
    · rename_i fs x y hu
      simp only [Bool.and_eq_true] at h
      obtain ⟨h1, h2⟩ := h
      have hc := nbeq_true h1
      rw [hu] at hd
      have hd' : (if cs.length = P.cellsOf T then (fs.toList.mapM fun f => DataW.trod enc P W 0 spare held fuel f.type ((cs.drop f.offset).take (P.cellsOf f.type))).map fun xs => ((DataW.agg (xs.map (·.1)) : DataW H), xs.flatMap (·.2)) else none) = some (d, ps) := by
        match cs, hd with
        | [], hd => exact hd
        | [_], hd => exact hd
        | _ :: _ :: _, hd => exact hd
      split at hd'
      · rename_i hl
        cases hm : fs.toList.mapM fun f => DataW.trod enc P W 0 spare held fuel f.type ((cs.drop f.offset).take (P.cellsOf f.type)) with
        | none => rw [hm] at hd'; cases hd'
        | some xs =>
          have := open_fields n fs.toList 0 (.pair x y) h2 fuel cs (by rw [hl, hc]; simp) xs hm
          simpa using this
      · cases hd'
    · cases h

theorem open_fields : (n : Nat) → (l : List Field) → (off : Nat) → (t : Ty) → shpF P n l off t = true → ∀ (fuel : Nat) (cs : List Value), cs.length = off + t.sz → ∀ xs : List (DataW H × List MemPlace),
    (l.mapM fun f => DataW.trod enc P W 0 spare held fuel f.type ((cs.drop f.offset).take (P.cellsOf f.type))) = some xs → ∃ x : t.den, Rep P t W (fun b => b < W.heap.size) (cs.drop off) x ∧ t.wf x
  | 0, l, off, t, h, fuel, cs, hl, xs, hm => by simp [shpF] at h
  | n + 1, [], off, t, h, fuel, cs, hl, xs, hm => by cases t <;> simp [shpF] at h
  | n + 1, [f], off, t, h, fuel, cs, hl, xs, hm => by
    rw [shpF] at h
    simp only [Bool.and_eq_true] at h
    obtain ⟨⟨h1, h2⟩, h3⟩ := h
    have e1 := nbeq_true h1
    have e2 := nbeq_true h2
    obtain ⟨y, r, g1, _, _⟩ := mapM_cons_some hm
    rw [e1, e2, List.take_of_length_le (by simp; omega)] at g1
    exact open_ty n f.type t h3 fuel _ y.1 y.2 g1
  | n + 1, f :: g :: r, off, t, h, fuel, cs, hl, xs, hm => by
    cases t with
    | pair a b =>
      rw [shpF] at h
      simp only [Bool.and_eq_true] at h
      obtain ⟨⟨⟨h1, h2⟩, h3⟩, h4⟩ := h
      have e1 := nbeq_true h1
      have e2 := nbeq_true h2
      obtain ⟨y, r', g1, g2, _⟩ := mapM_cons_some hm
      rw [e1, e2] at g1
      obtain ⟨x1, k1, k2⟩ := open_ty n f.type a h3 fuel _ y.1 y.2 g1
      obtain ⟨x2, k3, k4⟩ := open_fields n (g :: r) (off + a.sz) b h4 fuel cs (by rw [hl]; simp [Ty.sz]; omega) r' g2
      refine ⟨(x1, x2), ⟨k1, ?_⟩, k2, k4⟩
      rw [List.drop_drop]
      exact k3
    | _ => simp [shpF] at h
end

end
end Go.Abs
