/- Parts of one proof, joined: What can be read as data is data of the evaluator. From a contract and a plain fact to a law's statement. Plain facts on the printed functions' words: rounds of loops, elements, wraps. No program. Functions of the program as plain Lean functions, and that each call does what its function says. Printed by a program of ours. No condition but those that each theorem names. -/
import Derived.ProofKit
import Derived.ChangeSlices
import Derived.Test.YtbcbiemjokpghaaProg
import Derived.Test.YtbcbiemjokpghaaS2
set_option linter.unusedSimpArgs false
set_option linter.unusedVariables false
namespace Go.Abs
open Go
variable {P : Program}

/-- The bounds of numbers and lengths. -/
def Ty.wf : (t : Ty) → t.den → Prop
  | .int k, n => k.min ≤ n ∧ (n : Int) ≤ k.max
  | .bool, _ => True
  | .str, l => List.length (α := UInt8) l ≤ maxLen
  | .unit, _ => True
  | .slice e, l => List.length l ≤ maxLen ∧ ∀ x ∈ (l : List e.den), e.wf x
  | .pair a b, (x, y) => a.wf x ∧ b.wf y
  | .fn1 _ _, _ => True
  | .fn2 _ _ _, _ => True
  | .seq _, _ => True
  | .seq2 _ _, _ => True
  | .map _ _, _ => True

mutual
def shp (P : Program) : Nat → Nat → Ty → Bool
  | 0, _, _ => false
  | n + 1, T, t => match P.underlying T, t with
    | some (.int k), .int k' => decide (k = k')
    | some .bool, .bool => true
    | some .string, .str => true
    | some (.slice T'), .slice e => Nat.beq (P.cellsOf T') e.sz && Nat.blt 0 e.sz && shp P n T' e
    | some (.struct fs), .pair a b => Nat.beq (P.cellsOf T) (Ty.pair a b).sz && shpF P n fs.toList 0 (.pair a b)
    | _, _ => false

def shpF (P : Program) : Nat → List Field → Nat → Ty → Bool
  | 0, _, _, _ => false
  | n + 1, [f], off, t => Nat.beq f.offset off && Nat.beq (P.cellsOf f.type) t.sz && shp P n f.type t
  | n + 1, f :: g :: r, off, .pair a b => Nat.beq f.offset off && Nat.beq (P.cellsOf f.type) a.sz && shp P n f.type a && shpF P n (g :: r) (off + a.sz) b
  | _ + 1, _, _, _ => false
end

theorem mapM_cons_some {α β : Type} {f : α → Option β} {x : α} {l : List α} {ys : List β} (h : (x :: l).mapM f = some ys) : ∃ y r, f x = some y ∧ l.mapM f = some r ∧ ys = y :: r := by
  rw [List.mapM_cons] at h
  cases hx : f x with
  | none => rw [hx] at h; cases h
  | some y =>
    rw [hx] at h
    cases hl : l.mapM f with
    | none => rw [hl] at h; cases h
    | some r => rw [hl] at h; cases h; exact ⟨y, r, rfl, rfl, rfl⟩

theorem mapM_get {α β : Type} {f : α → Option β} : {l : List α} → {ys : List β} → l.mapM f = some ys → ∀ (i : Nat) x, l[i]? = some x → ∃ y, f x = some y
  | [], ys, h, i, x, hx => by simp at hx
  | a :: l, ys, h, i, x, hx => by
    obtain ⟨y, r, h1, h2, h3⟩ := mapM_cons_some h
    cases i with
    | zero => simp at hx; subst hx; exact ⟨y, h1⟩
    | succ i => exact mapM_get h2 i x (by simpa using hx)

theorem mapM_len {α β : Type} {f : α → Option β} : {l : List α} → {ys : List β} → l.mapM f = some ys → ys.length = l.length
  | [], ys, h => by cases h; rfl
  | a :: l, ys, h => by
    obtain ⟨y, r, h1, h2, h3⟩ := mapM_cons_some h
    subst h3
    simp [mapM_len h2]

theorem mapM_at {α β : Type} {f : α → Option β} : {l : List α} → {ys : List β} → l.mapM f = some ys → ∀ (i : Nat) x y, l[i]? = some x → ys[i]? = some y → f x = some y
  | [], ys, h, i, x, y, hx, hy => by simp at hx
  | a :: l, ys, h, i, x, y, hx, hy => by
    obtain ⟨y', r, h1, h2, h3⟩ := mapM_cons_some h
    subst h3
    cases i with
    | zero => simp at hx hy; subst hx; subst hy; exact h1
    | succ i => exact mapM_at h2 i x y (by simpa using hx) (by simpa using hy)

/-- Cells that are read one by one. -/
theorem cells_read {W : World} {b off n : Nat} {sp : Option Nat} {cs : List Value} (h : W.cells? 0 ⟨b, off, sp⟩ n = some cs) (hn : 0 < n) : sp = none ∨ True := .inr trivial

theorem exists_choice {α : Type} {n : Nat} {Q : Nat → α → Prop} (h : ∀ i, i < n → ∃ x, Q i x) : ∃ l : List α, l.length = n ∧ ∀ (i : Nat) x, l[i]? = some x → Q i x := by
  induction n with
  | zero => exact ⟨[], rfl, fun i x hx => by simp at hx⟩
  | succ n ih =>
    obtain ⟨l, h1, h2⟩ := ih fun i hi => h i (by omega)
    obtain ⟨x, hx⟩ := h n (by omega)
    refine ⟨l ++ [x], by simp [h1], fun i y hy => ?_⟩
    by_cases hi : i < l.length
    · rw [List.getElem?_append_left hi] at hy
      exact h2 i y hy
    · rw [List.getElem?_append_right (by omega)] at hy
      have : i - l.length = 0 := by
        cases hk : i - l.length with
        | zero => rfl
        | succ k => rw [hk] at hy; simp at hy
      rw [this] at hy
      simp at hy
      subst hy
      have : i = n := by omega
      subst this
      exact hx

section
variable {H : Type} {enc : TypeId × Value → H} {W : World} {spare : Nat → Bool} {held : Bool}

mutual
theorem open_ty : (n : Nat) → (T : Nat) → (t : Ty) → shp P n T t = true → ∀ (fuel : Nat) (cs : List Value) (d : DataW H) (ps : List MemPlace), DataW.trod enc P W 0 spare held fuel T cs = some (d, ps) →
    ∃ x : t.den, Rep P t W (fun b => b < W.heap.size) cs x ∧ t.wf x
  | 0, T, t, h, fuel, cs, d, ps, hd => by simp [shp] at h
  | n + 1, T, t, h, 0, cs, d, ps, hd => by cases hd
  | n + 1, T, t, h, fuel + 1, cs, d, ps, hd => by
    unfold shp at h
    unfold DataW.trod at hd
    split at h
    · rename_i k k' hu
      have hk : k = k' := of_decide_eq_true h
      subst hk
      rw [hu] at hd
      match cs, hd with
      | [.int k2 m], hd =>
        simp only at hd
        split at hd
        · rename_i hh
          obtain ⟨rfl, hw⟩ := hh
          refine ⟨m, rfl, ?_⟩
          simpa [Lit.wf, Ty.wf] using hw
        · cases hd
    · rename_i hu
      rw [hu] at hd
      match cs, hd with
      | [.bool b], hd => exact ⟨b, rfl, trivial⟩
    · rename_i hu
      rw [hu] at hd
      match cs, hd with
      | [.string s], hd =>
        simp only at hd
        split at hd
        · rename_i hs
          obtain ⟨⟨s⟩⟩ := s
          exact ⟨s, rfl, hs⟩
        · cases hd
    · rename_i T' e hu
      simp only [Bool.and_eq_true] at h
      obtain ⟨⟨h1, h2⟩, h3⟩ := h
      have hc := nbeq_true h1
      have hpos : 0 < e.sz := Nat.le_of_ble_eq_true h2
      rw [hu] at hd
      match cs, hd with
      | [.slice none 0 0], hd => exact ⟨([] : List e.den), ⟨none, 0, rfl, Nat.le_refl _, .inl rfl⟩, ⟨Nat.zero_le _, fun _ h => nomatch h⟩⟩
      | [.slice (some a) len cap], hd =>
        simp only at hd
        split at hd
        · rename_i hh
          obtain ⟨_, hlc, hcm⟩ := hh
          cases hm : (List.range len).mapM (fun i => (W.cells? 0 (a.add (i * P.cellsOf T')) (P.cellsOf T')).bind (DataW.trod enc P W 0 spare held fuel T')) with
          | none => rw [hm] at hd; cases hd
          | some els =>
            clear hd
            have hel : ∀ i, i < len → ∃ ds y, W.cells? 0 (a.add (i * e.sz)) e.sz = some ds ∧ Rep P e W (fun b => b < W.heap.size) ds y ∧ e.wf y := by
              intro i hi
              obtain ⟨z, hz⟩ := mapM_get hm i i (by simp [hi])
              rw [hc] at hz
              cases hcs : W.cells? 0 (a.add (i * e.sz)) e.sz with
              | none => rw [hcs] at hz; cases hz
              | some ds =>
                rw [hcs] at hz
                obtain ⟨y, hy1, hy2⟩ := open_ty n T' e h3 fuel ds z.1 z.2 hz
                exact ⟨ds, y, rfl, hy1, hy2⟩
            by_cases hlen : len = 0
            · subst hlen
              exact ⟨([] : List e.den), ⟨some a, cap, rfl, Nat.zero_le _, .inl rfl⟩, ⟨Nat.zero_le _, fun _ h => nomatch h⟩⟩
            · -- each cell of each element
              have hcell : ∀ i, i < len → ∀ j, j < e.sz → ∃ v, W.cell? ((a.add (i * e.sz)).add j) = some v := by
                intro i hi j hj
                obtain ⟨ds, y, q1, _⟩ := hel i hi
                unfold World.cells? at q1
                rw [if_pos (Nat.zero_le _)] at q1
                exact mapM_get q1 j j (by simp [hj])
              obtain ⟨b, off, sp⟩ := a
              obtain ⟨v0, hv0⟩ := hcell 0 (by omega) 0 hpos
              have e0 : (Addr.mk b off sp).add (0 * e.sz) = ⟨b, off, sp⟩ := by simp [Addr.add]
              rw [e0, show (Addr.mk b off sp).add 0 = ⟨b, off, sp⟩ from rfl] at hv0
              unfold World.cell? at hv0
              cases hb : W.heap[b]? with
              | none => simp only [hb] at hv0; cases hv0
              | some o =>
                cases o with
                | cells C U fr =>
                  simp only [hb] at hv0
                  cases sp with
                  | some s => simp at hv0
                  | none =>
                    have addoff : ∀ i j, (((Addr.mk b off none).add (i * e.sz)).add j) = ⟨b, off + i * e.sz + j, none⟩ := by
                      intro i j
                      unfold Addr.add
                      by_cases h1 : i * e.sz = 0 <;> by_cases h2 : j = 0 <;> simp [h1, h2]
                    have hin : ∀ i, i < len → ∀ j, j < e.sz → ∃ v, C[off + i * e.sz + j]? = some v := by
                      intro i hi j hj
                      obtain ⟨v, hv⟩ := hcell i hi j hj
                      rw [addoff] at hv
                      unfold World.cell? at hv
                      simp only [hb] at hv
                      exact ⟨v, by simpa using hv⟩
                    have hds : ∀ i, i < len → ∀ ds, W.cells? 0 ((Addr.mk b off none).add (i * e.sz)) e.sz = some ds → ds = chunk C.toList (off + i * e.sz) e.sz := by
                      intro i hi ds q1
                      unfold World.cells? at q1
                      rw [if_pos (Nat.zero_le _)] at q1
                      have hl := mapM_len q1
                      rw [List.length_range] at hl
                      apply List.ext_getElem?
                      intro j
                      by_cases hj : j < e.sz
                      · obtain ⟨v, hv⟩ := hin i hi j hj
                        have hdj : ds[j]? = some ds[j] := List.getElem?_eq_getElem (by omega)
                        have hat := mapM_at q1 j j _ (by simp [hj]) hdj
                        rw [addoff] at hat
                        unfold World.cell? at hat
                        simp only [hb] at hat
                        simp only [Option.isSome_none, Bool.false_eq_true, if_false] at hat
                        rw [hdj, ← hat]
                        unfold chunk
                        rw [List.getElem?_take_of_lt hj, List.getElem?_drop]
                        simp
                      · rw [List.getElem?_eq_none (by omega), List.getElem?_eq_none (by unfold chunk; simp; omega)]
                    obtain ⟨l, hl1, hl2⟩ := exists_choice (Q := fun i y => Rep P e W (fun b => b < W.heap.size) (chunk C.toList (off + i * e.sz) e.sz) y ∧ e.wf y) fun i hi => by
                      obtain ⟨ds, y, q1, q2, q3⟩ := hel i hi
                      rw [hds i hi ds q1] at q2
                      exact ⟨y, q2, q3⟩
                    refine ⟨l, ⟨some ⟨b, off, none⟩, cap, by rw [hl1], by rw [hl1]; exact hlc, .inr ⟨b, off, C, U, fr, rfl, (Array.getElem?_eq_some_iff.1 hb).1, hb, ?_, fun i x hx => (hl2 i x hx).1⟩⟩, ⟨by rw [hl1]; omega, fun x hx => ?_⟩⟩
                    · obtain ⟨v, hv⟩ := hin (len - 1) (by omega) (e.sz - 1) (by omega)
                      have := (Array.getElem?_eq_some_iff.1 hv).1
                      rw [hl1]
                      have e1 : len * e.sz = (len - 1) * e.sz + e.sz := by
                        conv => lhs; rw [show len = (len - 1) + 1 from by omega]
                        rw [Nat.succ_mul]
                      omega
                    · obtain ⟨i, hi, rfl⟩ := List.getElem_of_mem hx
                      exact (hl2 i l[i] (List.getElem?_eq_getElem hi)).2
                | _ => simp only [hb] at hv0; cases hv0
        · cases hd
    · rename_i fs x y hu
      simp only [Bool.and_eq_true] at h
      obtain ⟨h1, h2⟩ := h
      have hc := nbeq_true h1
      rw [hu] at hd
      have hd' : (if cs.length = P.cellsOf T then (fs.toList.mapM fun f => DataW.trod enc P W 0 spare held fuel f.type ((cs.drop f.offset).take (P.cellsOf f.type))).map fun xs => ((DataW.agg (xs.map (·.1)) : DataW H), xs.flatMap (·.2)) else none) = some (d, ps) := by
        match cs, hd with
        | [], hd => exact hd
        | [_], hd => exact hd
        | _ :: _ :: _, hd => exact hd
      split at hd'
      · rename_i hl
        cases hm : fs.toList.mapM fun f => DataW.trod enc P W 0 spare held fuel f.type ((cs.drop f.offset).take (P.cellsOf f.type)) with
        | none => rw [hm] at hd'; cases hd'
        | some xs =>
          have := open_fields n fs.toList 0 (.pair x y) h2 fuel cs (by rw [hl, hc]; simp) xs hm
          simpa using this
      · cases hd'
    · cases h

theorem open_fields : (n : Nat) → (l : List Field) → (off : Nat) → (t : Ty) → shpF P n l off t = true → ∀ (fuel : Nat) (cs : List Value), cs.length = off + t.sz → ∀ xs : List (DataW H × List MemPlace),
    (l.mapM fun f => DataW.trod enc P W 0 spare held fuel f.type ((cs.drop f.offset).take (P.cellsOf f.type))) = some xs → ∃ x : t.den, Rep P t W (fun b => b < W.heap.size) (cs.drop off) x ∧ t.wf x
  | 0, l, off, t, h, fuel, cs, hl, xs, hm => by simp [shpF] at h
  | n + 1, [], off, t, h, fuel, cs, hl, xs, hm => by cases t <;> simp [shpF] at h
  | n + 1, [f], off, t, h, fuel, cs, hl, xs, hm => by
    rw [shpF] at h
    simp only [Bool.and_eq_true] at h
    obtain ⟨⟨h1, h2⟩, h3⟩ := h
    have e1 := nbeq_true h1
    have e2 := nbeq_true h2
    obtain ⟨y, r, g1, _, _⟩ := mapM_cons_some hm
    rw [e1, e2, List.take_of_length_le (by simp; omega)] at g1
    exact open_ty n f.type t h3 fuel _ y.1 y.2 g1
  | n + 1, f :: g :: r, off, t, h, fuel, cs, hl, xs, hm => by
    cases t with
    | pair a b =>
      rw [shpF] at h
      simp only [Bool.and_eq_true] at h
      obtain ⟨⟨⟨h1, h2⟩, h3⟩, h4⟩ := h
      have e1 := nbeq_true h1
      have e2 := nbeq_true h2
      obtain ⟨y, r', g1, g2, _⟩ := mapM_cons_some hm
      rw [e1, e2] at g1
      obtain ⟨x1, k1, k2⟩ := open_ty n f.type a h3 fuel _ y.1 y.2 g1
      obtain ⟨x2, k3, k4⟩ := open_fields n (g :: r) (off + a.sz) b h4 fuel cs (by rw [hl]; simp [Ty.sz]; omega) r' g2
      refine ⟨(x1, x2), ⟨k1, ?_⟩, k2, k4⟩
      rw [List.drop_drop]
      exact k3
    | _ => simp [shpF] at h
end

end
end Go.Abs

set_option linter.unusedSimpArgs false
set_option linter.unusedVariables false
namespace Go.Abs
open Go Go.ChangeShapes Go.WideShapes Go.RowKit
variable {P : Program}

def wfL : (ts : List Ty) → denL ts → Prop
  | [], _ => True
  | [t], x => t.wf x
  | t :: u :: ts, (x, y) => t.wf x ∧ wfL (u :: ts) y

def shpL (P : Program) (n : Nat) : List Nat → List Ty → Bool
  | [], [] => true
  | T :: Ts, t :: ts => shp P n T t && shpL P n Ts ts
  | _, _ => false

theorem shp_val {n T : Nat} {t : Ty} (h : shp P n T t = true) {w : World} {r : Reach} {b0 : Nat} {v : Value} (hv : Value.okWide P w r b0 T v) : v = t.val v.cells.toList := by
  cases n with
  | zero => simp [shp] at h
  | succ n =>
    unfold shp at h
    split at h
    · rename_i k k' hu
      obtain ⟨m, rfl⟩ := okWide_int hu hv
      rfl
    · rename_i hu
      obtain ⟨m, rfl⟩ := okWide_bool hu hv
      rfl
    · rename_i hu
      obtain ⟨m, rfl⟩ := okWide_string hu hv
      rfl
    · rename_i hu
      obtain ⟨a, l, c, rfl⟩ := okWide_slice hu hv
      rfl
    · rename_i hu
      obtain ⟨cs, rfl, _⟩ := okWide_struct hu hv
      simp [Ty.val, Ty.isPair, Value.cells]
    · cases h

section
variable {H : Type} {enc : TypeId × Value → H} {W : World} {spare : Nat → Bool} {held : Bool}

theorem open_args (n : Nat) : (Ts : List Nat) → (ts : List Ty) → shpL P n Ts ts = true → ∀ (vs : List Value) (ds : List (DataW H)) (ps : List MemPlace) (b0 : Nat),
    (∀ (j : Nat) T v, Ts[j]? = some T → vs[j]? = some v → Value.okWide P W .any b0 T v) → DataW.TrodAll enc P W 0 spare held Ts vs ds ps →
    ∃ x : denL ts, ArgsRep P W (fun b => b < W.heap.size) ts vs x ∧ wfL ts x
  | [], [], _, vs, ds, ps, b0, _, h => by
    obtain ⟨rfl, _⟩ := trodAll_nil h
    exact ⟨(), rfl, trivial⟩
  | [T], [t], hs, vs, ds, ps, b0, hv, h => by
    obtain ⟨v, vs', d, ds', p, q, rfl, rfl, rfl, h1, h2⟩ := trodAll_cons h
    obtain ⟨rfl, _⟩ := trodAll_nil h2
    simp only [shpL, Bool.and_true] at hs
    obtain ⟨fuel, h1⟩ := h1
    obtain ⟨x, k1, k2⟩ := open_ty n T t hs fuel _ d p h1
    exact ⟨x, ⟨_, by rw [← shp_val hs (hv 0 T v rfl rfl)], k1⟩, k2⟩
  | T :: U :: Ts, t :: u :: ts, hs, vs, ds, ps, b0, hv, h => by
    obtain ⟨v, vs', d, ds', p, q, rfl, rfl, rfl, h1, h2⟩ := trodAll_cons h
    rw [shpL] at hs
    simp only [Bool.and_eq_true] at hs
    obtain ⟨hs1, hs2⟩ := hs
    obtain ⟨fuel, h1⟩ := h1
    obtain ⟨x, k1, k2⟩ := open_ty n T t hs1 fuel _ d p h1
    obtain ⟨y, k3, k4⟩ := open_args n (U :: Ts) (u :: ts) hs2 vs' ds' q b0 (fun j T' v' hT hv' => hv (j + 1) T' v' (by simpa using hT) (by simpa using hv')) h2
    exact ⟨(x, y), ⟨v.cells.toList, vs', by rw [← shp_val hs1 (hv 0 T v rfl rfl)], k1, k3⟩, k2, k4⟩
  | [], _ :: _, hs, _, _, _, _, _, _ => by simp [shpL] at hs
  | _ :: _, [], hs, _, _, _, _, _, _ => by simp [shpL] at hs
  | [_], _ :: _ :: _, hs, _, _, _, _, _, _ => by simp [shpL] at hs
  | _ :: _ :: _, [_], hs, _, _, _, _, _, _ => by simp [shpL] at hs

theorem trodAll_stays {W' : World} (hl : laidOutB P = true) (hb : Below W.heap.size W W') : (Ts : List Nat) → (∀ T ∈ Ts, P.readableRec T = true ∧ T < P.types.size) → ∀ (vs : List Value) (ds : List (DataW H)) (ps : List MemPlace),
    DataW.TrodAll enc P W 0 (fun _ => true) true Ts vs ds ps → (∀ x ∈ ps, x.block < W.heap.size) → DataW.TrodAll enc P W' 0 (fun b => decide (b < W.heap.size)) true Ts vs ds ps
  | [], _, vs, ds, ps, h, _ => by
    obtain ⟨rfl, rfl, rfl⟩ := trodAll_nil h
    rfl
  | T :: Ts, hT, vs, ds, ps, h, hlt => by
    obtain ⟨v, vs', d, ds', p, q, rfl, rfl, rfl, h1, h2⟩ := trodAll_cons h
    obtain ⟨g1, g2⟩ := hT T (List.mem_cons_self ..)
    refine ⟨p, q, Below.trod hl g1 g2 h1 hb (fun x hx => hlt x (List.mem_append_left _ hx)), ?_, rfl⟩
    exact trodAll_stays hl hb Ts (fun T' h' => hT T' (List.mem_cons_of_mem _ h')) vs' ds' q h2 (fun x hx => hlt x (List.mem_append_right _ hx))
end

theorem Keeps.below {w w' : World} (h : Keeps w w') : Below w.heap.size w w' := ⟨h.os, h.tape, h.output, h.size, h.block⟩

theorem law_lifted {C : Checked} {os : Os} {f : FuncId} {fn : Func} {s : ChangeSpec} {ins : List Ty} {Ts : List Nat} {tb : Nat} {g : Nat → denL ins → Option Bool} {nn : Nat} {apart : Bool}
    {H : Type} {enc : TypeId × Value → H}
    (own : ownKnob C.prog.godebug = none) (started : os.Started) (noInit : C.prog.inits.idxOf? f = none) (hfn : C.prog.funcs[f]? = some fn)
    (witness : ∃ (w : World) (tape : Tape) (i : Input), w.os = os ∧ (w.forCall tape i).Shaped C.prog ∧ i.vars = [] ∧ Input.okWide C.prog (w.forCall tape i) .any w.heap.size f i ∧
      s.pre6 enc C.prog fn [] apart (w.forCall tape i).memory i.args ∧ ({} : Assume).holds C.prog (lone (Frame.enter C.prog f i.args .normal) [] (w.forCall tape i)))
    (hpar : fn.params.toList = Ts) (hres : fn.resultTypes = #[tb]) (hb : C.prog.underlying tb = some .bool) (hl : laidOutB C.prog = true)
    (hsh : shpL C.prog nn Ts ins = true) (hrd : (Ts.all fun T => C.prog.readableRec T && decide (T < C.prog.types.size)) = true) (hvars : s.vars = [])
    (hspec : ∀ (ds : List (DataW H)), ds.length = Ts.length → s.fn H ds = { results := [.lit (.bool true)], args := ds })
    (hcon : ∀ n, ConOK C.prog f ⟨ins, [], [.bool], fun x _ => g n x, false⟩)
    (hplain : ∀ x, wfL ins x → ∃ n, g n x = some true) :
    ReturnsInHanded {} C os f .any (s.pre6 enc C.prog fn [] apart) (s.post enc C.prog fn apart true false false) := by
  refine returnsInHanded_of_change own started noInit hfn witness ?_
  intro W base args ds gs before hval hW _ _
  have hW' := hW
  obtain ⟨p, q, hA, hV, rfl, _, _⟩ := hW
  rw [hvars] at hV
  have hgs : gs = [] ∧ q = [] := by
    cases gs with
    | nil => exact ⟨rfl, hV⟩
    | cons a b => simp [DataW.TrodVars] at hV
  obtain ⟨rfl, rfl⟩ := hgs
  rw [hpar] at hA
  have hlen : ds.length = Ts.length := by
    have : ∀ (Ts : List Nat) (vs : List Value) (ds : List (DataW H)) ps, DataW.TrodAll enc C.prog W 0 (fun _ => true) true Ts vs ds ps → ds.length = Ts.length := by
      intro Ts
      induction Ts with
      | nil => intro vs ds ps h; obtain ⟨_, rfl, _⟩ := trodAll_nil h; rfl
      | cons T Ts ih =>
        intro vs ds ps h
        obtain ⟨v, vs', d, ds', p, q, rfl, rfl, rfl, h1, h2⟩ := trodAll_cons h
        simp [ih _ _ _ h2]
    exact this _ _ _ _ hA
  obtain ⟨x, hx, hwf⟩ := open_args nn Ts ins hsh args.toList ds p base (fun j T v hT hv => by
    refine hval j T v ?_ (by simpa using hv)
    have : fn.params.toList[j]? = some T := by rw [hpar]; exact hT
    simpa using this) hA
  obtain ⟨n, hn⟩ := hplain x hwf
  obtain ⟨_, hc⟩ := hcon n
  have hcall := hc W _ args.toList [] x () true hx rfl hn
  simp only [List.append_nil, Array.toArray_toList] at hcall
  refine hcall.mono ?_
  rintro e w' ⟨v, rfl, hk, hr, _⟩
  obtain ⟨cs, rfl, hr⟩ := hr
  simp only [Rep] at hr
  subst hr
  have hbl := hk.below
  refine ⟨_, rfl, ds, [], p ++ [], [], p, [], hW', ?_, ?_, ?_, ?_, fun h => nomatch h⟩
  · rw [hres]
    have : s.fn H (ds ++ []) = { results := [.lit (.bool true)], args := ds } := by rw [List.append_nil]; exact hspec ds hlen
    rw [this]
    exact trodAll_mk1 (shut_bool hb true)
  · have : s.fn H (ds ++ []) = { results := [.lit (.bool true)], args := ds } := by rw [List.append_nil]; exact hspec ds hlen
    rw [this, hpar]
    refine trodAll_stays hl hbl Ts (fun T hT => ?_) _ _ _ hA (fun x hx => hW'.lt x (List.mem_append_left _ hx))
    have := List.all_eq_true.1 hrd T hT
    simpa using this
  · have : s.fn H (ds ++ []) = { results := [.lit (.bool true)], args := ds } := by rw [List.append_nil]; exact hspec ds hlen
    rw [this, hvars]
    rfl
  · exact hbl.frame _

end Go.Abs

set_option linter.unusedSimpArgs false
set_option linter.unusedVariables false
namespace Go.Abs
open Go

theorem wrap_id {x : Int} (h1 : -9223372036854775808 ≤ x) (h2 : x ≤ 9223372036854775807) : IntKind.wrap .i64 x = x := by
  simp [IntKind.wrap, IntKind.bits, IntKind.signed]
  omega

theorem wrap_lo (x : Int) : -9223372036854775808 ≤ IntKind.wrap .i64 x := by
  simp [IntKind.wrap, IntKind.bits, IntKind.signed]
  omega
theorem wrap_hi (x : Int) : IntKind.wrap .i64 x ≤ 9223372036854775807 := by
  simp [IntKind.wrap, IntKind.bits, IntKind.signed]
  omega

theorem geti_nat {α : Type} (l : List α) (i : Nat) : geti l (i : Int) = l[i]? := by simp [geti]
theorem geti_neg {α : Type} {l : List α} {i : Int} (h : i < 0) : geti l i = none := by
  unfold geti
  rw [if_neg (by omega)]
theorem geti_of {α : Type} {l : List α} {i : Int} (h0 : 0 ≤ i) (h1 : i < (l.length : Int)) : geti l i = some (l[i.toNat]'(by omega)) := by
  unfold geti
  rw [if_pos h0, List.getElem?_eq_getElem]
theorem seti_nat {α : Type} (l : List α) (i : Nat) (x : α) (h : i < l.length) : seti l (i : Int) x = some (l.set i x) := by
  unfold seti
  rw [if_pos ⟨by omega, by simpa using h⟩]
  simp
theorem cut_nat {α : Type} (l : List α) (i j : Nat) (h : i ≤ j) (hj : j ≤ l.length) : cut l (i : Int) (j : Int) = some ((l.take j).drop i) := by
  unfold cut
  rw [if_pos ⟨by omega, by omega, by omega⟩]
  simp
theorem cut_zero {α : Type} (l : List α) (j : Nat) (hj : j ≤ l.length) : cut l 0 (j : Int) = some (l.take j) := by
  have := cut_nat l 0 j (Nat.zero_le _) hj
  simpa using this
theorem chk_ok {n : Nat} (h : n ≤ 4294967296) : chk n = some () := by unfold chk most; rw [if_pos h]
theorem chki_ok {n : Int} (h0 : 0 ≤ n) (h : n ≤ 4294967296) : chki n = some () := by
  unfold chki most
  rw [if_pos ⟨h0, by simpa using h⟩]

theorem part_false {α : Type} (m : Option α) (d : α) : part false m d = some d := rfl

section
variable {D Ks R : Type} {body : D → (D → Option R) → Ks → Option R} {ks : Ks}

/-- A loop, by a relation between what stands in the slots and the result, and a measure. -/
theorem loop_rule (I : D → Option R → Prop) (μ : D → Nat)
    (h : ∀ d r, I d r → ∀ again, (∀ d' r', I d' r' → μ d' < μ d → again d' = r') → body d again ks = r) :
    ∀ (n : Nat) (d : D) (r : Option R), I d r → μ d < n → loopG body n d ks = r := by
  intro n
  induction n with
  | zero => intro d r _ hn; omega
  | succ n ih =>
    intro d r hI hn
    exact h d r hI _ fun d' r' hI' hm => ih d' r' hI' (by omega)

/-- A loop over a list, with what is gathered. -/
theorem list_loop {α A : Type} {n : Nat} (l : List α) (F : Nat → A → D) (G : Nat → A → List α → Option R) (Inv : Nat → A → Prop) (hl : l.length ≤ maxLen)
    (hs : ∀ i acc x r, i < l.length → l[i]? = some x → l.drop i = x :: r → geti l (i : Int) = some x → decide ((i : Int) < (l.length : Int)) = true → IntKind.wrap .i64 ((i : Int) + 1) = ((i + 1 : Nat) : Int) → Inv i acc →
      ∀ again, (∀ acc', Inv (i + 1) acc' → again (F (i + 1) acc') = G (i + 1) acc' r) → body (F i acc) again ks = G i acc (x :: r))
    (he : ∀ acc, decide ((l.length : Int) < (l.length : Int)) = false → Inv l.length acc → ∀ again, body (F l.length acc) again ks = G l.length acc [])
    (acc : A) (h0 : Inv 0 acc) (hn : l.length < n) : loopG body n (F 0 acc) ks = G 0 acc l := by
  have key : ∀ (m i : Nat) (acc : A), i ≤ l.length → Inv i acc → l.length - i < m → loopG body m (F i acc) ks = G i acc (l.drop i) := by
    intro m
    induction m with
    | zero => intro i acc _ _ h; omega
    | succ m ih =>
      intro i acc hi hI hm
      rw [loopG]
      by_cases h : i = l.length
      · subst h
        rw [List.drop_length]
        exact he acc (by simp) hI _
      · have hlt : i < l.length := by omega
        have hd : l.drop i = l[i] :: l.drop (i + 1) := List.drop_eq_getElem_cons hlt
        rw [hd]
        refine hs i acc l[i] (l.drop (i + 1)) hlt (List.getElem?_eq_getElem hlt) hd (by rw [geti_nat, List.getElem?_eq_getElem hlt]) (by simpa using hlt) (by rw [wrap_id] <;> unfold maxLen at hl <;> omega) hI _ fun acc' hI' => ?_
        exact ih (i + 1) acc' (by omega) hI' (by omega)
  have := key n 0 acc (Nat.zero_le _) h0 (by omega)
  simpa using this

theorem list_loop0 {α : Type} {n : Nat} (l : List α) (F : Nat → D) (G : Nat → List α → Option R) (hl : l.length ≤ maxLen)
    (hs : ∀ i x r, i < l.length → l[i]? = some x → l.drop i = x :: r → geti l (i : Int) = some x → decide ((i : Int) < (l.length : Int)) = true → IntKind.wrap .i64 ((i : Int) + 1) = ((i + 1 : Nat) : Int) →
      ∀ again, again (F (i + 1)) = G (i + 1) r → body (F i) again ks = G i (x :: r))
    (he : decide ((l.length : Int) < (l.length : Int)) = false → ∀ again, body (F l.length) again ks = G l.length [])
    (hn : l.length < n) : loopG body n (F 0) ks = G 0 l :=
  list_loop (A := Unit) l (fun i _ => F i) (fun i _ r => G i r) (fun _ _ => True) hl (fun i _ x r h1 h2 h3 h4 h5 h6 _ again ih => hs i x r h1 h2 h3 h4 h5 h6 again (ih () trivial)) (fun _ h _ again => he h again) () trivial hn

/-- A loop over the numbers below one. -/
theorem count_loop {A : Type} {n : Nat} (len : Nat) (F : Nat → A → D) (G : Nat → A → Option R) (Inv : Nat → A → Prop) (hl : len ≤ maxLen)
    (hs : ∀ i acc, i < len → decide ((i : Int) < (len : Int)) = true → IntKind.wrap .i64 ((i : Int) + 1) = ((i + 1 : Nat) : Int) → Inv i acc →
      ∀ again, (∀ acc', Inv (i + 1) acc' → again (F (i + 1) acc') = G (i + 1) acc') → body (F i acc) again ks = G i acc)
    (he : ∀ acc, decide ((len : Int) < (len : Int)) = false → Inv len acc → ∀ again, body (F len acc) again ks = G len acc)
    (acc : A) (h0 : Inv 0 acc) (hn : len < n) : loopG body n (F 0 acc) ks = G 0 acc := by
  have key : ∀ (m i : Nat) (acc : A), i ≤ len → Inv i acc → len - i < m → loopG body m (F i acc) ks = G i acc := by
    intro m
    induction m with
    | zero => intro i acc _ _ h; omega
    | succ m ih =>
      intro i acc hi hI hm
      rw [loopG]
      by_cases h : i = len
      · subst h
        exact he acc (by simp) hI _
      · have hlt : i < len := by omega
        refine hs i acc hlt (by simpa using hlt) (by rw [wrap_id] <;> unfold maxLen at hl <;> omega) hI _ fun acc' hI' => ?_
        exact ih (i + 1) acc' (by omega) hI' (by omega)
  exact key n 0 acc (Nat.zero_le _) h0 (by omega)
end

theorem cast_pred {n : Nat} (h : 0 < n) (hm : n ≤ maxLen) : IntKind.wrap .i64 ((n : Int) - 1) = ((n - 1 : Nat) : Int) := by
  unfold maxLen at hm
  rw [wrap_id] <;> omega

theorem bif_eq {α : Type} (b : Bool) (x y : α) : (bif b then x else y) = if b = true then x else y := by cases b <;> rfl

end Go.Abs

set_option linter.unusedVariables false
namespace Go.Abs
open Go

def gT : List (Nat × TyE) := [(3, ⟨(.int .i64), 0⟩), (4, ⟨.bool, 0⟩), (5, ⟨(.int .u8), 0⟩), (9, ⟨.str, 0⟩), (22, ⟨(.slice .str), 0⟩), (23, ⟨(.slice (.pair .str (.pair (.slice (.int .i64)) (.slice .str)))), 0⟩), (25, ⟨(.pair (.slice .str) (.pair (.int .i64) (.slice (.pair .str (.pair (.slice (.int .i64)) (.slice .str)))))), 3⟩), (26, ⟨(.slice (.int .i64)), 0⟩), (32, ⟨(.int .i64), 0⟩), (38, ⟨(.slice (.slice (.int .i64))), 0⟩), (40, ⟨(.pair (.int .i64) (.pair (.int .i64) (.pair (.slice (.int .i64)) (.slice (.slice (.int .i64)))))), 4⟩), (48, ⟨(.fn2 (.int .i64) (.int .i64) (.int .i64)), 0⟩), (54, ⟨(.pair (.int .i64) (.int .i64)), 2⟩), (66, ⟨(.pair .str (.slice (.int .i64))), 2⟩), (74, ⟨(.pair .str (.pair (.slice (.int .i64)) (.slice .str))), 3⟩), (79, ⟨(.pair (.int .i64) (.int .i64)), 2⟩), (116, ⟨(.pair (.slice .str) (.pair (.int .i64) (.slice (.pair .str (.pair (.slice (.int .i64)) (.slice .str)))))), 1⟩), (121, ⟨(.seq (.pair (.int .i64) (.slice (.int .i64)))), 0⟩), (124, ⟨(.pair (.int .i64) (.slice (.int .i64))), 2⟩), (127, ⟨(.pair (.int .i64) (.pair (.int .i64) (.pair (.slice (.int .i64)) (.slice (.slice (.int .i64)))))), 1⟩), (136, ⟨(.fn1 (.int .i64) .bool), 0⟩), (139, ⟨(.fn1 .str .bool), 0⟩), (165, ⟨(.slice (.int .i64)), 0⟩), (170, ⟨(.slice (.int .u8)), 0⟩), (178, ⟨(.map (.int .i64) .bool), 0⟩), (179, ⟨(.slice (.pair (.int .i64) (.slice (.int .i64)))), 0⟩)]
def gQ : List (Nat × Ty) := [(54, (.pair (.int .i64) (.int .i64))), (79, (.pair (.int .i64) (.int .i64)))]
theorem q54 : EqOK Go.Proofs.Try.prog 54 (.pair (.int .i64) (.int .i64)) := eqOK2 (f0 := fld Go.Proofs.Try.prog 54 0) (f1 := fld Go.Proofs.Try.prog 54 1) (by kernel_rfl) (by kernel_rfl) (by kernel_rfl) (by kernel_rfl) (by kernel_rfl) (by kernel_rfl) (by kernel_rfl) (by kernel_rfl) (by kernel_rfl) (by kernel_rfl) (by kernel_rfl)
theorem q79 : EqOK Go.Proofs.Try.prog 79 (.pair (.int .i64) (.int .i64)) := eqOK2 (f0 := fld Go.Proofs.Try.prog 79 0) (f1 := fld Go.Proofs.Try.prog 79 1) (by kernel_rfl) (by kernel_rfl) (by kernel_rfl) (by kernel_rfl) (by kernel_rfl) (by kernel_rfl) (by kernel_rfl) (by kernel_rfl) (by kernel_rfl) (by kernel_rfl) (by kernel_rfl)
def e0 (n : Nat) : Env := ⟨gT, [], gQ, []⟩
theorem hP : Go.Proofs.Try.prog.follows .mixedOrders = true := by kernel_rfl
theorem h0 (n : Nat) : EnvOK Go.Proofs.Try.prog (e0 n) := env_eq (env_eq (env_nil (by kernel_rfl)) q79) q54

/-- criadera/criaderalaw07.Rules -/
def s77 (n : Nat) : Option (((List (List UInt8)) × Int × (List ((List UInt8) × (List Int) × (List (List UInt8)))))) :=
  some ((([[114, 97, 121, 97], [112, 97, 108, 109, 97]] : List (List UInt8)), ((0 : Int), ([([109, 111, 115, 116, 111], (([(1 : Int), (2 : Int)] : List Int), ([[102, 97, 116], [116, 104, 105, 110]] : List (List UInt8)))), ([111, 108, 111, 114, 111, 115, 111], (([(1 : Int), (1 : Int)] : List Int), ([[107, 101, 101, 112], [107, 101, 101, 112]] : List (List UInt8)))), ([102, 105, 110, 111], (([(1 : Int), (2 : Int)] : List Int), ([[102, 97, 108, 108, 101, 110], [107, 101, 101, 112]] : List (List UInt8))))] : List ((List UInt8) × (List Int) × (List (List UInt8)))))))

def s77_c (n : Nat) : Con := ⟨[], [], [(.pair (.slice .str) (.pair (.int .i64) (.slice (.pair .str (.pair (.slice (.int .i64)) (.slice .str))))))], fun x y => s77 n, false⟩
theorem s77_eq (n : Nat) (x : denL []) (y : denL []) : funR (e0 n) Go.Proofs.Try.f77 [] [] [(.pair (.slice .str) (.pair (.int .i64) (.slice (.pair .str (.pair (.slice (.int .i64)) (.slice .str))))))] false [] x y = (s77_c n).fn x y := by kernel_rfl
theorem s77_ok (n : Nat) : ConOK Go.Proofs.Try.prog 77 (s77_c n) := func_ok (h0 n) hP Go.Proofs.Try.func77 (by kernel_rfl) (by kernel_rfl) (O := []) trivial (s77_eq n)
def e1 (n : Nat) : Env := ⟨gT, (77, s77_c n) :: (e0 n).C, gQ, (e0 n).I⟩
theorem h1 (n : Nat) : EnvOK Go.Proofs.Try.prog (e1 n) := env_add (h0 n) (s77_ok n)

/-- criadera/taste.unless -/
def s81 (n : Nat) (ok : Bool) (e : Int) : Option (Int) :=
  bif ok then
    some ((0 : Int))
  else
    some (e)

def s81_c (n : Nat) : Con := ⟨[.bool, (.int .i64)], [], [(.int .i64)], fun x y => s81 n x.1 x.2, false⟩
theorem s81_eq (n : Nat) (x : denL [.bool, (.int .i64)]) (y : denL []) : funR (e1 n) Go.Proofs.Try.f81 [.bool, (.int .i64)] [] [(.int .i64)] false [] x y = (s81_c n).fn x y := by kernel_rfl
theorem s81_ok (n : Nat) : ConOK Go.Proofs.Try.prog 81 (s81_c n) := func_ok (h1 n) hP Go.Proofs.Try.func81 (by kernel_rfl) (by kernel_rfl) (O := []) trivial (s81_eq n)
def e2 (n : Nat) : Env := ⟨gT, (81, s81_c n) :: (e1 n).C, gQ, (e1 n).I⟩
theorem h2 (n : Nat) : EnvOK Go.Proofs.Try.prog (e2 n) := env_add (h1 n) (s81_ok n)

def s80_l0 (n : Nat) (d : (List Int) × Int × Int × Unit) (again : ((List Int) × Int × Int × Unit) → Option (Int)) (ks : (Unit → Option (Int)) × (Int × Unit → Option (Int)) × Unit) : Option (Int) :=
  match d, ks with
  | (t5, t6, t7, _), (k0, k1, _) =>
  bif (decide (t7 < t6)) then
    (geti t5 t7).bind fun e =>
    bif (e != (0 : Int)) then
      k1 (e, ())
    else
      again (t5, t6, (IntKind.wrap .i64 (t7 + (1 : Int))), ())
  else
    k0 (())

/-- criadera/taste.first -/
def s80 (n : Nat) (l : List Int) : Option (Int) :=
  loopG (s80_l0 n) n (l, ((List.length l : Nat) : Int), (0 : Int), ())
    (fun (_) =>
      some ((0 : Int)),
    fun (t2, _) =>
      some (t2), ())

def s80_t0 : Templ := ⟨15, [(.slice (.int .i64)), (.int .i64), (.int .i64)], [(5, .v (.hole (.slice (.int .i64)))), (6, .v (.hole (.int .i64))), (7, .v (.hole (.int .i64)))], [], []⟩
def s80_x0 : List (Way × Templ) := [(.exit 0, ⟨15, [], [], [], []⟩), (.ret, ⟨15, [(.int .i64)], [(2, .v (.hole (.int .i64)))], [], []⟩)]
def s80_o0 (n : Nat) : Ev (denL [(.int .i64)]) := loopO n (e2 n) s80_t0 s80_x0 (s80_l0 n)
theorem s80_b0 (n : Nat) (d) (again) (ks) : codeR (R := (denL [(.int .i64)])) (e2 n) (Hdl.no (R := (denL [(.int .i64)]))) (inn (lp (bd Go.Proofs.Try.f80) 0)) [] (mk s80_t0 d) (turnR (e2 n) s80_t0 s80_x0 again ks) = s80_l0 n d again ks := by kernel_rfl
theorem s80_s0 (n : Nat) : Sound Go.Proofs.Try.prog (Hdl.no (R := (denL [(.int .i64)]))) false (lp (bd Go.Proofs.Try.f80) 0) (s80_o0 n) := loop_ok (h2 n) hP (by kernel_rfl) (O := []) trivial (s80_b0 n)
def s80_c (n : Nat) : Con := ⟨[(.slice (.int .i64))], [], [(.int .i64)], fun x y => s80 n x, false⟩
theorem s80_eq (n : Nat) (x : denL [(.slice (.int .i64))]) (y : denL []) : funR (e2 n) Go.Proofs.Try.f80 [(.slice (.int .i64))] [] [(.int .i64)] false [s80_o0 n] x y = (s80_c n).fn x y := by kernel_rfl
theorem s80_ok (n : Nat) : ConOK Go.Proofs.Try.prog 80 (s80_c n) := func_ok (h2 n) hP Go.Proofs.Try.func80 (by kernel_rfl) (by kernel_rfl) (O := [s80_o0 n]) ⟨s80_s0 n, trivial⟩ (s80_eq n)
def e3 (n : Nat) : Env := ⟨gT, (80, s80_c n) :: (e2 n).C, gQ, (e2 n).I⟩
theorem h3 (n : Nat) : EnvOK Go.Proofs.Try.prog (e3 n) := env_add (h2 n) (s80_ok n)

def s98_l0 (n : Nat) (d : (List UInt8) × (List Int) × Int × Int × Unit) (again : ((List UInt8) × (List Int) × Int × Int × Unit) → Option (Bool)) (ks : ((List UInt8) × Unit → Option (Bool)) × (Bool × Unit → Option (Bool)) × Unit) : Option (Bool) :=
  match d, ks with
  | (s, t7, t8, t9, _), (k0, k1, _) =>
  bif (decide (t9 < t8)) then
    (geti t7 t9).bind fun e =>
    bif ((!(((decide (e ≥ (97 : Int))) && (decide (e ≤ (122 : Int)))) || ((decide (e ≥ (65 : Int))) && (decide (e ≤ (90 : Int)))))) && ((t9 == (0 : Int)) || ((e != (45 : Int)) && ((decide (e < (48 : Int))) || (decide (e > (57 : Int))))))) then
      k1 (false, ())
    else
      again (s, t7, t8, (IntKind.wrap .i64 (t9 + (1 : Int))), ())
  else
    k0 (s, ())

/-- criadera/taste.isName -/
def s98 (n : Nat) (s : List UInt8) : Option (Bool) :=
  loopG (s98_l0 n) n (s, (bytesOf s), ((List.length (bytesOf s) : Nat) : Int), (0 : Int), ())
    (fun (s_2, _) =>
      some ((((s_2 : List UInt8) != []) && (decide (((List.length s_2 : Nat) : Int) ≤ (12 : Int))))),
    fun (t2, _) =>
      some (t2), ())

def s98_t0 : Templ := ⟨54, [.str, (.slice (.int .u8)), (.int .i64), (.int .i64)], [(0, .v (.hole .str)), (7, .v (.hole (.slice (.int .u8)))), (8, .v (.hole (.int .i64))), (9, .v (.hole (.int .i64)))], [], []⟩
def s98_x0 : List (Way × Templ) := [(.exit 0, ⟨54, [.str], [(0, .v (.hole .str))], [], []⟩), (.ret, ⟨54, [.bool], [(2, .v (.hole .bool))], [], []⟩)]
def s98_o0 (n : Nat) : Ev (denL [.bool]) := loopO n (e3 n) s98_t0 s98_x0 (s98_l0 n)
theorem s98_b0 (n : Nat) (d) (again) (ks) : codeR (R := (denL [.bool])) (e3 n) (Hdl.no (R := (denL [.bool]))) (inn (lp (bd Go.Proofs.Try.f98) 0)) [] (mk s98_t0 d) (turnR (e3 n) s98_t0 s98_x0 again ks) = s98_l0 n d again ks := by kernel_rfl
theorem s98_s0 (n : Nat) : Sound Go.Proofs.Try.prog (Hdl.no (R := (denL [.bool]))) false (lp (bd Go.Proofs.Try.f98) 0) (s98_o0 n) := loop_ok (h3 n) hP (by kernel_rfl) (O := []) trivial (s98_b0 n)
def s98_c (n : Nat) : Con := ⟨[.str], [], [.bool], fun x y => s98 n x, false⟩
theorem s98_eq (n : Nat) (x : denL [.str]) (y : denL []) : funR (e3 n) Go.Proofs.Try.f98 [.str] [] [.bool] false [s98_o0 n] x y = (s98_c n).fn x y := by kernel_rfl
theorem s98_ok (n : Nat) : ConOK Go.Proofs.Try.prog 98 (s98_c n) := func_ok (h3 n) hP Go.Proofs.Try.func98 (by kernel_rfl) (by kernel_rfl) (O := [s98_o0 n]) ⟨s98_s0 n, trivial⟩ (s98_eq n)
def e4 (n : Nat) : Env := ⟨gT, (98, s98_c n) :: (e3 n).C, gQ, (e3 n).I⟩
theorem h4 (n : Nat) : EnvOK Go.Proofs.Try.prog (e4 n) := env_add (h3 n) (s98_ok n)

def s143_l0 (n : Nat) (d : (List (List UInt8)) × (List UInt8) × Int × Int × Unit) (again : ((List (List UInt8)) × (List UInt8) × Int × Int × Unit) → Option (Int)) (ks : (Unit → Option (Int)) × (Int × Unit → Option (Int)) × Unit) : Option (Int) :=
  match d, ks with
  | (s, v, t7, t8, _), (k0, k1, _) =>
  bif (decide (t8 < t7)) then
    (geti s t8).bind fun e =>
    bif ((v : List UInt8) == e) then
      k1 (t8, ())
    else
      again (s, v, t7, (IntKind.wrap .i64 (t8 + (1 : Int))), ())
  else
    k0 (())

/-- slices.Index[[]string,string] -/
def s143 (n : Nat) (s : List (List UInt8)) (v : List UInt8) : Option (Int) :=
  loopG (s143_l0 n) n (s, v, ((List.length s : Nat) : Int), (0 : Int), ())
    (fun (_) =>
      some ((-1 : Int)),
    fun (t4, _) =>
      some (t4), ())

def s143_t0 : Templ := ⟨19, [(.slice .str), .str, (.int .i64), (.int .i64)], [(0, .v (.hole (.slice .str))), (1, .v (.hole .str)), (7, .v (.hole (.int .i64))), (8, .v (.hole (.int .i64)))], [], []⟩
def s143_x0 : List (Way × Templ) := [(.exit 0, ⟨19, [], [], [], []⟩), (.ret, ⟨19, [(.int .i64)], [(4, .v (.hole (.int .i64)))], [], []⟩)]
def s143_o0 (n : Nat) : Ev (denL [(.int .i64)]) := loopO n (e4 n) s143_t0 s143_x0 (s143_l0 n)
theorem s143_b0 (n : Nat) (d) (again) (ks) : codeR (R := (denL [(.int .i64)])) (e4 n) (Hdl.no (R := (denL [(.int .i64)]))) (inn (lp (bd Go.Proofs.Try.f143) 0)) [] (mk s143_t0 d) (turnR (e4 n) s143_t0 s143_x0 again ks) = s143_l0 n d again ks := by kernel_rfl
theorem s143_s0 (n : Nat) : Sound Go.Proofs.Try.prog (Hdl.no (R := (denL [(.int .i64)]))) false (lp (bd Go.Proofs.Try.f143) 0) (s143_o0 n) := loop_ok (h4 n) hP (by kernel_rfl) (O := []) trivial (s143_b0 n)
def s143_c (n : Nat) : Con := ⟨[(.slice .str), .str], [], [(.int .i64)], fun x y => s143 n x.1 x.2, false⟩
theorem s143_eq (n : Nat) (x : denL [(.slice .str), .str]) (y : denL []) : funR (e4 n) Go.Proofs.Try.f143 [(.slice .str), .str] [] [(.int .i64)] false [s143_o0 n] x y = (s143_c n).fn x y := by kernel_rfl
theorem s143_ok (n : Nat) : ConOK Go.Proofs.Try.prog 143 (s143_c n) := func_ok (h4 n) hP Go.Proofs.Try.func143 (by kernel_rfl) (by kernel_rfl) (O := [s143_o0 n]) ⟨s143_s0 n, trivial⟩ (s143_eq n)
def e5 (n : Nat) : Env := ⟨gT, (143, s143_c n) :: (e4 n).C, gQ, (e4 n).I⟩
theorem h5 (n : Nat) : EnvOK Go.Proofs.Try.prog (e5 n) := env_add (h4 n) (s143_ok n)

/-- slices.Contains[[]string,string] -/
def s129 (n : Nat) (s : List (List UInt8)) (v : List UInt8) : Option (Bool) :=
  (s143 n s v).bind fun x =>
  some ((decide (x ≥ (0 : Int))))

def s129_c (n : Nat) : Con := ⟨[(.slice .str), .str], [], [.bool], fun x y => s129 n x.1 x.2, false⟩
theorem s129_eq (n : Nat) (x : denL [(.slice .str), .str]) (y : denL []) : funR (e5 n) Go.Proofs.Try.f129 [(.slice .str), .str] [] [.bool] false [] x y = (s129_c n).fn x y := by kernel_rfl
theorem s129_ok (n : Nat) : ConOK Go.Proofs.Try.prog 129 (s129_c n) := func_ok (h5 n) hP Go.Proofs.Try.func129 (by kernel_rfl) (by kernel_rfl) (O := []) trivial (s129_eq n)
def e6 (n : Nat) : Env := ⟨gT, (129, s129_c n) :: (e5 n).C, gQ, (e5 n).I⟩
theorem h6 (n : Nat) : EnvOK Go.Proofs.Try.prog (e6 n) := env_add (h5 n) (s129_ok n)

/-- criadera/taste.nameErr -/
def s92 (n : Nat) (name : List UInt8) (others : List (List UInt8)) : Option (Int) :=
  (s98 n name).bind fun x =>
  (s81 n x (4 : Int)).bind fun x_1 =>
  (s129 n others name).bind fun x_2 =>
  (s81 n (!x_2) (5 : Int)).bind fun x_3 =>
  (s80 n ([x_1, x_3] : List Int)).bind fun x_4 =>
  some (x_4)

def s92_c (n : Nat) : Con := ⟨[.str, (.slice .str)], [], [(.int .i64)], fun x y => s92 n x.1 x.2, false⟩
theorem s92_eq (n : Nat) (x : denL [.str, (.slice .str)]) (y : denL []) : funR (e6 n) Go.Proofs.Try.f92 [.str, (.slice .str)] [] [(.int .i64)] false [] x y = (s92_c n).fn x y := by kernel_rfl
theorem s92_ok (n : Nat) : ConOK Go.Proofs.Try.prog 92 (s92_c n) := func_ok (h6 n) hP Go.Proofs.Try.func92 (by kernel_rfl) (by kernel_rfl) (O := []) trivial (s92_eq n)
def e7 (n : Nat) : Env := ⟨gT, (92, s92_c n) :: (e6 n).C, gQ, (e6 n).I⟩
theorem h7 (n : Nat) : EnvOK Go.Proofs.Try.prog (e7 n) := env_add (h6 n) (s92_ok n)

/-- criadera/taste.within -/
def s82 (n : Nat) (v_n : Int) (lo : Int) (hi : Int) : Option (Bool) :=
  some (((decide (lo ≤ v_n)) && (decide (v_n ≤ hi))))

def s82_c (n : Nat) : Con := ⟨[(.int .i64), (.int .i64), (.int .i64)], [], [.bool], fun x y => s82 n x.1 x.2.1 x.2.2, false⟩
theorem s82_eq (n : Nat) (x : denL [(.int .i64), (.int .i64), (.int .i64)]) (y : denL []) : funR (e7 n) Go.Proofs.Try.f82 [(.int .i64), (.int .i64), (.int .i64)] [] [.bool] false [] x y = (s82_c n).fn x y := by kernel_rfl
theorem s82_ok (n : Nat) : ConOK Go.Proofs.Try.prog 82 (s82_c n) := func_ok (h7 n) hP Go.Proofs.Try.func82 (by kernel_rfl) (by kernel_rfl) (O := []) trivial (s82_eq n)
def e8 (n : Nat) : Env := ⟨gT, (82, s82_c n) :: (e7 n).C, gQ, (e7 n).I⟩
theorem h8 (n : Nat) : EnvOK Go.Proofs.Try.prog (e8 n) := env_add (h7 n) (s82_ok n)

/-- criadera/taste.CheckBook$1 -/
def s93 (n : Nat) (v_n : Int) (c0 : Int) : Option (Bool) :=
  (s82 n v_n (0 : Int) (IntKind.wrap .i64 (c0 - (1 : Int)))).bind fun x =>
  some (x)

def s93_c (n : Nat) : Con := ⟨[(.int .i64)], [(.int .i64)], [.bool], fun x y => s93 n x y, false⟩
theorem s93_eq (n : Nat) (x : denL [(.int .i64)]) (y : denL [(.int .i64)]) : funR (e8 n) Go.Proofs.Try.f93 [(.int .i64)] [(.int .i64)] [.bool] false [] x y = (s93_c n).fn x y := by kernel_rfl
theorem s93_ok (n : Nat) : ConOK Go.Proofs.Try.prog 93 (s93_c n) := func_ok (h8 n) hP Go.Proofs.Try.func93 (by kernel_rfl) (by kernel_rfl) (O := []) trivial (s93_eq n)
def e9 (n : Nat) : Env := ⟨gT, (93, s93_c n) :: (e8 n).C, gQ, (e8 n).I⟩
theorem h9 (n : Nat) : EnvOK Go.Proofs.Try.prog (e9 n) := env_add (h8 n) (s93_ok n)

/-- criadera/taste.CheckBook$2 -/
def s95 (n : Nat) (v_n : Int) (c0 : Int → Option Bool) : Option (Bool) :=
  (c0 v_n).bind fun x =>
  some ((!x))

def s95_c (n : Nat) : Con := ⟨[(.int .i64)], [(.fn1 (.int .i64) .bool)], [.bool], fun x y => s95 n x y, false⟩
theorem s95_eq (n : Nat) (x : denL [(.int .i64)]) (y : denL [(.fn1 (.int .i64) .bool)]) : funR (e9 n) Go.Proofs.Try.f95 [(.int .i64)] [(.fn1 (.int .i64) .bool)] [.bool] false [] x y = (s95_c n).fn x y := by kernel_rfl
theorem s95_ok (n : Nat) : ConOK Go.Proofs.Try.prog 95 (s95_c n) := func_ok (h9 n) hP Go.Proofs.Try.func95 (by kernel_rfl) (by kernel_rfl) (O := []) trivial (s95_eq n)
def e10 (n : Nat) : Env := ⟨gT, (95, s95_c n) :: (e9 n).C, gQ, (e9 n).I⟩
theorem h10 (n : Nat) : EnvOK Go.Proofs.Try.prog (e10 n) := env_add (h9 n) (s95_ok n)

def s130_l0 (n : Nat) (d : (List Int) × (Int → Option Bool) × Int × Int × Unit) (again : ((List Int) × (Int → Option Bool) × Int × Int × Unit) → Option (Int)) (ks : (Unit → Option (Int)) × (Int × Unit → Option (Int)) × Unit) : Option (Int) :=
  match d, ks with
  | (s, f, t7, t8, _), (k0, k1, _) =>
  bif (decide (t8 < t7)) then
    (geti s t8).bind fun e =>
    (f e).bind fun x =>
    bif x then
      k1 (t8, ())
    else
      again (s, f, t7, (IntKind.wrap .i64 (t8 + (1 : Int))), ())
  else
    k0 (())

/-- slices.IndexFunc[[]int,int] -/
def s130 (n : Nat) (s : List Int) (f : Int → Option Bool) : Option (Int) :=
  loopG (s130_l0 n) n (s, f, ((List.length s : Nat) : Int), (0 : Int), ())
    (fun (_) =>
      some ((-1 : Int)),
    fun (t4, _) =>
      some (t4), ())

def s130_t0 : Templ := ⟨19, [(.slice (.int .i64)), (.fn1 (.int .i64) .bool), (.int .i64), (.int .i64)], [(0, .v (.hole (.slice (.int .i64)))), (1, .v (.hole (.fn1 (.int .i64) .bool))), (7, .v (.hole (.int .i64))), (8, .v (.hole (.int .i64)))], [], []⟩
def s130_x0 : List (Way × Templ) := [(.exit 0, ⟨19, [], [], [], []⟩), (.ret, ⟨19, [(.int .i64)], [(4, .v (.hole (.int .i64)))], [], []⟩)]
def s130_o0 (n : Nat) : Ev (denL [(.int .i64)]) := loopO n (e10 n) s130_t0 s130_x0 (s130_l0 n)
theorem s130_b0 (n : Nat) (d) (again) (ks) : codeR (R := (denL [(.int .i64)])) (e10 n) (Hdl.no (R := (denL [(.int .i64)]))) (inn (lp (bd Go.Proofs.Try.f130) 0)) [] (mk s130_t0 d) (turnR (e10 n) s130_t0 s130_x0 again ks) = s130_l0 n d again ks := by kernel_rfl
theorem s130_s0 (n : Nat) : Sound Go.Proofs.Try.prog (Hdl.no (R := (denL [(.int .i64)]))) false (lp (bd Go.Proofs.Try.f130) 0) (s130_o0 n) := loop_ok (h10 n) hP (by kernel_rfl) (O := []) trivial (s130_b0 n)
def s130_c (n : Nat) : Con := ⟨[(.slice (.int .i64)), (.fn1 (.int .i64) .bool)], [], [(.int .i64)], fun x y => s130 n x.1 x.2, false⟩
theorem s130_eq (n : Nat) (x : denL [(.slice (.int .i64)), (.fn1 (.int .i64) .bool)]) (y : denL []) : funR (e10 n) Go.Proofs.Try.f130 [(.slice (.int .i64)), (.fn1 (.int .i64) .bool)] [] [(.int .i64)] false [s130_o0 n] x y = (s130_c n).fn x y := by kernel_rfl
theorem s130_ok (n : Nat) : ConOK Go.Proofs.Try.prog 130 (s130_c n) := func_ok (h10 n) hP Go.Proofs.Try.func130 (by kernel_rfl) (by kernel_rfl) (O := [s130_o0 n]) ⟨s130_s0 n, trivial⟩ (s130_eq n)
def e11 (n : Nat) : Env := ⟨gT, (130, s130_c n) :: (e10 n).C, gQ, (e10 n).I⟩
theorem h11 (n : Nat) : EnvOK Go.Proofs.Try.prog (e11 n) := env_add (h10 n) (s130_ok n)

/-- slices.ContainsFunc[[]int,int] -/
def s94 (n : Nat) (s : List Int) (f : Int → Option Bool) : Option (Bool) :=
  (s130 n s f).bind fun x =>
  some ((decide (x ≥ (0 : Int))))

def s94_c (n : Nat) : Con := ⟨[(.slice (.int .i64)), (.fn1 (.int .i64) .bool)], [], [.bool], fun x y => s94 n x.1 x.2, false⟩
theorem s94_eq (n : Nat) (x : denL [(.slice (.int .i64)), (.fn1 (.int .i64) .bool)]) (y : denL []) : funR (e11 n) Go.Proofs.Try.f94 [(.slice (.int .i64)), (.fn1 (.int .i64) .bool)] [] [.bool] false [] x y = (s94_c n).fn x y := by kernel_rfl
theorem s94_ok (n : Nat) : ConOK Go.Proofs.Try.prog 94 (s94_c n) := func_ok (h11 n) hP Go.Proofs.Try.func94 (by kernel_rfl) (by kernel_rfl) (O := []) trivial (s94_eq n)
def e12 (n : Nat) : Env := ⟨gT, (94, s94_c n) :: (e11 n).C, gQ, (e11 n).I⟩
theorem h12 (n : Nat) : EnvOK Go.Proofs.Try.prog (e12 n) := env_add (h11 n) (s94_ok n)

def s131_l0 (n : Nat) (d : (List (List UInt8)) × ((List UInt8) → Option Bool) × Int × Int × Unit) (again : ((List (List UInt8)) × ((List UInt8) → Option Bool) × Int × Int × Unit) → Option (Int)) (ks : (Unit → Option (Int)) × (Int × Unit → Option (Int)) × Unit) : Option (Int) :=
  match d, ks with
  | (s, f, t7, t8, _), (k0, k1, _) =>
  bif (decide (t8 < t7)) then
    (geti s t8).bind fun e =>
    (f e).bind fun x =>
    bif x then
      k1 (t8, ())
    else
      again (s, f, t7, (IntKind.wrap .i64 (t8 + (1 : Int))), ())
  else
    k0 (())

/-- slices.IndexFunc[[]string,string] -/
def s131 (n : Nat) (s : List (List UInt8)) (f : (List UInt8) → Option Bool) : Option (Int) :=
  loopG (s131_l0 n) n (s, f, ((List.length s : Nat) : Int), (0 : Int), ())
    (fun (_) =>
      some ((-1 : Int)),
    fun (t4, _) =>
      some (t4), ())

def s131_t0 : Templ := ⟨19, [(.slice .str), (.fn1 .str .bool), (.int .i64), (.int .i64)], [(0, .v (.hole (.slice .str))), (1, .v (.hole (.fn1 .str .bool))), (7, .v (.hole (.int .i64))), (8, .v (.hole (.int .i64)))], [], []⟩
def s131_x0 : List (Way × Templ) := [(.exit 0, ⟨19, [], [], [], []⟩), (.ret, ⟨19, [(.int .i64)], [(4, .v (.hole (.int .i64)))], [], []⟩)]
def s131_o0 (n : Nat) : Ev (denL [(.int .i64)]) := loopO n (e12 n) s131_t0 s131_x0 (s131_l0 n)
theorem s131_b0 (n : Nat) (d) (again) (ks) : codeR (R := (denL [(.int .i64)])) (e12 n) (Hdl.no (R := (denL [(.int .i64)]))) (inn (lp (bd Go.Proofs.Try.f131) 0)) [] (mk s131_t0 d) (turnR (e12 n) s131_t0 s131_x0 again ks) = s131_l0 n d again ks := by kernel_rfl
theorem s131_s0 (n : Nat) : Sound Go.Proofs.Try.prog (Hdl.no (R := (denL [(.int .i64)]))) false (lp (bd Go.Proofs.Try.f131) 0) (s131_o0 n) := loop_ok (h12 n) hP (by kernel_rfl) (O := []) trivial (s131_b0 n)
def s131_c (n : Nat) : Con := ⟨[(.slice .str), (.fn1 .str .bool)], [], [(.int .i64)], fun x y => s131 n x.1 x.2, false⟩
theorem s131_eq (n : Nat) (x : denL [(.slice .str), (.fn1 .str .bool)]) (y : denL []) : funR (e12 n) Go.Proofs.Try.f131 [(.slice .str), (.fn1 .str .bool)] [] [(.int .i64)] false [s131_o0 n] x y = (s131_c n).fn x y := by kernel_rfl
theorem s131_ok (n : Nat) : ConOK Go.Proofs.Try.prog 131 (s131_c n) := func_ok (h12 n) hP Go.Proofs.Try.func131 (by kernel_rfl) (by kernel_rfl) (O := [s131_o0 n]) ⟨s131_s0 n, trivial⟩ (s131_eq n)
def e13 (n : Nat) : Env := ⟨gT, (131, s131_c n) :: (e12 n).C, gQ, (e12 n).I⟩
theorem h13 (n : Nat) : EnvOK Go.Proofs.Try.prog (e13 n) := env_add (h12 n) (s131_ok n)

/-- slices.ContainsFunc[[]string,string] -/
def s96 (n : Nat) (s : List (List UInt8)) (f : (List UInt8) → Option Bool) : Option (Bool) :=
  (s131 n s f).bind fun x =>
  some ((decide (x ≥ (0 : Int))))

def s96_c (n : Nat) : Con := ⟨[(.slice .str), (.fn1 .str .bool)], [], [.bool], fun x y => s96 n x.1 x.2, false⟩
theorem s96_eq (n : Nat) (x : denL [(.slice .str), (.fn1 .str .bool)]) (y : denL []) : funR (e13 n) Go.Proofs.Try.f96 [(.slice .str), (.fn1 .str .bool)] [] [.bool] false [] x y = (s96_c n).fn x y := by kernel_rfl
theorem s96_ok (n : Nat) : ConOK Go.Proofs.Try.prog 96 (s96_c n) := func_ok (h13 n) hP Go.Proofs.Try.func96 (by kernel_rfl) (by kernel_rfl) (O := []) trivial (s96_eq n)
def e14 (n : Nat) : Env := ⟨gT, (96, s96_c n) :: (e13 n).C, gQ, (e13 n).I⟩
theorem h14 (n : Nat) : EnvOK Go.Proofs.Try.prog (e14 n) := env_add (h13 n) (s96_ok n)

/-- criadera/taste.CheckBook$3 -/
def s97 (n : Nat) (s : List UInt8) : Option (Bool) :=
  (s98 n s).bind fun x =>
  some ((!x))

def s97_c (n : Nat) : Con := ⟨[.str], [], [.bool], fun x y => s97 n x, false⟩
theorem s97_eq (n : Nat) (x : denL [.str]) (y : denL []) : funR (e14 n) Go.Proofs.Try.f97 [.str] [] [.bool] false [] x y = (s97_c n).fn x y := by kernel_rfl
theorem s97_ok (n : Nat) : ConOK Go.Proofs.Try.prog 97 (s97_c n) := func_ok (h14 n) hP Go.Proofs.Try.func97 (by kernel_rfl) (by kernel_rfl) (O := []) trivial (s97_eq n)
def e15 (n : Nat) : Env := ⟨gT, (97, s97_c n) :: (e14 n).C, gQ, (e14 n).I⟩
theorem h15 (n : Nat) : EnvOK Go.Proofs.Try.prog (e15 n) := env_add (h14 n) (s97_ok n)

def s37_l0 (n : Nat) (d : Int × (List (List UInt8)) × Int × Int × (List (List UInt8)) × Int × (List ((List UInt8) × (List Int) × (List (List UInt8)))) × Int × Unit) (again : (Int × (List (List UInt8)) × Int × Int × (List (List UInt8)) × Int × (List ((List UInt8) × (List Int) × (List (List UInt8)))) × Int × Unit) → Option (Int × Int)) (ks : (Int × (List (List UInt8)) × Int × (List ((List UInt8) × (List Int) × (List (List UInt8)))) × Int × Unit → Option (Int × Int)) × (Int × Int × Unit → Option (Int × Int)) × Unit) : Option (Int × Int) :=
  match d, ks with
  | (marks, t43, t44, t45, b, b_1, b_2, classes, _), (k0, k1, _) =>
  bif (decide (t45 < t44)) then
    (geti t43 t45).bind fun e =>
    (cut b 0 t45).bind fun x =>
    (s92 n e x).bind fun x_1 =>
    bif (x_1 != (0 : Int)) then
      k1 ((0 : Int), x_1, ())
    else
      again (marks, t43, t44, (IntKind.wrap .i64 (t45 + (1 : Int))), b, b_1, b_2, classes, ())
  else
    k0 (marks, b, b_1, b_2, classes, ())

def s37_l1 (n : Nat) (d : Int × (Int → Option Bool) × (List ((List UInt8) × (List Int) × (List (List UInt8)))) × Int × Int × (List (List UInt8)) × Unit) (again : (Int × (Int → Option Bool) × (List ((List UInt8) × (List Int) × (List (List UInt8)))) × Int × Int × (List (List UInt8)) × Unit) → Option (Int × Int)) (ks : (Unit → Option (Int × Int)) × (Int × Int × Unit → Option (Int × Int)) × Unit) : Option (Int × Int) :=
  match d, ks with
  | (marks, isClass, t67, t68, t69, names, _), (k0, k1, _) =>
  bif (decide (t69 < t68)) then
    (geti t67 t69).bind fun e =>
    (s94 n e.2.1 (fun y0 => s95 n y0 isClass)).bind fun x =>
    (s96 n e.2.2 (fun x => s97 n x)).bind fun x_1 =>
    (s92 n e.1 names).bind fun x_2 =>
    (s81 n ((((List.length e.2.1 : Nat) : Int) == marks) && (((List.length e.2.2 : Nat) : Int) == marks)) (10 : Int)).bind fun x_3 =>
    (s81 n (!x) (6 : Int)).bind fun x_4 =>
    (s81 n (!x_1) (4 : Int)).bind fun x_5 =>
    (s80 n ([x_2, x_3, x_4, x_5] : List Int)).bind fun x_6 =>
    bif (x_6 != (0 : Int)) then
      k1 (t69, x_6, ())
    else
      (chk (List.length names + List.length ([e.1] : List (List UInt8)))).bind fun u =>
      again (marks, isClass, t67, t68, (IntKind.wrap .i64 (t69 + (1 : Int))), (names ++ ([e.1] : List (List UInt8))), ())
  else
    k0 (())

/-- criadera/taste.CheckBook -/
def s37 (n : Nat) (b : (List (List UInt8)) × Int × (List ((List UInt8) × (List Int) × (List (List UInt8))))) : Option (Int × Int) :=
  (s81 n ((decide (((List.length b.1 : Nat) : Int) > (0 : Int))) && (decide (((List.length b.2.2 : Nat) : Int) > (0 : Int)))) (10 : Int)).bind fun x =>
  (s81 n ((decide (((List.length b.1 : Nat) : Int) ≤ (6 : Int))) && (decide (((List.length b.2.2 : Nat) : Int) ≤ (8 : Int)))) (8 : Int)).bind fun x_1 =>
  (s80 n ([x, x_1] : List Int)).bind fun x_2 =>
  bif (x_2 != (0 : Int)) then
    some ((0 : Int), x_2)
  else
    loopG (s37_l0 n) n (((List.length b.1 : Nat) : Int), b.1, ((List.length b.1 : Nat) : Int), (0 : Int), b.1, b.2.1, b.2.2, ((List.length b.2.2 : Nat) : Int), ())
      (fun (marks_1, b_4, b_5, b_6, classes_1, _) =>
        ((fun y0 => s93 n y0 classes_1) b_5).bind fun x_5 =>
        bif (!x_5) then
          some ((0 : Int), (6 : Int))
        else
          loopG (s37_l1 n) n (marks_1, (fun y0 => s93 n y0 classes_1), b_6, ((List.length b_6 : Nat) : Int), (0 : Int), ([] : List (List UInt8)), ())
            (fun (_) =>
              some ((0 : Int), (0 : Int)),
            fun (t2, t3, _) =>
              some (t2, t3), ()),
      fun (t2_1, t3_1, _) =>
        some (t2_1, t3_1), ())

def s37_t0 : Templ := ⟨116, [(.int .i64), (.slice .str), (.int .i64), (.int .i64), (.slice .str), (.int .i64), (.slice (.pair .str (.pair (.slice (.int .i64)) (.slice .str)))), (.int .i64)], [(1, .v (.bptr 116 0)), (4, .v (.hole (.int .i64))), (5, .v (.bptr 117 0)), (43, .v (.hole (.slice .str))), (44, .v (.hole (.int .i64))), (45, .v (.hole (.int .i64)))], [(116, .box (.pair (.slice .str) (.pair (.int .i64) (.slice (.pair .str (.pair (.slice (.int .i64)) (.slice .str)))))) [.hole (.slice .str), .hole (.int .i64), .hole (.slice (.pair .str (.pair (.slice (.int .i64)) (.slice .str))))]), (117, .box (.int .i64) [.hole (.int .i64)])], []⟩
def s37_x0 : List (Way × Templ) := [(.exit 0, ⟨116, [(.int .i64), (.slice .str), (.int .i64), (.slice (.pair .str (.pair (.slice (.int .i64)) (.slice .str)))), (.int .i64)], [(1, .v (.bptr 116 0)), (4, .v (.hole (.int .i64))), (5, .v (.bptr 117 0))], [(116, .box (.pair (.slice .str) (.pair (.int .i64) (.slice (.pair .str (.pair (.slice (.int .i64)) (.slice .str)))))) [.hole (.slice .str), .hole (.int .i64), .hole (.slice (.pair .str (.pair (.slice (.int .i64)) (.slice .str))))]), (117, .box (.int .i64) [.hole (.int .i64)])], []⟩), (.ret, ⟨116, [(.int .i64), (.int .i64)], [(2, .v (.hole (.int .i64))), (3, .v (.hole (.int .i64)))], [], []⟩)]
def s37_o0 (n : Nat) : Ev (denL [(.int .i64), (.int .i64)]) := loopO n (e15 n) s37_t0 s37_x0 (s37_l0 n)
theorem s37_b0 (n : Nat) (d) (again) (ks) : codeR (R := (denL [(.int .i64), (.int .i64)])) (e15 n) (Hdl.no (R := (denL [(.int .i64), (.int .i64)]))) (inn (lp (bd Go.Proofs.Try.f37) 0)) [] (mk s37_t0 d) (turnR (e15 n) s37_t0 s37_x0 again ks) = s37_l0 n d again ks := by kernel_rfl
theorem s37_s0 (n : Nat) : Sound Go.Proofs.Try.prog (Hdl.no (R := (denL [(.int .i64), (.int .i64)]))) false (lp (bd Go.Proofs.Try.f37) 0) (s37_o0 n) := loop_ok (h15 n) hP (by kernel_rfl) (O := []) trivial (s37_b0 n)
def s37_t1 : Templ := ⟨116, [(.int .i64), (.fn1 (.int .i64) .bool), (.slice (.pair .str (.pair (.slice (.int .i64)) (.slice .str)))), (.int .i64), (.int .i64), (.slice .str)], [(4, .v (.hole (.int .i64))), (10, .v (.pp (.fn1 (.int .i64) .bool))), (11, .v (.hand 116)), (67, .v (.hole (.slice (.pair .str (.pair (.slice (.int .i64)) (.slice .str)))))), (68, .v (.hole (.int .i64))), (69, .v (.hole (.int .i64)))], [(116, .buf .str)], []⟩
def s37_x1 : List (Way × Templ) := [(.exit 2, ⟨116, [], [], [], []⟩), (.ret, ⟨116, [(.int .i64), (.int .i64)], [(2, .v (.hole (.int .i64))), (3, .v (.hole (.int .i64)))], [], []⟩)]
def s37_o1 (n : Nat) : Ev (denL [(.int .i64), (.int .i64)]) := loopO n (e15 n) s37_t1 s37_x1 (s37_l1 n)
theorem s37_b1 (n : Nat) (d) (again) (ks) : codeR (R := (denL [(.int .i64), (.int .i64)])) (e15 n) (Hdl.no (R := (denL [(.int .i64), (.int .i64)]))) (inn (lp (bd Go.Proofs.Try.f37) 1)) [] (mk s37_t1 d) (turnR (e15 n) s37_t1 s37_x1 again ks) = s37_l1 n d again ks := by kernel_rfl
theorem s37_s1 (n : Nat) : Sound Go.Proofs.Try.prog (Hdl.no (R := (denL [(.int .i64), (.int .i64)]))) false (lp (bd Go.Proofs.Try.f37) 1) (s37_o1 n) := loop_ok (h15 n) hP (by kernel_rfl) (O := []) trivial (s37_b1 n)
def s37_c (n : Nat) : Con := ⟨[(.pair (.slice .str) (.pair (.int .i64) (.slice (.pair .str (.pair (.slice (.int .i64)) (.slice .str))))))], [], [(.int .i64), (.int .i64)], fun x y => s37 n x, false⟩
theorem s37_eq (n : Nat) (x : denL [(.pair (.slice .str) (.pair (.int .i64) (.slice (.pair .str (.pair (.slice (.int .i64)) (.slice .str))))))]) (y : denL []) : funR (e15 n) Go.Proofs.Try.f37 [(.pair (.slice .str) (.pair (.int .i64) (.slice (.pair .str (.pair (.slice (.int .i64)) (.slice .str))))))] [] [(.int .i64), (.int .i64)] false [s37_o0 n, s37_o1 n] x y = (s37_c n).fn x y := by kernel_rfl
theorem s37_ok (n : Nat) : ConOK Go.Proofs.Try.prog 37 (s37_c n) := func_ok (h15 n) hP Go.Proofs.Try.func37 (by kernel_rfl) (by kernel_rfl) (O := [s37_o0 n, s37_o1 n]) ⟨s37_s0 n, s37_s1 n, trivial⟩ (s37_eq n)
def e16 (n : Nat) : Env := ⟨gT, (37, s37_c n) :: (e15 n).C, gQ, (e15 n).I⟩
theorem h16 (n : Nat) : EnvOK Go.Proofs.Try.prog (e16 n) := env_add (h15 n) (s37_ok n)

/-- criadera/taste.open -/
def s79 (n : Nat) (b : (List (List UInt8)) × Int × (List ((List UInt8) × (List Int) × (List (List UInt8))))) : Option (((List (List UInt8)) × Int × (List ((List UInt8) × (List Int) × (List (List UInt8))))) × Int) :=
  (s37 n (b.1, (b.2.1, b.2.2))).bind fun x =>
  some ((b.1, (b.2.1, b.2.2)), x.2)

def s79_c (n : Nat) : Con := ⟨[(.pair (.slice .str) (.pair (.int .i64) (.slice (.pair .str (.pair (.slice (.int .i64)) (.slice .str))))))], [], [(.pair (.slice .str) (.pair (.int .i64) (.slice (.pair .str (.pair (.slice (.int .i64)) (.slice .str)))))), (.int .i64)], fun x y => s79 n x, false⟩
theorem s79_eq (n : Nat) (x : denL [(.pair (.slice .str) (.pair (.int .i64) (.slice (.pair .str (.pair (.slice (.int .i64)) (.slice .str))))))]) (y : denL []) : funR (e16 n) Go.Proofs.Try.f79 [(.pair (.slice .str) (.pair (.int .i64) (.slice (.pair .str (.pair (.slice (.int .i64)) (.slice .str))))))] [] [(.pair (.slice .str) (.pair (.int .i64) (.slice (.pair .str (.pair (.slice (.int .i64)) (.slice .str)))))), (.int .i64)] false [] x y = (s79_c n).fn x y := by kernel_rfl
theorem s79_ok (n : Nat) : ConOK Go.Proofs.Try.prog 79 (s79_c n) := func_ok (h16 n) hP Go.Proofs.Try.func79 (by kernel_rfl) (by kernel_rfl) (O := []) trivial (s79_eq n)
def e17 (n : Nat) : Env := ⟨gT, (79, s79_c n) :: (e16 n).C, gQ, (e16 n).I⟩
theorem h17 (n : Nat) : EnvOK Go.Proofs.Try.prog (e17 n) := env_add (h16 n) (s79_ok n)

/-- (criadera/taste.book).marksErr$1 -/
def s132 (n : Nat) (v_n : Int) (c0 : (List (List UInt8)) × Int × (List ((List UInt8) × (List Int) × (List (List UInt8))))) : Option (Bool) :=
  (s82 n v_n (0 : Int) (IntKind.wrap .i64 (((List.length c0.1 : Nat) : Int) - (1 : Int)))).bind fun x =>
  some ((!x))

def s132_c (n : Nat) : Con := ⟨[(.int .i64)], [(.pair (.slice .str) (.pair (.int .i64) (.slice (.pair .str (.pair (.slice (.int .i64)) (.slice .str))))))], [.bool], fun x y => s132 n x y, false⟩
theorem s132_eq (n : Nat) (x : denL [(.int .i64)]) (y : denL [(.pair (.slice .str) (.pair (.int .i64) (.slice (.pair .str (.pair (.slice (.int .i64)) (.slice .str))))))]) : funR (e17 n) Go.Proofs.Try.f132 [(.int .i64)] [(.pair (.slice .str) (.pair (.int .i64) (.slice (.pair .str (.pair (.slice (.int .i64)) (.slice .str))))))] [.bool] false [] x y = (s132_c n).fn x y := by kernel_rfl
theorem s132_ok (n : Nat) : ConOK Go.Proofs.Try.prog 132 (s132_c n) := func_ok (h17 n) hP Go.Proofs.Try.func132 (by kernel_rfl) (by kernel_rfl) (O := []) trivial (s132_eq n)
def e18 (n : Nat) : Env := ⟨gT, (132, s132_c n) :: (e17 n).C, gQ, (e17 n).I⟩
theorem h18 (n : Nat) : EnvOK Go.Proofs.Try.prog (e18 n) := env_add (h17 n) (s132_ok n)

/-- (criadera/taste.book).marksErr -/
def s99 (n : Nat) (b : (List (List UInt8)) × Int × (List ((List UInt8) × (List Int) × (List (List UInt8))))) (l : List Int) : Option (Int) :=
  (s94 n l (fun y0 => s132 n y0 (b.1, (b.2.1, b.2.2)))).bind fun x =>
  (s81 n (decide (((List.length l : Nat) : Int) ≤ (40 : Int))) (8 : Int)).bind fun x_1 =>
  (s81 n (!x) (6 : Int)).bind fun x_2 =>
  (s80 n ([x_1, x_2] : List Int)).bind fun x_3 =>
  some (x_3)

def s99_c (n : Nat) : Con := ⟨[(.pair (.slice .str) (.pair (.int .i64) (.slice (.pair .str (.pair (.slice (.int .i64)) (.slice .str)))))), (.slice (.int .i64))], [], [(.int .i64)], fun x y => s99 n x.1 x.2, false⟩
theorem s99_eq (n : Nat) (x : denL [(.pair (.slice .str) (.pair (.int .i64) (.slice (.pair .str (.pair (.slice (.int .i64)) (.slice .str)))))), (.slice (.int .i64))]) (y : denL []) : funR (e18 n) Go.Proofs.Try.f99 [(.pair (.slice .str) (.pair (.int .i64) (.slice (.pair .str (.pair (.slice (.int .i64)) (.slice .str)))))), (.slice (.int .i64))] [] [(.int .i64)] false [] x y = (s99_c n).fn x y := by kernel_rfl
theorem s99_ok (n : Nat) : ConOK Go.Proofs.Try.prog 99 (s99_c n) := func_ok (h18 n) hP Go.Proofs.Try.func99 (by kernel_rfl) (by kernel_rfl) (O := []) trivial (s99_eq n)
def e19 (n : Nat) : Env := ⟨gT, (99, s99_c n) :: (e18 n).C, gQ, (e18 n).I⟩
theorem h19 (n : Nat) : EnvOK Go.Proofs.Try.prog (e19 n) := env_add (h18 n) (s99_ok n)

/-- criadera/taste.openSheet -/
def s104 (n : Nat) (b : (List (List UInt8)) × Int × (List ((List UInt8) × (List Int) × (List (List UInt8))))) (s : (List UInt8) × (List Int)) : Option (((List (List UInt8)) × Int × (List ((List UInt8) × (List Int) × (List (List UInt8))))) × Int) :=
  (s79 n (b.1, (b.2.1, b.2.2))).bind fun x =>
  bif (x.2 != (0 : Int)) then
    some ((x.1.1, (x.1.2.1, x.1.2.2)), x.2)
  else
    (s98 n s.1).bind fun x_1 =>
    (s81 n x_1 (4 : Int)).bind fun x_2 =>
    (s99 n (x.1.1, (x.1.2.1, x.1.2.2)) s.2).bind fun x_3 =>
    (s80 n ([x_2, x_3] : List Int)).bind fun x_4 =>
    some ((x.1.1, (x.1.2.1, x.1.2.2)), x_4)

def s104_c (n : Nat) : Con := ⟨[(.pair (.slice .str) (.pair (.int .i64) (.slice (.pair .str (.pair (.slice (.int .i64)) (.slice .str)))))), (.pair .str (.slice (.int .i64)))], [], [(.pair (.slice .str) (.pair (.int .i64) (.slice (.pair .str (.pair (.slice (.int .i64)) (.slice .str)))))), (.int .i64)], fun x y => s104 n x.1 x.2, false⟩
theorem s104_eq (n : Nat) (x : denL [(.pair (.slice .str) (.pair (.int .i64) (.slice (.pair .str (.pair (.slice (.int .i64)) (.slice .str)))))), (.pair .str (.slice (.int .i64)))]) (y : denL []) : funR (e19 n) Go.Proofs.Try.f104 [(.pair (.slice .str) (.pair (.int .i64) (.slice (.pair .str (.pair (.slice (.int .i64)) (.slice .str)))))), (.pair .str (.slice (.int .i64)))] [] [(.pair (.slice .str) (.pair (.int .i64) (.slice (.pair .str (.pair (.slice (.int .i64)) (.slice .str)))))), (.int .i64)] false [] x y = (s104_c n).fn x y := by kernel_rfl
theorem s104_ok (n : Nat) : ConOK Go.Proofs.Try.prog 104 (s104_c n) := func_ok (h19 n) hP Go.Proofs.Try.func104 (by kernel_rfl) (by kernel_rfl) (O := []) trivial (s104_eq n)
def e20 (n : Nat) : Env := ⟨gT, (104, s104_c n) :: (e19 n).C, gQ, (e19 n).I⟩
theorem h20 (n : Nat) : EnvOK Go.Proofs.Try.prog (e20 n) := env_add (h19 n) (s104_ok n)

def s100_l0 (n : Nat) (d : (List Int) × Int × Int × (List (List UInt8)) × Int × (List ((List UInt8) × (List Int) × (List (List UInt8)))) × (List Int) × Unit) (again : ((List Int) × Int × Int × (List (List UInt8)) × Int × (List ((List UInt8) × (List Int) × (List (List UInt8)))) × (List Int) × Unit) → Option ((List Int))) (ks : ((List Int) × Unit → Option ((List Int))) × Unit) : Option ((List Int)) :=
  match d, ks with
  | (t12, t13, t14, b, b_1, b_2, out, _), (k0, _) =>
  bif (decide (t14 < t13)) then
    (geti t12 t14).bind fun e =>
    (geti out (IntKind.wrap .i64 (((List.length out : Nat) : Int) - (1 : Int)))).bind fun e_1 =>
    (geti out (IntKind.wrap .i64 (((List.length out : Nat) : Int) - (1 : Int)))).bind fun x =>
    (geti b_2 x).bind fun e_2 =>
    (geti e_2.2.1 e).bind fun e_3 =>
    (chk (List.length out + List.length ([e_3] : List Int))).bind fun u =>
    again (t12, t13, (IntKind.wrap .i64 (t14 + (1 : Int))), b, b_1, b_2, (out ++ ([e_3] : List Int)), ())
  else
    k0 (out, ())

/-- (criadera/taste.book).walk -/
def s100 (n : Nat) (b : (List (List UInt8)) × Int × (List ((List UInt8) × (List Int) × (List (List UInt8))))) (marks : List Int) : Option ((List Int)) :=
  loopG (s100_l0 n) n (marks, ((List.length marks : Nat) : Int), (0 : Int), b.1, b.2.1, b.2.2, ([b.2.1] : List Int), ())
    (fun (out_1, _) =>
      some (out_1), ())

def s100_t0 : Templ := ⟨38, [(.slice (.int .i64)), (.int .i64), (.int .i64), (.slice .str), (.int .i64), (.slice (.pair .str (.pair (.slice (.int .i64)) (.slice .str)))), (.slice (.int .i64))], [(2, .v (.bptr 38 0)), (5, .v (.hand 39)), (12, .v (.hole (.slice (.int .i64)))), (13, .v (.hole (.int .i64))), (14, .v (.hole (.int .i64)))], [(38, .box (.pair (.slice .str) (.pair (.int .i64) (.slice (.pair .str (.pair (.slice (.int .i64)) (.slice .str)))))) [.hole (.slice .str), .hole (.int .i64), .hole (.slice (.pair .str (.pair (.slice (.int .i64)) (.slice .str))))]), (39, .buf (.int .i64))], []⟩
def s100_x0 : List (Way × Templ) := [(.exit 0, ⟨38, [(.slice (.int .i64))], [(5, .v (.hand 38))], [(38, .buf (.int .i64))], []⟩)]
def s100_o0 (n : Nat) : Ev (denL [(.slice (.int .i64))]) := loopO n (e20 n) s100_t0 s100_x0 (s100_l0 n)
theorem s100_b0 (n : Nat) (d) (again) (ks) : codeR (R := (denL [(.slice (.int .i64))])) (e20 n) (Hdl.no (R := (denL [(.slice (.int .i64))]))) (inn (lp (bd Go.Proofs.Try.f100) 0)) [] (mk s100_t0 d) (turnR (e20 n) s100_t0 s100_x0 again ks) = s100_l0 n d again ks := by kernel_rfl
theorem s100_s0 (n : Nat) : Sound Go.Proofs.Try.prog (Hdl.no (R := (denL [(.slice (.int .i64))]))) false (lp (bd Go.Proofs.Try.f100) 0) (s100_o0 n) := loop_ok (h20 n) hP (by kernel_rfl) (O := []) trivial (s100_b0 n)
def s100_c (n : Nat) : Con := ⟨[(.pair (.slice .str) (.pair (.int .i64) (.slice (.pair .str (.pair (.slice (.int .i64)) (.slice .str)))))), (.slice (.int .i64))], [], [(.slice (.int .i64))], fun x y => s100 n x.1 x.2, false⟩
theorem s100_eq (n : Nat) (x : denL [(.pair (.slice .str) (.pair (.int .i64) (.slice (.pair .str (.pair (.slice (.int .i64)) (.slice .str)))))), (.slice (.int .i64))]) (y : denL []) : funR (e20 n) Go.Proofs.Try.f100 [(.pair (.slice .str) (.pair (.int .i64) (.slice (.pair .str (.pair (.slice (.int .i64)) (.slice .str)))))), (.slice (.int .i64))] [] [(.slice (.int .i64))] false [s100_o0 n] x y = (s100_c n).fn x y := by kernel_rfl
theorem s100_ok (n : Nat) : ConOK Go.Proofs.Try.prog 100 (s100_c n) := func_ok (h20 n) hP Go.Proofs.Try.func100 (by kernel_rfl) (by kernel_rfl) (O := [s100_o0 n]) ⟨s100_s0 n, trivial⟩ (s100_eq n)
def e21 (n : Nat) : Env := ⟨gT, (100, s100_c n) :: (e20 n).C, gQ, (e20 n).I⟩
theorem h21 (n : Nat) : EnvOK Go.Proofs.Try.prog (e21 n) := env_add (h20 n) (s100_ok n)

/-- criadera/taste.ClassOf -/
def s41 (n : Nat) (b : (List (List UInt8)) × Int × (List ((List UInt8) × (List Int) × (List (List UInt8))))) (s : (List UInt8) × (List Int)) : Option ((List UInt8) × Int) :=
  (s104 n (b.1, (b.2.1, b.2.2)) (s.1, s.2)).bind fun x =>
  bif (x.2 != (0 : Int)) then
    some ([], x.2)
  else
    (s100 n (x.1.1, (x.1.2.1, x.1.2.2)) s.2).bind fun x_1 =>
    (geti x_1 (IntKind.wrap .i64 (((List.length x_1 : Nat) : Int) - (1 : Int)))).bind fun e =>
    (geti x.1.2.2 e).bind fun e_1 =>
    some (e_1.1, (0 : Int))

def s41_c (n : Nat) : Con := ⟨[(.pair (.slice .str) (.pair (.int .i64) (.slice (.pair .str (.pair (.slice (.int .i64)) (.slice .str)))))), (.pair .str (.slice (.int .i64)))], [], [.str, (.int .i64)], fun x y => s41 n x.1 x.2, false⟩
theorem s41_eq (n : Nat) (x : denL [(.pair (.slice .str) (.pair (.int .i64) (.slice (.pair .str (.pair (.slice (.int .i64)) (.slice .str)))))), (.pair .str (.slice (.int .i64)))]) (y : denL []) : funR (e21 n) Go.Proofs.Try.f41 [(.pair (.slice .str) (.pair (.int .i64) (.slice (.pair .str (.pair (.slice (.int .i64)) (.slice .str)))))), (.pair .str (.slice (.int .i64)))] [] [.str, (.int .i64)] false [] x y = (s41_c n).fn x y := by kernel_rfl
theorem s41_ok (n : Nat) : ConOK Go.Proofs.Try.prog 41 (s41_c n) := func_ok (h21 n) hP Go.Proofs.Try.func41 (by kernel_rfl) (by kernel_rfl) (O := []) trivial (s41_eq n)
def e22 (n : Nat) : Env := ⟨gT, (41, s41_c n) :: (e21 n).C, gQ, (e21 n).I⟩
theorem h22 (n : Nat) : EnvOK Go.Proofs.Try.prog (e22 n) := env_add (h21 n) (s41_ok n)

/-- (criadera/taste.book).next -/
def s114 (n : Nat) (b : (List (List UInt8)) × Int × (List ((List UInt8) × (List Int) × (List (List UInt8))))) (v_class : Int) (mark : Int) : Option (Int) :=
  (geti b.2.2 v_class).bind fun e =>
  (geti e.2.1 mark).bind fun e_1 =>
  some (e_1)

def s114_c (n : Nat) : Con := ⟨[(.pair (.slice .str) (.pair (.int .i64) (.slice (.pair .str (.pair (.slice (.int .i64)) (.slice .str)))))), (.int .i64), (.int .i64)], [], [(.int .i64)], fun x y => s114 n x.1 x.2.1 x.2.2, false⟩
theorem s114_eq (n : Nat) (x : denL [(.pair (.slice .str) (.pair (.int .i64) (.slice (.pair .str (.pair (.slice (.int .i64)) (.slice .str)))))), (.int .i64), (.int .i64)]) (y : denL []) : funR (e22 n) Go.Proofs.Try.f114 [(.pair (.slice .str) (.pair (.int .i64) (.slice (.pair .str (.pair (.slice (.int .i64)) (.slice .str)))))), (.int .i64), (.int .i64)] [] [(.int .i64)] false [] x y = (s114_c n).fn x y := by kernel_rfl
theorem s114_ok (n : Nat) : ConOK Go.Proofs.Try.prog 114 (s114_c n) := func_ok (h22 n) hP Go.Proofs.Try.func114 (by kernel_rfl) (by kernel_rfl) (O := []) trivial (s114_eq n)
def e23 (n : Nat) : Env := ⟨gT, (114, s114_c n) :: (e22 n).C, gQ, (e22 n).I⟩
theorem h23 (n : Nat) : EnvOK Go.Proofs.Try.prog (e23 n) := env_add (h22 n) (s114_ok n)

def e24 (n : Nat) : Env := ⟨gT, (135, s135_c n) :: (e23 n).C, gQ, (e23 n).I⟩
theorem h24 (n : Nat) : EnvOK Go.Proofs.Try.prog (e24 n) := env_add (h23 n) (s135_ok n)

def s140_l0_0 (n : Nat) (d : Int × (Int → Int → Option Int) × Int × Int × (List (Int × Bool)) × (List (Int × (List Int))) × Int × (List Int) × Unit) (again : (Int × (Int → Int → Option Int) × Int × Int × (List (Int × Bool)) × (List (Int × (List Int))) × Int × (List Int) × Unit) → Option (List ((Int × (List Int))))) (ks : (Int × (Int → Int → Option Int) × (List (Int × Bool)) × (List (Int × (List Int))) × Unit → Option (List ((Int × (List Int))))) × Unit) : Option (List ((Int × (List Int)))) :=
  match d, ks with
  | (t2, t3, t28, t29, seen, queue, t7, t7_1, _), (k0, _) =>
  bif (decide (t29 < t28)) then
    (t3 t7 t29).bind fun x =>
    bif (!(Option.getD (mget seen x) false)) then
      (s135 n t7_1).bind fun x_1 =>
      (chk (List.length x_1 + List.length ([t29] : List Int))).bind fun u =>
      (chk (List.length queue + List.length ([(x, (x_1 ++ ([t29] : List Int)))] : List (Int × (List Int))))).bind fun u_1 =>
      again (t2, t3, t28, (IntKind.wrap .i64 (t29 + (1 : Int))), (mput seen x true), (queue ++ ([(x, (x_1 ++ ([t29] : List Int)))] : List (Int × (List Int)))), t7, t7_1, ())
    else
      again (t2, t3, t28, (IntKind.wrap .i64 (t29 + (1 : Int))), seen, queue, t7, t7_1, ())
  else
    k0 (t2, t3, seen, queue, ())

def s140_l0 (n : Nat) (d : Int × (Int → Int → Option Int) × (List (Int × Bool)) × (List (Int × (List Int))) × Unit) (again : (Int × (Int → Int → Option Int) × (List (Int × Bool)) × (List (Int × (List Int))) × Unit) → Option (List ((Int × (List Int))))) (ks : (Unit → Option (List ((Int × (List Int))))) × (Unit → Option (List ((Int × (List Int))))) × Unit) : Option (List ((Int × (List Int)))) :=
  match d, ks with
  | (t2, t3, seen, queue, _), (k0, k1, _) =>
  bif (decide (((List.length queue : Nat) : Int) > (0 : Int))) then
    (geti queue (0 : Int)).bind fun e =>
    (geti queue (0 : Int)).bind fun x =>
    (cut queue (1 : Int) ((List.length queue : Nat) : Int)).bind fun x_1 =>
    emitL (α := (Int × (List Int))) (x.1, x.2) (
        loopG (s140_l0_0 n) n (t2, t3, t2, (0 : Int), seen, x_1, x.1, x.2, ())
          (fun (t2_2, t3_2, seen_2, queue_2, _) =>
            again (t2_2, t3_2, seen_2, queue_2, ()), ())
      ) (
        k1 (())
      )
  else
    k0 (())

/-- criadera/taste.search[int]$1 -/
def s140 (n : Nat) (c0 : Int) (c1 : Int) (c2 : Int → Int → Option Int) : Option (List ((Int × (List Int)))) :=
  loopG (s140_l0 n) n (c1, c2, (mput ([] : List (Int × Bool)) c0 true), ([(c0, ([] : List Int))] : List (Int × (List Int))), ())
    (fun (_) =>
      some [],
    fun (_) =>
      some [], ())

def s140_t0_0 : Templ := ⟨55, [(.int .i64), (.fn2 (.int .i64) (.int .i64) (.int .i64)), (.int .i64), (.int .i64), (.map (.int .i64) .bool), (.slice (.pair (.int .i64) (.slice (.int .i64)))), (.int .i64), (.slice (.int .i64))], [(0, .v (.yld)), (2, .v (.pp (.int .i64))), (3, .v (.pp (.fn2 (.int .i64) (.int .i64) (.int .i64)))), (5, .v (.hand 55)), (6, .v (.hand 56)), (7, .v (.bptr 57 0)), (28, .v (.hole (.int .i64))), (29, .v (.hole (.int .i64)))], [(55, .map (.int .i64) .bool), (56, .buf (.pair (.int .i64) (.slice (.int .i64)))), (57, .box (.pair (.int .i64) (.slice (.int .i64))) [.hole (.int .i64), .hole (.slice (.int .i64))])], []⟩
def s140_x0_0 : List (Way × Templ) := [(.exit 2, ⟨55, [(.int .i64), (.fn2 (.int .i64) (.int .i64) (.int .i64)), (.map (.int .i64) .bool), (.slice (.pair (.int .i64) (.slice (.int .i64))))], [(0, .v (.yld)), (2, .v (.pp (.int .i64))), (3, .v (.pp (.fn2 (.int .i64) (.int .i64) (.int .i64)))), (5, .v (.hand 55)), (6, .v (.hand 56))], [(55, .map (.int .i64) .bool), (56, .buf (.pair (.int .i64) (.slice (.int .i64))))], []⟩)]
def s140_o0_0 (n : Nat) : Ev (List (denL [(.pair (.int .i64) (.slice (.int .i64)))])) := loopO n (e24 n) s140_t0_0 s140_x0_0 (s140_l0_0 n)
theorem s140_b0_0 (n : Nat) (d) (again) (ks) : codeR (R := (List (denL [(.pair (.int .i64) (.slice (.int .i64)))]))) (e24 n) (hdlL [(.pair (.int .i64) (.slice (.int .i64)))]) (inn (lp (inn (lp (bd Go.Proofs.Try.f140) 0)) 0)) [] (mk s140_t0_0 d) (turnR (e24 n) s140_t0_0 s140_x0_0 again ks) = s140_l0_0 n d again ks := by kernel_rfl
theorem s140_s0_0 (n : Nat) : Sound Go.Proofs.Try.prog (hdlL [(.pair (.int .i64) (.slice (.int .i64)))]) false (lp (inn (lp (bd Go.Proofs.Try.f140) 0)) 0) (s140_o0_0 n) := loop_ok (h24 n) hP (by kernel_rfl) (O := []) trivial (s140_b0_0 n)
def s140_t0 : Templ := ⟨55, [(.int .i64), (.fn2 (.int .i64) (.int .i64) (.int .i64)), (.map (.int .i64) .bool), (.slice (.pair (.int .i64) (.slice (.int .i64))))], [(0, .v (.yld)), (2, .v (.pp (.int .i64))), (3, .v (.pp (.fn2 (.int .i64) (.int .i64) (.int .i64)))), (5, .v (.hand 55)), (6, .v (.hand 56))], [(55, .map (.int .i64) .bool), (56, .buf (.pair (.int .i64) (.slice (.int .i64))))], []⟩
def s140_x0 : List (Way × Templ) := [(.exit 0, ⟨55, [], [], [], []⟩), (.ret, ⟨55, [], [], [], []⟩)]
def s140_o0 (n : Nat) : Ev (List (denL [(.pair (.int .i64) (.slice (.int .i64)))])) := loopO n (e24 n) s140_t0 s140_x0 (s140_l0 n)
theorem s140_b0 (n : Nat) (d) (again) (ks) : codeR (R := (List (denL [(.pair (.int .i64) (.slice (.int .i64)))]))) (e24 n) (hdlL [(.pair (.int .i64) (.slice (.int .i64)))]) (inn (lp (bd Go.Proofs.Try.f140) 0)) [s140_o0_0 n] (mk s140_t0 d) (turnR (e24 n) s140_t0 s140_x0 again ks) = s140_l0 n d again ks := by kernel_rfl
theorem s140_s0 (n : Nat) : Sound Go.Proofs.Try.prog (hdlL [(.pair (.int .i64) (.slice (.int .i64)))]) false (lp (bd Go.Proofs.Try.f140) 0) (s140_o0 n) := loop_ok (h24 n) hP (by kernel_rfl) (O := [s140_o0_0 n]) ⟨s140_s0_0 n, trivial⟩ (s140_b0 n)
def s140_i (n : Nat) : ICon := ⟨[(.int .i64), (.int .i64), (.fn2 (.int .i64) (.int .i64) (.int .i64))], (.seq (.pair (.int .i64) (.slice (.int .i64)))), fun y => s140 n y.1 y.2.1 y.2.2⟩
theorem s140_eq (n : Nat) (y : denL [(.int .i64), (.int .i64), (.fn2 (.int .i64) (.int .i64) (.int .i64))]) : iterR (e24 n) Go.Proofs.Try.f140 [(.pair (.int .i64) (.slice (.int .i64)))] [(.int .i64), (.int .i64), (.fn2 (.int .i64) (.int .i64) (.int .i64))] [s140_o0 n] y = (s140_i n).fn y := by kernel_rfl
theorem s140_ok (n : Nat) : IConOK Go.Proofs.Try.prog 140 (s140_i n) := itf1_ok (h24 n) hP Go.Proofs.Try.func140 (by kernel_rfl) (by kernel_rfl) (O := [s140_o0 n]) ⟨s140_s0 n, trivial⟩ (s140_eq n)
def e25 (n : Nat) : Env := ⟨gT, (e24 n).C, gQ, (140, s140_i n) :: (e24 n).I⟩
theorem h25 (n : Nat) : EnvOK Go.Proofs.Try.prog (e25 n) := env_it (h24 n) (s140_ok n)

/-- criadera/taste.search[int] -/
def s118 (n : Nat) (v_begin : Int) (marks : Int) (next : Int → Int → Option Int) : Option ((List (Int × (List Int)))) :=
  (s140 n v_begin marks next).bind fun x =>
  some (x)

def s118_c (n : Nat) : Con := ⟨[(.int .i64), (.int .i64), (.fn2 (.int .i64) (.int .i64) (.int .i64))], [], [(.seq (.pair (.int .i64) (.slice (.int .i64))))], fun x y => s118 n x.1 x.2.1 x.2.2, false⟩
theorem s118_eq (n : Nat) (x : denL [(.int .i64), (.int .i64), (.fn2 (.int .i64) (.int .i64) (.int .i64))]) (y : denL []) : funR (e25 n) Go.Proofs.Try.f118 [(.int .i64), (.int .i64), (.fn2 (.int .i64) (.int .i64) (.int .i64))] [] [(.seq (.pair (.int .i64) (.slice (.int .i64))))] false [] x y = (s118_c n).fn x y := by kernel_rfl
theorem s118_ok (n : Nat) : ConOK Go.Proofs.Try.prog 118 (s118_c n) := func_ok (h25 n) hP Go.Proofs.Try.func118 (by kernel_rfl) (by kernel_rfl) (O := []) trivial (s118_eq n)
def e26 (n : Nat) : Env := ⟨gT, (118, s118_c n) :: (e25 n).C, gQ, (e25 n).I⟩
theorem h26 (n : Nat) : EnvOK Go.Proofs.Try.prog (e26 n) := env_add (h25 n) (s118_ok n)

/-- (criadera/taste.book).from -/
def s83 (n : Nat) (b : (List (List UInt8)) × Int × (List ((List UInt8) × (List Int) × (List (List UInt8))))) (v_class : Int) : Option ((List (Int × (List Int)))) :=
  (s118 n v_class ((List.length b.1 : Nat) : Int) (fun y0 y1 => s114 n (b.1, (b.2.1, b.2.2)) y0 y1)).bind fun x =>
  some (x)

def s83_c (n : Nat) : Con := ⟨[(.pair (.slice .str) (.pair (.int .i64) (.slice (.pair .str (.pair (.slice (.int .i64)) (.slice .str)))))), (.int .i64)], [], [(.seq (.pair (.int .i64) (.slice (.int .i64))))], fun x y => s83 n x.1 x.2, false⟩
theorem s83_eq (n : Nat) (x : denL [(.pair (.slice .str) (.pair (.int .i64) (.slice (.pair .str (.pair (.slice (.int .i64)) (.slice .str)))))), (.int .i64)]) (y : denL []) : funR (e26 n) Go.Proofs.Try.f83 [(.pair (.slice .str) (.pair (.int .i64) (.slice (.pair .str (.pair (.slice (.int .i64)) (.slice .str)))))), (.int .i64)] [] [(.seq (.pair (.int .i64) (.slice (.int .i64))))] false [] x y = (s83_c n).fn x y := by kernel_rfl
theorem s83_ok (n : Nat) : ConOK Go.Proofs.Try.prog 83 (s83_c n) := func_ok (h26 n) hP Go.Proofs.Try.func83 (by kernel_rfl) (by kernel_rfl) (O := []) trivial (s83_eq n)
def e27 (n : Nat) : Env := ⟨gT, (83, s83_c n) :: (e26 n).C, gQ, (e26 n).I⟩
theorem h27 (n : Nat) : EnvOK Go.Proofs.Try.prog (e27 n) := env_add (h26 n) (s83_ok n)

def s20_l0 (n : Nat) (d : (List (Int × (List Int))) × Int × Int × Unit) (y : Int × (List Int)) (again : ((List (Int × (List Int))) × Int × Int × Unit) → Option ((List Int) × Int)) (ks : ((List Int) × Int × Unit → Option ((List Int) × Int)) × Unit) : Option ((List Int) × Int) :=
  match d, ks with
  | (t30, v_class, t5, _), (k0, _) =>
  bif (y.1 == v_class) then
    k0 (y.2, (0 : Int), ())
  else
    again (t30, v_class, t5, ())

/-- criadera/taste.SheetTo -/
def s20 (n : Nat) (b : (List (List UInt8)) × Int × (List ((List UInt8) × (List Int) × (List (List UInt8))))) (v_class : Int) : Option ((List Int) × Int) :=
  (s79 n (b.1, (b.2.1, b.2.2))).bind fun x =>
  (s82 n v_class (0 : Int) (IntKind.wrap .i64 (((List.length b.2.2 : Nat) : Int) - (1 : Int)))).bind fun x_1 =>
  (s81 n x_1 (6 : Int)).bind fun x_2 =>
  (s80 n ([x.2, x_2] : List Int)).bind fun x_3 =>
  bif (x_3 != (0 : Int)) then
    some (([] : List Int), x_3)
  else
    (s83 n (x.1.1, (x.1.2.1, x.1.2.2)) b.2.1).bind fun x_4 =>
    rangeG (s20_l0 n) (fun (t4, t5_2, _) =>
        some (t4, t5_2), ()) (fun (t30_1, v_class_2, t5_1, _) =>
        some (([] : List Int), (12 : Int))) x_4 (x_4, v_class, (0 : Int), ())

def s20_t0 : Templ := ⟨38, [(.seq (.pair (.int .i64) (.slice (.int .i64)))), (.int .i64), (.int .i64)], [(3, .v (.bptr 38 0)), (4, .v (.bptr 39 0)), (5, .v (.bptr 40 0)), (30, .v (.hole (.seq (.pair (.int .i64) (.slice (.int .i64))))))], [(38, .box (.int .i64) [.hole (.int .i64)]), (39, .box (.slice (.int .i64)) [.nils]), (40, .box (.int .i64) [.hole (.int .i64)])], []⟩
def s20_x0 : List (Way × Templ) := [(.ret, ⟨38, [(.slice (.int .i64)), (.int .i64)], [(4, .v (.bptr 38 0)), (5, .v (.bptr 39 0))], [(38, .box (.slice (.int .i64)) [.hole (.slice (.int .i64))]), (39, .box (.int .i64) [.hole (.int .i64)])], []⟩)]
theorem s20_b0 (n : Nat) (d) (x) (again) (ks) : codeR (R := (denL [(.slice (.int .i64)), (.int .i64)])) (e27 n) (Hdl.no (R := (denL [(.slice (.int .i64)), (.int .i64)]))) (rgA (lp (bd Go.Proofs.Try.f20) 0)) [] (mkB s20_t0 [3, 4, 5, 30] 31 (.pair (.int .i64) (.slice (.int .i64))) d x) (thenB fun st => codeR (R := (denL [(.slice (.int .i64)), (.int .i64)])) (e27 n) (Hdl.no (R := (denL [(.slice (.int .i64)), (.int .i64)]))) (rgB (lp (bd Go.Proofs.Try.f20) 0)) [] st (turnB (e27 n) s20_t0 [3, 4, 5, 30] s20_x0 again ks)) = s20_l0 n d x again ks := by kernel_rfl
theorem s20_s0 (n : Nat) : Sound Go.Proofs.Try.prog (Hdl.no (R := (denL [(.slice (.int .i64)), (.int .i64)]))) false (lp (bd Go.Proofs.Try.f20) 0) ((fun n => rangeO (R := (denL [(.slice (.int .i64)), (.int .i64)])) (e27 n) (.pair (.int .i64) (.slice (.int .i64))) (rgG (lp (bd Go.Proofs.Try.f20) 0)) s20_t0 s20_x0 (s20_l0 n)) n) := range_ok (h27 n) hP (p := 31) (F := [3, 4, 5, 30]) (Oa := []) (Ob := []) (by kernel_rfl) rfl (by decide) (by decide) rfl trivial trivial (s20_b0 n)
def s20_c (n : Nat) : Con := ⟨[(.pair (.slice .str) (.pair (.int .i64) (.slice (.pair .str (.pair (.slice (.int .i64)) (.slice .str)))))), (.int .i64)], [], [(.slice (.int .i64)), (.int .i64)], fun x y => s20 n x.1 x.2, false⟩
theorem s20_eq (n : Nat) (x : denL [(.pair (.slice .str) (.pair (.int .i64) (.slice (.pair .str (.pair (.slice (.int .i64)) (.slice .str)))))), (.int .i64)]) (y : denL []) : funR (e27 n) Go.Proofs.Try.f20 [(.pair (.slice .str) (.pair (.int .i64) (.slice (.pair .str (.pair (.slice (.int .i64)) (.slice .str)))))), (.int .i64)] [] [(.slice (.int .i64)), (.int .i64)] false [(fun n => rangeO (R := (denL [(.slice (.int .i64)), (.int .i64)])) (e27 n) (.pair (.int .i64) (.slice (.int .i64))) (rgG (lp (bd Go.Proofs.Try.f20) 0)) s20_t0 s20_x0 (s20_l0 n)) n] x y = (s20_c n).fn x y := by kernel_rfl
theorem s20_ok (n : Nat) : ConOK Go.Proofs.Try.prog 20 (s20_c n) := func_ok (h27 n) hP Go.Proofs.Try.func20 (by kernel_rfl) (by kernel_rfl) (O := [(fun n => rangeO (R := (denL [(.slice (.int .i64)), (.int .i64)])) (e27 n) (.pair (.int .i64) (.slice (.int .i64))) (rgG (lp (bd Go.Proofs.Try.f20) 0)) s20_t0 s20_x0 (s20_l0 n)) n]) ⟨s20_s0 n, trivial⟩ (s20_eq n)
def e28 (n : Nat) : Env := ⟨gT, (20, s20_c n) :: (e27 n).C, gQ, (e27 n).I⟩
theorem h28 (n : Nat) : EnvOK Go.Proofs.Try.prog (e28 n) := env_add (h27 n) (s20_ok n)

/-- criadera/criaderalaw07.Panel -/
def s78 (n : Nat) : Option ((Int × Int × (List Int) × (List (List Int)))) :=
  some (((2 : Int), ((2 : Int), (([(0 : Int), (1 : Int), (0 : Int), (1 : Int), (0 : Int)] : List Int), ([([(0 : Int), (1 : Int), (0 : Int), (0 : Int), (1 : Int)] : List Int), ([(0 : Int), (1 : Int), (0 : Int), (1 : Int), (0 : Int)] : List Int)] : List (List Int))))))

def s78_c (n : Nat) : Con := ⟨[], [], [(.pair (.int .i64) (.pair (.int .i64) (.pair (.slice (.int .i64)) (.slice (.slice (.int .i64))))))], fun x y => s78 n, false⟩
theorem s78_eq (n : Nat) (x : denL []) (y : denL []) : funR (e28 n) Go.Proofs.Try.f78 [] [] [(.pair (.int .i64) (.pair (.int .i64) (.pair (.slice (.int .i64)) (.slice (.slice (.int .i64))))))] false [] x y = (s78_c n).fn x y := by kernel_rfl
theorem s78_ok (n : Nat) : ConOK Go.Proofs.Try.prog 78 (s78_c n) := func_ok (h28 n) hP Go.Proofs.Try.func78 (by kernel_rfl) (by kernel_rfl) (O := []) trivial (s78_eq n)
def e29 (n : Nat) : Env := ⟨gT, (78, s78_c n) :: (e28 n).C, gQ, (e28 n).I⟩
theorem h29 (n : Nat) : EnvOK Go.Proofs.Try.prog (e29 n) := env_add (h28 n) (s78_ok n)

/-- criadera/taste.CheckPanel$1 -/
def s107 (n : Nat) (v_n : Int) (c0 : Int × Int × (List Int) × (List (List Int))) : Option (Bool) :=
  (s82 n v_n (0 : Int) (IntKind.wrap .i64 (c0.1 - (1 : Int)))).bind fun x =>
  some ((!x))

def s107_c (n : Nat) : Con := ⟨[(.int .i64)], [(.pair (.int .i64) (.pair (.int .i64) (.pair (.slice (.int .i64)) (.slice (.slice (.int .i64))))))], [.bool], fun x y => s107 n x y, false⟩
theorem s107_eq (n : Nat) (x : denL [(.int .i64)]) (y : denL [(.pair (.int .i64) (.pair (.int .i64) (.pair (.slice (.int .i64)) (.slice (.slice (.int .i64))))))]) : funR (e29 n) Go.Proofs.Try.f107 [(.int .i64)] [(.pair (.int .i64) (.pair (.int .i64) (.pair (.slice (.int .i64)) (.slice (.slice (.int .i64))))))] [.bool] false [] x y = (s107_c n).fn x y := by kernel_rfl
theorem s107_ok (n : Nat) : ConOK Go.Proofs.Try.prog 107 (s107_c n) := func_ok (h29 n) hP Go.Proofs.Try.func107 (by kernel_rfl) (by kernel_rfl) (O := []) trivial (s107_eq n)
def e30 (n : Nat) : Env := ⟨gT, (107, s107_c n) :: (e29 n).C, gQ, (e29 n).I⟩
theorem h30 (n : Nat) : EnvOK Go.Proofs.Try.prog (e30 n) := env_add (h29 n) (s107_ok n)

/-- criadera/taste.CheckPanel$2 -/
def s108 (n : Nat) (v_n : Int) (c0 : Int × Int × (List Int) × (List (List Int))) : Option (Bool) :=
  (s82 n v_n (0 : Int) (IntKind.wrap .i64 (c0.2.1 - (1 : Int)))).bind fun x =>
  some ((!x))

def s108_c (n : Nat) : Con := ⟨[(.int .i64)], [(.pair (.int .i64) (.pair (.int .i64) (.pair (.slice (.int .i64)) (.slice (.slice (.int .i64))))))], [.bool], fun x y => s108 n x y, false⟩
theorem s108_eq (n : Nat) (x : denL [(.int .i64)]) (y : denL [(.pair (.int .i64) (.pair (.int .i64) (.pair (.slice (.int .i64)) (.slice (.slice (.int .i64))))))]) : funR (e30 n) Go.Proofs.Try.f108 [(.int .i64)] [(.pair (.int .i64) (.pair (.int .i64) (.pair (.slice (.int .i64)) (.slice (.slice (.int .i64))))))] [.bool] false [] x y = (s108_c n).fn x y := by kernel_rfl
theorem s108_ok (n : Nat) : ConOK Go.Proofs.Try.prog 108 (s108_c n) := func_ok (h30 n) hP Go.Proofs.Try.func108 (by kernel_rfl) (by kernel_rfl) (O := []) trivial (s108_eq n)
def e31 (n : Nat) : Env := ⟨gT, (108, s108_c n) :: (e30 n).C, gQ, (e30 n).I⟩
theorem h31 (n : Nat) : EnvOK Go.Proofs.Try.prog (e31 n) := env_add (h30 n) (s108_ok n)

def s50_l0 (n : Nat) (d : (Int × Int × (List Int) × (List (List Int))) × (List (List Int)) × Int × Int × Unit) (again : ((Int × Int × (List Int) × (List (List Int))) × (List (List Int)) × Int × Int × Unit) → Option (Int × Int)) (ks : (Unit → Option (Int × Int)) × (Int × Int × Unit → Option (Int × Int)) × Unit) : Option (Int × Int) :=
  match d, ks with
  | (p, t58, t59, t60, _), (k0, k1, _) =>
  bif (decide (t60 < t59)) then
    (geti t58 t60).bind fun e =>
    (s94 n e (fun y0 => s108 n y0 p)).bind fun x =>
    (s81 n (((List.length e : Nat) : Int) == ((List.length p.2.2.1 : Nat) : Int)) (10 : Int)).bind fun x_1 =>
    (s81 n (!x) (6 : Int)).bind fun x_2 =>
    (s80 n ([x_1, x_2] : List Int)).bind fun x_3 =>
    bif (x_3 != (0 : Int)) then
      k1 (t60, x_3, ())
    else
      again (p, t58, t59, (IntKind.wrap .i64 (t60 + (1 : Int))), ())
  else
    k0 (())

/-- criadera/taste.CheckPanel -/
def s50 (n : Nat) (p : Int × Int × (List Int) × (List (List Int))) : Option (Int × Int) :=
  (s82 n p.1 (1 : Int) (30 : Int)).bind fun x =>
  (part x (s82 n p.2.1 (1 : Int) (6 : Int)) false).bind fun x_1 =>
  (s94 n p.2.2.1 (fun y0 => s107 n y0 (p.1, (p.2.1, (p.2.2.1, p.2.2.2))))).bind fun x_2 =>
  (s81 n (x && x_1) (2 : Int)).bind fun x_3 =>
  (s81 n ((decide (((List.length p.2.2.1 : Nat) : Int) > (0 : Int))) && (decide (((List.length p.2.2.2 : Nat) : Int) > (0 : Int)))) (10 : Int)).bind fun x_4 =>
  (s81 n ((decide (((List.length p.2.2.1 : Nat) : Int) ≤ (30 : Int))) && (decide (((List.length p.2.2.2 : Nat) : Int) ≤ (8 : Int)))) (8 : Int)).bind fun x_5 =>
  (s81 n (!x_2) (6 : Int)).bind fun x_6 =>
  (s80 n ([x_3, x_4, x_5, x_6] : List Int)).bind fun x_7 =>
  bif (x_7 != (0 : Int)) then
    some ((0 : Int), x_7)
  else
    loopG (s50_l0 n) n ((p.1, (p.2.1, (p.2.2.1, p.2.2.2))), p.2.2.2, ((List.length p.2.2.2 : Nat) : Int), (0 : Int), ())
      (fun (_) =>
        some ((0 : Int), (0 : Int)),
      fun (t2, t3, _) =>
        some (t2, t3), ())

def s50_t0 : Templ := ⟨85, [(.pair (.int .i64) (.pair (.int .i64) (.pair (.slice (.int .i64)) (.slice (.slice (.int .i64)))))), (.slice (.slice (.int .i64))), (.int .i64), (.int .i64)], [(1, .v (.pp (.pair (.int .i64) (.pair (.int .i64) (.pair (.slice (.int .i64)) (.slice (.slice (.int .i64)))))))), (58, .v (.hole (.slice (.slice (.int .i64))))), (59, .v (.hole (.int .i64))), (60, .v (.hole (.int .i64)))], [], []⟩
def s50_x0 : List (Way × Templ) := [(.exit 0, ⟨85, [], [], [], []⟩), (.ret, ⟨85, [(.int .i64), (.int .i64)], [(2, .v (.hole (.int .i64))), (3, .v (.hole (.int .i64)))], [], []⟩)]
def s50_o0 (n : Nat) : Ev (denL [(.int .i64), (.int .i64)]) := loopO n (e31 n) s50_t0 s50_x0 (s50_l0 n)
theorem s50_b0 (n : Nat) (d) (again) (ks) : codeR (R := (denL [(.int .i64), (.int .i64)])) (e31 n) (Hdl.no (R := (denL [(.int .i64), (.int .i64)]))) (inn (lp (bd Go.Proofs.Try.f50) 0)) [] (mk s50_t0 d) (turnR (e31 n) s50_t0 s50_x0 again ks) = s50_l0 n d again ks := by kernel_rfl
theorem s50_s0 (n : Nat) : Sound Go.Proofs.Try.prog (Hdl.no (R := (denL [(.int .i64), (.int .i64)]))) false (lp (bd Go.Proofs.Try.f50) 0) (s50_o0 n) := loop_ok (h31 n) hP (by kernel_rfl) (O := []) trivial (s50_b0 n)
def s50_c (n : Nat) : Con := ⟨[(.pair (.int .i64) (.pair (.int .i64) (.pair (.slice (.int .i64)) (.slice (.slice (.int .i64))))))], [], [(.int .i64), (.int .i64)], fun x y => s50 n x, false⟩
theorem s50_eq (n : Nat) (x : denL [(.pair (.int .i64) (.pair (.int .i64) (.pair (.slice (.int .i64)) (.slice (.slice (.int .i64))))))]) (y : denL []) : funR (e31 n) Go.Proofs.Try.f50 [(.pair (.int .i64) (.pair (.int .i64) (.pair (.slice (.int .i64)) (.slice (.slice (.int .i64))))))] [] [(.int .i64), (.int .i64)] false [s50_o0 n] x y = (s50_c n).fn x y := by kernel_rfl
theorem s50_ok (n : Nat) : ConOK Go.Proofs.Try.prog 50 (s50_c n) := func_ok (h31 n) hP Go.Proofs.Try.func50 (by kernel_rfl) (by kernel_rfl) (O := [s50_o0 n]) ⟨s50_s0 n, trivial⟩ (s50_eq n)
def e32 (n : Nat) : Env := ⟨gT, (50, s50_c n) :: (e31 n).C, gQ, (e31 n).I⟩
theorem h32 (n : Nat) : EnvOK Go.Proofs.Try.prog (e32 n) := env_add (h31 n) (s50_ok n)

/-- criadera/taste.openPanel -/
def s89 (n : Nat) (p : Int × Int × (List Int) × (List (List Int))) : Option ((Int × Int × (List Int) × (List (List Int))) × Int) :=
  (s50 n (p.1, (p.2.1, (p.2.2.1, p.2.2.2)))).bind fun x =>
  some ((p.1, (p.2.1, (p.2.2.1, p.2.2.2))), x.2)

def s89_c (n : Nat) : Con := ⟨[(.pair (.int .i64) (.pair (.int .i64) (.pair (.slice (.int .i64)) (.slice (.slice (.int .i64))))))], [], [(.pair (.int .i64) (.pair (.int .i64) (.pair (.slice (.int .i64)) (.slice (.slice (.int .i64)))))), (.int .i64)], fun x y => s89 n x, false⟩
theorem s89_eq (n : Nat) (x : denL [(.pair (.int .i64) (.pair (.int .i64) (.pair (.slice (.int .i64)) (.slice (.slice (.int .i64))))))]) (y : denL []) : funR (e32 n) Go.Proofs.Try.f89 [(.pair (.int .i64) (.pair (.int .i64) (.pair (.slice (.int .i64)) (.slice (.slice (.int .i64))))))] [] [(.pair (.int .i64) (.pair (.int .i64) (.pair (.slice (.int .i64)) (.slice (.slice (.int .i64)))))), (.int .i64)] false [] x y = (s89_c n).fn x y := by kernel_rfl
theorem s89_ok (n : Nat) : ConOK Go.Proofs.Try.prog 89 (s89_c n) := func_ok (h32 n) hP Go.Proofs.Try.func89 (by kernel_rfl) (by kernel_rfl) (O := []) trivial (s89_eq n)
def e33 (n : Nat) : Env := ⟨gT, (89, s89_c n) :: (e32 n).C, gQ, (e32 n).I⟩
theorem h33 (n : Nat) : EnvOK Go.Proofs.Try.prog (e33 n) := env_add (h32 n) (s89_ok n)

/-- (criadera/taste.panel).tasterErr -/
def s90 (n : Nat) (p : Int × Int × (List Int) × (List (List Int))) (v_n : Int) : Option (Int) :=
  (s82 n v_n (0 : Int) (IntKind.wrap .i64 (((List.length p.2.2.2 : Nat) : Int) - (1 : Int)))).bind fun x =>
  (s81 n x (6 : Int)).bind fun x_1 =>
  some (x_1)

def s90_c (n : Nat) : Con := ⟨[(.pair (.int .i64) (.pair (.int .i64) (.pair (.slice (.int .i64)) (.slice (.slice (.int .i64)))))), (.int .i64)], [], [(.int .i64)], fun x y => s90 n x.1 x.2, false⟩
theorem s90_eq (n : Nat) (x : denL [(.pair (.int .i64) (.pair (.int .i64) (.pair (.slice (.int .i64)) (.slice (.slice (.int .i64)))))), (.int .i64)]) (y : denL []) : funR (e33 n) Go.Proofs.Try.f90 [(.pair (.int .i64) (.pair (.int .i64) (.pair (.slice (.int .i64)) (.slice (.slice (.int .i64)))))), (.int .i64)] [] [(.int .i64)] false [] x y = (s90_c n).fn x y := by kernel_rfl
theorem s90_ok (n : Nat) : ConOK Go.Proofs.Try.prog 90 (s90_c n) := func_ok (h33 n) hP Go.Proofs.Try.func90 (by kernel_rfl) (by kernel_rfl) (O := []) trivial (s90_eq n)
def e34 (n : Nat) : Env := ⟨gT, (90, s90_c n) :: (e33 n).C, gQ, (e33 n).I⟩
theorem h34 (n : Nat) : EnvOK Go.Proofs.Try.prog (e34 n) := env_add (h33 n) (s90_ok n)

def s91_l0_0 (n : Nat) (d : (List Int) × Int × Int × (List Int) × Int × Int × Int × Int × Int × Int × (List Int) × (List (List Int)) × Int × Int × Int × Int × Unit) (again : ((List Int) × Int × Int × (List Int) × Int × Int × Int × Int × Int × Int × (List Int) × (List (List Int)) × Int × Int × Int × Int × Unit) → Option ((Int × Int))) (ks : ((List Int) × (List Int) × Int × Int × Int × Int × (List Int) × (List (List Int)) × Int × Int × Int × Int × Unit → Option ((Int × Int))) × Unit) : Option ((Int × Int)) :=
  match d, ks with
  | (l, i, cask, t18, t19, t20, t25, t26, p, p_1, p_2, p_3, t4, t4_1, out, out_1, _), (k0, _) =>
  bif (decide (t26 < t25)) then
    (geti p_2 t26).bind fun e =>
    bif (e != cask) then
      again (l, i, cask, t18, t19, t20, t25, (IntKind.wrap .i64 (t26 + (1 : Int))), p, p_1, p_2, p_3, t4, t4_1, out, out_1, ())
    else
      (geti l i).bind fun e_1 =>
      (geti l t26).bind fun e_2 =>
      bif (e_1 == e_2) then
        again (l, i, cask, t18, t19, t20, t25, (IntKind.wrap .i64 (t26 + (1 : Int))), p, p_1, p_2, p_3, t4, t4_1, (IntKind.wrap .i64 (out + (1 : Int))), (IntKind.wrap .i64 (out_1 + (1 : Int))), ())
      else
        again (l, i, cask, t18, t19, t20, t25, (IntKind.wrap .i64 (t26 + (1 : Int))), p, p_1, p_2, p_3, t4, t4_1, out, (IntKind.wrap .i64 (out_1 + (1 : Int))), ())
  else
    k0 (l, t18, t19, t20, p, p_1, p_2, p_3, t4, t4_1, out, out_1, ())

def s91_l0 (n : Nat) (d : (List Int) × (List Int) × Int × Int × Int × Int × (List Int) × (List (List Int)) × Int × Int × Int × Int × Unit) (again : ((List Int) × (List Int) × Int × Int × Int × Int × (List Int) × (List (List Int)) × Int × Int × Int × Int × Unit) → Option ((Int × Int))) (ks : (Int × Int × Int × Int × Unit → Option ((Int × Int))) × Unit) : Option ((Int × Int)) :=
  match d, ks with
  | (l, t18, t19, t20, p, p_1, p_2, p_3, t4, t4_1, out, out_1, _), (k0, _) =>
  bif (decide (t20 < t19)) then
    (geti t18 t20).bind fun e =>
    loopG (s91_l0_0 n) n (l, t20, e, t18, t19, t20, t20, (0 : Int), p, p_1, p_2, p_3, t4, t4_1, out, out_1, ())
      (fun (l_2, t18_2, t19_2, t20_2, p_8, p_9, p_10, p_11, t4_4, t4_5, out_4, out_5, _) =>
        again (l_2, t18_2, t19_2, (IntKind.wrap .i64 (t20_2 + (1 : Int))), p_8, p_9, p_10, p_11, t4_4, t4_5, out_4, out_5, ()), ())
  else
    k0 (t4, t4_1, out, out_1, ())

/-- (criadera/taste.panel).steadiness -/
def s91 (n : Nat) (p : Int × Int × (List Int) × (List (List Int))) (taster : Int) : Option ((Int × Int)) :=
  (geti p.2.2.2 taster).bind fun e =>
  loopG (s91_l0 n) n (e, p.2.2.1, ((List.length p.2.2.1 : Nat) : Int), (0 : Int), p.1, p.2.1, p.2.2.1, p.2.2.2, (0 : Int), (0 : Int), (0 : Int), (0 : Int), ())
    (fun (t4_6, t4_7, out_6, out_7, _) =>
      some ((out_6, out_7)), ())

def s91_t0_0 : Templ := ⟨57, [(.slice (.int .i64)), (.int .i64), (.int .i64), (.slice (.int .i64)), (.int .i64), (.int .i64), (.int .i64), (.int .i64), (.int .i64), (.int .i64), (.slice (.int .i64)), (.slice (.slice (.int .i64))), (.int .i64), (.int .i64), (.int .i64), (.int .i64)], [(2, .v (.bptr 57 0)), (4, .v (.bptr 58 0)), (5, .v (.bptr 59 0)), (6, .v (.hole (.slice (.int .i64)))), (7, .v (.hole (.int .i64))), (8, .v (.hole (.int .i64))), (18, .v (.hole (.slice (.int .i64)))), (19, .v (.hole (.int .i64))), (20, .v (.hole (.int .i64))), (25, .v (.hole (.int .i64))), (26, .v (.hole (.int .i64)))], [(57, .box (.pair (.int .i64) (.pair (.int .i64) (.pair (.slice (.int .i64)) (.slice (.slice (.int .i64)))))) [.hole (.int .i64), .hole (.int .i64), .hole (.slice (.int .i64)), .hole (.slice (.slice (.int .i64)))]), (58, .box (.pair (.int .i64) (.int .i64)) [.hole (.int .i64), .hole (.int .i64)]), (59, .box (.pair (.int .i64) (.int .i64)) [.hole (.int .i64), .hole (.int .i64)])], []⟩
def s91_x0_0 : List (Way × Templ) := [(.exit 2, ⟨57, [(.slice (.int .i64)), (.slice (.int .i64)), (.int .i64), (.int .i64), (.int .i64), (.int .i64), (.slice (.int .i64)), (.slice (.slice (.int .i64))), (.int .i64), (.int .i64), (.int .i64), (.int .i64)], [(2, .v (.bptr 57 0)), (4, .v (.bptr 58 0)), (5, .v (.bptr 59 0)), (6, .v (.hole (.slice (.int .i64)))), (18, .v (.hole (.slice (.int .i64)))), (19, .v (.hole (.int .i64))), (20, .v (.hole (.int .i64)))], [(57, .box (.pair (.int .i64) (.pair (.int .i64) (.pair (.slice (.int .i64)) (.slice (.slice (.int .i64)))))) [.hole (.int .i64), .hole (.int .i64), .hole (.slice (.int .i64)), .hole (.slice (.slice (.int .i64)))]), (58, .box (.pair (.int .i64) (.int .i64)) [.hole (.int .i64), .hole (.int .i64)]), (59, .box (.pair (.int .i64) (.int .i64)) [.hole (.int .i64), .hole (.int .i64)])], []⟩)]
def s91_o0_0 (n : Nat) : Ev (denL [(.pair (.int .i64) (.int .i64))]) := loopO n (e34 n) s91_t0_0 s91_x0_0 (s91_l0_0 n)
theorem s91_b0_0 (n : Nat) (d) (again) (ks) : codeR (R := (denL [(.pair (.int .i64) (.int .i64))])) (e34 n) (Hdl.no (R := (denL [(.pair (.int .i64) (.int .i64))]))) (inn (lp (inn (lp (bd Go.Proofs.Try.f91) 0)) 0)) [] (mk s91_t0_0 d) (turnR (e34 n) s91_t0_0 s91_x0_0 again ks) = s91_l0_0 n d again ks := by kernel_rfl
theorem s91_s0_0 (n : Nat) : Sound Go.Proofs.Try.prog (Hdl.no (R := (denL [(.pair (.int .i64) (.int .i64))]))) false (lp (inn (lp (bd Go.Proofs.Try.f91) 0)) 0) (s91_o0_0 n) := loop_ok (h34 n) hP (by kernel_rfl) (O := []) trivial (s91_b0_0 n)
def s91_t0 : Templ := ⟨57, [(.slice (.int .i64)), (.slice (.int .i64)), (.int .i64), (.int .i64), (.int .i64), (.int .i64), (.slice (.int .i64)), (.slice (.slice (.int .i64))), (.int .i64), (.int .i64), (.int .i64), (.int .i64)], [(2, .v (.bptr 57 0)), (4, .v (.bptr 58 0)), (5, .v (.bptr 59 0)), (6, .v (.hole (.slice (.int .i64)))), (18, .v (.hole (.slice (.int .i64)))), (19, .v (.hole (.int .i64))), (20, .v (.hole (.int .i64)))], [(57, .box (.pair (.int .i64) (.pair (.int .i64) (.pair (.slice (.int .i64)) (.slice (.slice (.int .i64)))))) [.hole (.int .i64), .hole (.int .i64), .hole (.slice (.int .i64)), .hole (.slice (.slice (.int .i64)))]), (58, .box (.pair (.int .i64) (.int .i64)) [.hole (.int .i64), .hole (.int .i64)]), (59, .box (.pair (.int .i64) (.int .i64)) [.hole (.int .i64), .hole (.int .i64)])], []⟩
def s91_x0 : List (Way × Templ) := [(.exit 0, ⟨57, [(.int .i64), (.int .i64), (.int .i64), (.int .i64)], [(4, .v (.bptr 57 0)), (5, .v (.bptr 58 0))], [(57, .box (.pair (.int .i64) (.int .i64)) [.hole (.int .i64), .hole (.int .i64)]), (58, .box (.pair (.int .i64) (.int .i64)) [.hole (.int .i64), .hole (.int .i64)])], []⟩)]
def s91_o0 (n : Nat) : Ev (denL [(.pair (.int .i64) (.int .i64))]) := loopO n (e34 n) s91_t0 s91_x0 (s91_l0 n)
theorem s91_b0 (n : Nat) (d) (again) (ks) : codeR (R := (denL [(.pair (.int .i64) (.int .i64))])) (e34 n) (Hdl.no (R := (denL [(.pair (.int .i64) (.int .i64))]))) (inn (lp (bd Go.Proofs.Try.f91) 0)) [s91_o0_0 n] (mk s91_t0 d) (turnR (e34 n) s91_t0 s91_x0 again ks) = s91_l0 n d again ks := by kernel_rfl
theorem s91_s0 (n : Nat) : Sound Go.Proofs.Try.prog (Hdl.no (R := (denL [(.pair (.int .i64) (.int .i64))]))) false (lp (bd Go.Proofs.Try.f91) 0) (s91_o0 n) := loop_ok (h34 n) hP (by kernel_rfl) (O := [s91_o0_0 n]) ⟨s91_s0_0 n, trivial⟩ (s91_b0 n)
def s91_c (n : Nat) : Con := ⟨[(.pair (.int .i64) (.pair (.int .i64) (.pair (.slice (.int .i64)) (.slice (.slice (.int .i64)))))), (.int .i64)], [], [(.pair (.int .i64) (.int .i64))], fun x y => s91 n x.1 x.2, false⟩
theorem s91_eq (n : Nat) (x : denL [(.pair (.int .i64) (.pair (.int .i64) (.pair (.slice (.int .i64)) (.slice (.slice (.int .i64)))))), (.int .i64)]) (y : denL []) : funR (e34 n) Go.Proofs.Try.f91 [(.pair (.int .i64) (.pair (.int .i64) (.pair (.slice (.int .i64)) (.slice (.slice (.int .i64)))))), (.int .i64)] [] [(.pair (.int .i64) (.int .i64))] false [s91_o0 n] x y = (s91_c n).fn x y := by kernel_rfl
theorem s91_ok (n : Nat) : ConOK Go.Proofs.Try.prog 91 (s91_c n) := func_ok (h34 n) hP Go.Proofs.Try.func91 (by kernel_rfl) (by kernel_rfl) (O := [s91_o0 n]) ⟨s91_s0 n, trivial⟩ (s91_eq n)
def e35 (n : Nat) : Env := ⟨gT, (91, s91_c n) :: (e34 n).C, gQ, (e34 n).I⟩
theorem h35 (n : Nat) : EnvOK Go.Proofs.Try.prog (e35 n) := env_add (h34 n) (s91_ok n)

/-- criadera/taste.SteadyOf -/
def s35 (n : Nat) (p : Int × Int × (List Int) × (List (List Int))) (taster : Int) : Option ((Int × Int) × Int) :=
  (s89 n (p.1, (p.2.1, (p.2.2.1, p.2.2.2)))).bind fun x =>
  (s90 n (x.1.1, (x.1.2.1, (x.1.2.2.1, x.1.2.2.2))) taster).bind fun x_1 =>
  (s80 n ([x.2, x_1] : List Int)).bind fun x_2 =>
  bif (x_2 != (0 : Int)) then
    some (((0 : Int), (0 : Int)), x_2)
  else
    (s91 n (x.1.1, (x.1.2.1, (x.1.2.2.1, x.1.2.2.2))) taster).bind fun x_3 =>
    some ((x_3.1, x_3.2), (0 : Int))

def s35_c (n : Nat) : Con := ⟨[(.pair (.int .i64) (.pair (.int .i64) (.pair (.slice (.int .i64)) (.slice (.slice (.int .i64)))))), (.int .i64)], [], [(.pair (.int .i64) (.int .i64)), (.int .i64)], fun x y => s35 n x.1 x.2, false⟩
theorem s35_eq (n : Nat) (x : denL [(.pair (.int .i64) (.pair (.int .i64) (.pair (.slice (.int .i64)) (.slice (.slice (.int .i64)))))), (.int .i64)]) (y : denL []) : funR (e35 n) Go.Proofs.Try.f35 [(.pair (.int .i64) (.pair (.int .i64) (.pair (.slice (.int .i64)) (.slice (.slice (.int .i64)))))), (.int .i64)] [] [(.pair (.int .i64) (.int .i64)), (.int .i64)] false [] x y = (s35_c n).fn x y := by kernel_rfl
theorem s35_ok (n : Nat) : ConOK Go.Proofs.Try.prog 35 (s35_c n) := func_ok (h35 n) hP Go.Proofs.Try.func35 (by kernel_rfl) (by kernel_rfl) (O := []) trivial (s35_eq n)
def e36 (n : Nat) : Env := ⟨gT, (35, s35_c n) :: (e35 n).C, gQ, (e35 n).I⟩
theorem h36 (n : Nat) : EnvOK Go.Proofs.Try.prog (e36 n) := env_add (h35 n) (s35_ok n)

/-- (criadera/taste.panel).caskErr -/
def s124 (n : Nat) (p : Int × Int × (List Int) × (List (List Int))) (v_n : Int) : Option (Int) :=
  (s82 n v_n (0 : Int) (IntKind.wrap .i64 (p.1 - (1 : Int)))).bind fun x =>
  (s81 n x (6 : Int)).bind fun x_1 =>
  some (x_1)

def s124_c (n : Nat) : Con := ⟨[(.pair (.int .i64) (.pair (.int .i64) (.pair (.slice (.int .i64)) (.slice (.slice (.int .i64)))))), (.int .i64)], [], [(.int .i64)], fun x y => s124 n x.1 x.2, false⟩
theorem s124_eq (n : Nat) (x : denL [(.pair (.int .i64) (.pair (.int .i64) (.pair (.slice (.int .i64)) (.slice (.slice (.int .i64)))))), (.int .i64)]) (y : denL []) : funR (e36 n) Go.Proofs.Try.f124 [(.pair (.int .i64) (.pair (.int .i64) (.pair (.slice (.int .i64)) (.slice (.slice (.int .i64)))))), (.int .i64)] [] [(.int .i64)] false [] x y = (s124_c n).fn x y := by kernel_rfl
theorem s124_ok (n : Nat) : ConOK Go.Proofs.Try.prog 124 (s124_c n) := func_ok (h36 n) hP Go.Proofs.Try.func124 (by kernel_rfl) (by kernel_rfl) (O := []) trivial (s124_eq n)
def e37 (n : Nat) : Env := ⟨gT, (124, s124_c n) :: (e36 n).C, gQ, (e36 n).I⟩
theorem h37 (n : Nat) : EnvOK Go.Proofs.Try.prog (e37 n) := env_add (h36 n) (s124_ok n)

def s125_l0 (n : Nat) (d : (List Int) × (List Int) × Int × Int × Int × Int × (List Int) × (List (List Int)) × Unit) (again : ((List Int) × (List Int) × Int × Int × Int × Int × (List Int) × (List (List Int)) × Unit) → Option (Int)) (ks : (Unit → Option (Int)) × (Int × Unit → Option (Int)) × Unit) : Option (Int) :=
  match d, ks with
  | (l, t8, t9, t10, p, p_1, p_2, p_3, _), (k0, k1, _) =>
  bif (decide (t10 < t9)) then
    (geti t8 t10).bind fun e =>
    (s90 n (p, (p_1, (p_2, p_3))) e).bind fun x =>
    (part (!(t10 == (0 : Int))) (geti l (imax (0 : Int) (IntKind.wrap .i64 (t10 - (1 : Int))))) (0 : Int)).bind fun e_1 =>
    (s81 n ((t10 == (0 : Int)) || (decide (e > e_1))) (9 : Int)).bind fun x_1 =>
    (s80 n ([x, x_1] : List Int)).bind fun x_2 =>
    bif (x_2 != (0 : Int)) then
      k1 (x_2, ())
    else
      again (l, t8, t9, (IntKind.wrap .i64 (t10 + (1 : Int))), p, p_1, p_2, p_3, ())
  else
    k0 (())

/-- (criadera/taste.panel).tastersErr -/
def s125 (n : Nat) (p : Int × Int × (List Int) × (List (List Int))) (l : List Int) : Option (Int) :=
  loopG (s125_l0 n) n (l, l, ((List.length l : Nat) : Int), (0 : Int), p.1, p.2.1, p.2.2.1, p.2.2.2, ())
    (fun (_) =>
      some ((0 : Int)),
    fun (t4, _) =>
      some (t4), ())

def s125_t0 : Templ := ⟨37, [(.slice (.int .i64)), (.slice (.int .i64)), (.int .i64), (.int .i64), (.int .i64), (.int .i64), (.slice (.int .i64)), (.slice (.slice (.int .i64)))], [(1, .v (.hole (.slice (.int .i64)))), (2, .v (.bptr 37 0)), (8, .v (.hole (.slice (.int .i64)))), (9, .v (.hole (.int .i64))), (10, .v (.hole (.int .i64)))], [(37, .box (.pair (.int .i64) (.pair (.int .i64) (.pair (.slice (.int .i64)) (.slice (.slice (.int .i64)))))) [.hole (.int .i64), .hole (.int .i64), .hole (.slice (.int .i64)), .hole (.slice (.slice (.int .i64)))])], []⟩
def s125_x0 : List (Way × Templ) := [(.exit 0, ⟨37, [], [], [], []⟩), (.ret, ⟨37, [(.int .i64)], [(4, .v (.hole (.int .i64)))], [], []⟩)]
def s125_o0 (n : Nat) : Ev (denL [(.int .i64)]) := loopO n (e37 n) s125_t0 s125_x0 (s125_l0 n)
theorem s125_b0 (n : Nat) (d) (again) (ks) : codeR (R := (denL [(.int .i64)])) (e37 n) (Hdl.no (R := (denL [(.int .i64)]))) (inn (lp (bd Go.Proofs.Try.f125) 0)) [] (mk s125_t0 d) (turnR (e37 n) s125_t0 s125_x0 again ks) = s125_l0 n d again ks := by kernel_rfl
theorem s125_s0 (n : Nat) : Sound Go.Proofs.Try.prog (Hdl.no (R := (denL [(.int .i64)]))) false (lp (bd Go.Proofs.Try.f125) 0) (s125_o0 n) := loop_ok (h37 n) hP (by kernel_rfl) (O := []) trivial (s125_b0 n)
def s125_c (n : Nat) : Con := ⟨[(.pair (.int .i64) (.pair (.int .i64) (.pair (.slice (.int .i64)) (.slice (.slice (.int .i64)))))), (.slice (.int .i64))], [], [(.int .i64)], fun x y => s125 n x.1 x.2, false⟩
theorem s125_eq (n : Nat) (x : denL [(.pair (.int .i64) (.pair (.int .i64) (.pair (.slice (.int .i64)) (.slice (.slice (.int .i64)))))), (.slice (.int .i64))]) (y : denL []) : funR (e37 n) Go.Proofs.Try.f125 [(.pair (.int .i64) (.pair (.int .i64) (.pair (.slice (.int .i64)) (.slice (.slice (.int .i64)))))), (.slice (.int .i64))] [] [(.int .i64)] false [s125_o0 n] x y = (s125_c n).fn x y := by kernel_rfl
theorem s125_ok (n : Nat) : ConOK Go.Proofs.Try.prog 125 (s125_c n) := func_ok (h37 n) hP Go.Proofs.Try.func125 (by kernel_rfl) (by kernel_rfl) (O := [s125_o0 n]) ⟨s125_s0 n, trivial⟩ (s125_eq n)
def e38 (n : Nat) : Env := ⟨gT, (125, s125_c n) :: (e37 n).C, gQ, (e37 n).I⟩
theorem h38 (n : Nat) : EnvOK Go.Proofs.Try.prog (e38 n) := env_add (h37 n) (s125_ok n)

/-- criadera/taste.openTasters -/
def s86 (n : Nat) (p : Int × Int × (List Int) × (List (List Int))) (cask : Int) (tasters : List Int) : Option ((Int × Int × (List Int) × (List (List Int))) × Int) :=
  (s89 n (p.1, (p.2.1, (p.2.2.1, p.2.2.2)))).bind fun x =>
  (s124 n (x.1.1, (x.1.2.1, (x.1.2.2.1, x.1.2.2.2))) cask).bind fun x_1 =>
  (s125 n (x.1.1, (x.1.2.1, (x.1.2.2.1, x.1.2.2.2))) tasters).bind fun x_2 =>
  (s80 n ([x.2, x_1, x_2] : List Int)).bind fun x_3 =>
  some ((x.1.1, (x.1.2.1, (x.1.2.2.1, x.1.2.2.2))), x_3)

def s86_c (n : Nat) : Con := ⟨[(.pair (.int .i64) (.pair (.int .i64) (.pair (.slice (.int .i64)) (.slice (.slice (.int .i64)))))), (.int .i64), (.slice (.int .i64))], [], [(.pair (.int .i64) (.pair (.int .i64) (.pair (.slice (.int .i64)) (.slice (.slice (.int .i64)))))), (.int .i64)], fun x y => s86 n x.1 x.2.1 x.2.2, false⟩
theorem s86_eq (n : Nat) (x : denL [(.pair (.int .i64) (.pair (.int .i64) (.pair (.slice (.int .i64)) (.slice (.slice (.int .i64)))))), (.int .i64), (.slice (.int .i64))]) (y : denL []) : funR (e38 n) Go.Proofs.Try.f86 [(.pair (.int .i64) (.pair (.int .i64) (.pair (.slice (.int .i64)) (.slice (.slice (.int .i64)))))), (.int .i64), (.slice (.int .i64))] [] [(.pair (.int .i64) (.pair (.int .i64) (.pair (.slice (.int .i64)) (.slice (.slice (.int .i64)))))), (.int .i64)] false [] x y = (s86_c n).fn x y := by kernel_rfl
theorem s86_ok (n : Nat) : ConOK Go.Proofs.Try.prog 86 (s86_c n) := func_ok (h38 n) hP Go.Proofs.Try.func86 (by kernel_rfl) (by kernel_rfl) (O := []) trivial (s86_eq n)
def e39 (n : Nat) : Env := ⟨gT, (86, s86_c n) :: (e38 n).C, gQ, (e38 n).I⟩
theorem h39 (n : Nat) : EnvOK Go.Proofs.Try.prog (e39 n) := env_add (h38 n) (s86_ok n)

def s87_l0_0 (n : Nat) (d : Int × (List Int) × Int × Int × (List Int) × Int × Int × Int × Int × (List Int) × (List (List Int)) × (List Int) × Unit) (again : (Int × (List Int) × Int × Int × (List Int) × Int × Int × Int × Int × (List Int) × (List (List Int)) × (List Int) × Unit) → Option ((List Int))) (ks : (Int × (List Int) × Int × Int × Int × Int × (List Int) × (List (List Int)) × (List Int) × Unit → Option ((List Int))) × Unit) : Option ((List Int)) :=
  match d, ks with
  | (cask, t16, t17, t18, t27, t28, t29, p, p_1, p_2, p_3, out, _), (k0, _) =>
  bif (decide (t29 < t28)) then
    (geti t27 t29).bind fun e =>
    (geti p_2 t29).bind fun e_1 =>
    bif (e_1 == cask) then
      (geti out e).bind fun e_2 =>
      (geti out e).bind fun x =>
      (geti out e).bind fun e_3 =>
      (seti out e (IntKind.wrap .i64 (x + (1 : Int)))).bind fun l =>
      again (cask, t16, t17, t18, t27, t28, (IntKind.wrap .i64 (t29 + (1 : Int))), p, p_1, p_2, p_3, l, ())
    else
      again (cask, t16, t17, t18, t27, t28, (IntKind.wrap .i64 (t29 + (1 : Int))), p, p_1, p_2, p_3, out, ())
  else
    k0 (cask, t16, t17, t18, p, p_1, p_2, p_3, out, ())

def s87_l0 (n : Nat) (d : Int × (List Int) × Int × Int × Int × Int × (List Int) × (List (List Int)) × (List Int) × Unit) (again : (Int × (List Int) × Int × Int × Int × Int × (List Int) × (List (List Int)) × (List Int) × Unit) → Option ((List Int))) (ks : ((List Int) × Unit → Option ((List Int))) × Unit) : Option ((List Int)) :=
  match d, ks with
  | (cask, t16, t17, t18, p, p_1, p_2, p_3, out, _), (k0, _) =>
  bif (decide (t18 < t17)) then
    (geti t16 t18).bind fun e =>
    (geti p_3 e).bind fun e_1 =>
    loopG (s87_l0_0 n) n (cask, t16, t17, t18, e_1, ((List.length e_1 : Nat) : Int), (0 : Int), p, p_1, p_2, p_3, out, ())
      (fun (cask_2, t16_2, t17_2, t18_2, p_8, p_9, p_10, p_11, out_2, _) =>
        again (cask_2, t16_2, t17_2, (IntKind.wrap .i64 (t18_2 + (1 : Int))), p_8, p_9, p_10, p_11, out_2, ()), ())
  else
    k0 (out, ())

/-- (criadera/taste.panel).counts -/
def s87 (n : Nat) (p : Int × Int × (List Int) × (List (List Int))) (cask : Int) (tasters : List Int) : Option ((List Int)) :=
  (chki p.2.1).bind fun u =>
  loopG (s87_l0 n) n (cask, tasters, ((List.length tasters : Nat) : Int), (0 : Int), p.1, p.2.1, p.2.2.1, p.2.2.2, (List.replicate (Int.toNat p.2.1) (0 : Int)), ())
    (fun (out_3, _) =>
      some (out_3), ())

def s87_t0_0 : Templ := ⟨51, [(.int .i64), (.slice (.int .i64)), (.int .i64), (.int .i64), (.slice (.int .i64)), (.int .i64), (.int .i64), (.int .i64), (.int .i64), (.slice (.int .i64)), (.slice (.slice (.int .i64))), (.slice (.int .i64))], [(1, .v (.hole (.int .i64))), (3, .v (.bptr 51 0)), (7, .v (.hand 52)), (16, .v (.hole (.slice (.int .i64)))), (17, .v (.hole (.int .i64))), (18, .v (.hole (.int .i64))), (27, .v (.hole (.slice (.int .i64)))), (28, .v (.hole (.int .i64))), (29, .v (.hole (.int .i64)))], [(51, .box (.pair (.int .i64) (.pair (.int .i64) (.pair (.slice (.int .i64)) (.slice (.slice (.int .i64)))))) [.hole (.int .i64), .hole (.int .i64), .hole (.slice (.int .i64)), .hole (.slice (.slice (.int .i64)))]), (52, .buf (.int .i64))], []⟩
def s87_x0_0 : List (Way × Templ) := [(.exit 2, ⟨51, [(.int .i64), (.slice (.int .i64)), (.int .i64), (.int .i64), (.int .i64), (.int .i64), (.slice (.int .i64)), (.slice (.slice (.int .i64))), (.slice (.int .i64))], [(1, .v (.hole (.int .i64))), (3, .v (.bptr 51 0)), (7, .v (.hand 52)), (16, .v (.hole (.slice (.int .i64)))), (17, .v (.hole (.int .i64))), (18, .v (.hole (.int .i64)))], [(51, .box (.pair (.int .i64) (.pair (.int .i64) (.pair (.slice (.int .i64)) (.slice (.slice (.int .i64)))))) [.hole (.int .i64), .hole (.int .i64), .hole (.slice (.int .i64)), .hole (.slice (.slice (.int .i64)))]), (52, .buf (.int .i64))], []⟩)]
def s87_o0_0 (n : Nat) : Ev (denL [(.slice (.int .i64))]) := loopO n (e39 n) s87_t0_0 s87_x0_0 (s87_l0_0 n)
theorem s87_b0_0 (n : Nat) (d) (again) (ks) : codeR (R := (denL [(.slice (.int .i64))])) (e39 n) (Hdl.no (R := (denL [(.slice (.int .i64))]))) (inn (lp (inn (lp (bd Go.Proofs.Try.f87) 0)) 0)) [] (mk s87_t0_0 d) (turnR (e39 n) s87_t0_0 s87_x0_0 again ks) = s87_l0_0 n d again ks := by kernel_rfl
theorem s87_s0_0 (n : Nat) : Sound Go.Proofs.Try.prog (Hdl.no (R := (denL [(.slice (.int .i64))]))) false (lp (inn (lp (bd Go.Proofs.Try.f87) 0)) 0) (s87_o0_0 n) := loop_ok (h39 n) hP (by kernel_rfl) (O := []) trivial (s87_b0_0 n)
def s87_t0 : Templ := ⟨51, [(.int .i64), (.slice (.int .i64)), (.int .i64), (.int .i64), (.int .i64), (.int .i64), (.slice (.int .i64)), (.slice (.slice (.int .i64))), (.slice (.int .i64))], [(1, .v (.hole (.int .i64))), (3, .v (.bptr 51 0)), (7, .v (.hand 52)), (16, .v (.hole (.slice (.int .i64)))), (17, .v (.hole (.int .i64))), (18, .v (.hole (.int .i64)))], [(51, .box (.pair (.int .i64) (.pair (.int .i64) (.pair (.slice (.int .i64)) (.slice (.slice (.int .i64)))))) [.hole (.int .i64), .hole (.int .i64), .hole (.slice (.int .i64)), .hole (.slice (.slice (.int .i64)))]), (52, .buf (.int .i64))], []⟩
def s87_x0 : List (Way × Templ) := [(.exit 0, ⟨51, [(.slice (.int .i64))], [(7, .v (.hand 51))], [(51, .buf (.int .i64))], []⟩)]
def s87_o0 (n : Nat) : Ev (denL [(.slice (.int .i64))]) := loopO n (e39 n) s87_t0 s87_x0 (s87_l0 n)
theorem s87_b0 (n : Nat) (d) (again) (ks) : codeR (R := (denL [(.slice (.int .i64))])) (e39 n) (Hdl.no (R := (denL [(.slice (.int .i64))]))) (inn (lp (bd Go.Proofs.Try.f87) 0)) [s87_o0_0 n] (mk s87_t0 d) (turnR (e39 n) s87_t0 s87_x0 again ks) = s87_l0 n d again ks := by kernel_rfl
theorem s87_s0 (n : Nat) : Sound Go.Proofs.Try.prog (Hdl.no (R := (denL [(.slice (.int .i64))]))) false (lp (bd Go.Proofs.Try.f87) 0) (s87_o0 n) := loop_ok (h39 n) hP (by kernel_rfl) (O := [s87_o0_0 n]) ⟨s87_s0_0 n, trivial⟩ (s87_b0 n)
def s87_c (n : Nat) : Con := ⟨[(.pair (.int .i64) (.pair (.int .i64) (.pair (.slice (.int .i64)) (.slice (.slice (.int .i64)))))), (.int .i64), (.slice (.int .i64))], [], [(.slice (.int .i64))], fun x y => s87 n x.1 x.2.1 x.2.2, false⟩
theorem s87_eq (n : Nat) (x : denL [(.pair (.int .i64) (.pair (.int .i64) (.pair (.slice (.int .i64)) (.slice (.slice (.int .i64)))))), (.int .i64), (.slice (.int .i64))]) (y : denL []) : funR (e39 n) Go.Proofs.Try.f87 [(.pair (.int .i64) (.pair (.int .i64) (.pair (.slice (.int .i64)) (.slice (.slice (.int .i64)))))), (.int .i64), (.slice (.int .i64))] [] [(.slice (.int .i64))] false [s87_o0 n] x y = (s87_c n).fn x y := by kernel_rfl
theorem s87_ok (n : Nat) : ConOK Go.Proofs.Try.prog 87 (s87_c n) := func_ok (h39 n) hP Go.Proofs.Try.func87 (by kernel_rfl) (by kernel_rfl) (O := [s87_o0 n]) ⟨s87_s0 n, trivial⟩ (s87_eq n)
def e40 (n : Nat) : Env := ⟨gT, (87, s87_c n) :: (e39 n).C, gQ, (e39 n).I⟩
theorem h40 (n : Nat) : EnvOK Go.Proofs.Try.prog (e40 n) := env_add (h39 n) (s87_ok n)

def s126_l0 (n : Nat) (d : (List Int) × Int × Int × Unit) (again : ((List Int) × Int × Int × Unit) → Option (Int)) (ks : (Int × Unit → Option (Int)) × Unit) : Option (Int) :=
  match d, ks with
  | (t0, m, i, _), (k0, _) =>
  bif (decide (i < ((List.length t0 : Nat) : Int))) then
    (geti t0 i).bind fun e =>
    again (t0, (imax m e), (IntKind.wrap .i64 (i + (1 : Int))), ())
  else
    k0 (m, ())

/-- slices.Max[[]int,int] -/
def s126 (n : Nat) (x : List Int) : Option (Int) :=
  bif (decide (((List.length x : Nat) : Int) < (1 : Int))) then
    none
  else
    (geti x (0 : Int)).bind fun e =>
    loopG (s126_l0 n) n (x, e, (1 : Int), ())
      (fun (m_1, _) =>
        some (m_1), ())

def s126_t0 : Templ := ⟨25, [(.slice (.int .i64)), (.int .i64), (.int .i64)], [(0, .v (.hole (.slice (.int .i64)))), (3, .v (.hole (.int .i64))), (4, .v (.hole (.int .i64)))], [], []⟩
def s126_x0 : List (Way × Templ) := [(.exit 0, ⟨25, [(.int .i64)], [(3, .v (.hole (.int .i64)))], [], []⟩)]
def s126_o0 (n : Nat) : Ev (denL [(.int .i64)]) := loopO n (e40 n) s126_t0 s126_x0 (s126_l0 n)
theorem s126_b0 (n : Nat) (d) (again) (ks) : codeR (R := (denL [(.int .i64)])) (e40 n) (Hdl.no (R := (denL [(.int .i64)]))) (inn (lp (bd Go.Proofs.Try.f126) 0)) [] (mk s126_t0 d) (turnR (e40 n) s126_t0 s126_x0 again ks) = s126_l0 n d again ks := by kernel_rfl
theorem s126_s0 (n : Nat) : Sound Go.Proofs.Try.prog (Hdl.no (R := (denL [(.int .i64)]))) false (lp (bd Go.Proofs.Try.f126) 0) (s126_o0 n) := loop_ok (h40 n) hP (by kernel_rfl) (O := []) trivial (s126_b0 n)
def s126_c (n : Nat) : Con := ⟨[(.slice (.int .i64))], [], [(.int .i64)], fun x y => s126 n x, false⟩
theorem s126_eq (n : Nat) (x : denL [(.slice (.int .i64))]) (y : denL []) : funR (e40 n) Go.Proofs.Try.f126 [(.slice (.int .i64))] [] [(.int .i64)] false [s126_o0 n] x y = (s126_c n).fn x y := by kernel_rfl
theorem s126_ok (n : Nat) : ConOK Go.Proofs.Try.prog 126 (s126_c n) := func_ok (h40 n) hP Go.Proofs.Try.func126 (by kernel_rfl) (by kernel_rfl) (O := [s126_o0 n]) ⟨s126_s0 n, trivial⟩ (s126_eq n)
def e41 (n : Nat) : Env := ⟨gT, (126, s126_c n) :: (e40 n).C, gQ, (e40 n).I⟩
theorem h41 (n : Nat) : EnvOK Go.Proofs.Try.prog (e41 n) := env_add (h40 n) (s126_ok n)

def s127_l0 (n : Nat) (d : (List Int) × Int × Int × Int × Unit) (again : ((List Int) × Int × Int × Int × Unit) → Option (Int)) (ks : (Unit → Option (Int)) × (Int × Unit → Option (Int)) × Unit) : Option (Int) :=
  match d, ks with
  | (s, v, t7, t8, _), (k0, k1, _) =>
  bif (decide (t8 < t7)) then
    (geti s t8).bind fun e =>
    bif (v == e) then
      k1 (t8, ())
    else
      again (s, v, t7, (IntKind.wrap .i64 (t8 + (1 : Int))), ())
  else
    k0 (())

/-- slices.Index[[]int,int] -/
def s127 (n : Nat) (s : List Int) (v : Int) : Option (Int) :=
  loopG (s127_l0 n) n (s, v, ((List.length s : Nat) : Int), (0 : Int), ())
    (fun (_) =>
      some ((-1 : Int)),
    fun (t4, _) =>
      some (t4), ())

def s127_t0 : Templ := ⟨19, [(.slice (.int .i64)), (.int .i64), (.int .i64), (.int .i64)], [(0, .v (.hole (.slice (.int .i64)))), (1, .v (.hole (.int .i64))), (7, .v (.hole (.int .i64))), (8, .v (.hole (.int .i64)))], [], []⟩
def s127_x0 : List (Way × Templ) := [(.exit 0, ⟨19, [], [], [], []⟩), (.ret, ⟨19, [(.int .i64)], [(4, .v (.hole (.int .i64)))], [], []⟩)]
def s127_o0 (n : Nat) : Ev (denL [(.int .i64)]) := loopO n (e41 n) s127_t0 s127_x0 (s127_l0 n)
theorem s127_b0 (n : Nat) (d) (again) (ks) : codeR (R := (denL [(.int .i64)])) (e41 n) (Hdl.no (R := (denL [(.int .i64)]))) (inn (lp (bd Go.Proofs.Try.f127) 0)) [] (mk s127_t0 d) (turnR (e41 n) s127_t0 s127_x0 again ks) = s127_l0 n d again ks := by kernel_rfl
theorem s127_s0 (n : Nat) : Sound Go.Proofs.Try.prog (Hdl.no (R := (denL [(.int .i64)]))) false (lp (bd Go.Proofs.Try.f127) 0) (s127_o0 n) := loop_ok (h41 n) hP (by kernel_rfl) (O := []) trivial (s127_b0 n)
def s127_c (n : Nat) : Con := ⟨[(.slice (.int .i64)), (.int .i64)], [], [(.int .i64)], fun x y => s127 n x.1 x.2, false⟩
theorem s127_eq (n : Nat) (x : denL [(.slice (.int .i64)), (.int .i64)]) (y : denL []) : funR (e41 n) Go.Proofs.Try.f127 [(.slice (.int .i64)), (.int .i64)] [] [(.int .i64)] false [s127_o0 n] x y = (s127_c n).fn x y := by kernel_rfl
theorem s127_ok (n : Nat) : ConOK Go.Proofs.Try.prog 127 (s127_c n) := func_ok (h41 n) hP Go.Proofs.Try.func127 (by kernel_rfl) (by kernel_rfl) (O := [s127_o0 n]) ⟨s127_s0 n, trivial⟩ (s127_eq n)
def e42 (n : Nat) : Env := ⟨gT, (127, s127_c n) :: (e41 n).C, gQ, (e41 n).I⟩
theorem h42 (n : Nat) : EnvOK Go.Proofs.Try.prog (e42 n) := env_add (h41 n) (s127_ok n)

/-- slices.Contains[[]int,int] -/
def s128 (n : Nat) (s : List Int) (v : Int) : Option (Bool) :=
  (s127 n s v).bind fun x =>
  some ((decide (x ≥ (0 : Int))))

def s128_c (n : Nat) : Con := ⟨[(.slice (.int .i64)), (.int .i64)], [], [.bool], fun x y => s128 n x.1 x.2, false⟩
theorem s128_eq (n : Nat) (x : denL [(.slice (.int .i64)), (.int .i64)]) (y : denL []) : funR (e42 n) Go.Proofs.Try.f128 [(.slice (.int .i64)), (.int .i64)] [] [.bool] false [] x y = (s128_c n).fn x y := by kernel_rfl
theorem s128_ok (n : Nat) : ConOK Go.Proofs.Try.prog 128 (s128_c n) := func_ok (h42 n) hP Go.Proofs.Try.func128 (by kernel_rfl) (by kernel_rfl) (O := []) trivial (s128_eq n)
def e43 (n : Nat) : Env := ⟨gT, (128, s128_c n) :: (e42 n).C, gQ, (e42 n).I⟩
theorem h43 (n : Nat) : EnvOK Go.Proofs.Try.prog (e43 n) := env_add (h42 n) (s128_ok n)

/-- (criadera/taste.panel).mark -/
def s88 (n : Nat) (p : Int × Int × (List Int) × (List (List Int))) (cask : Int) (tasters : List Int) : Option (Int) :=
  (s87 n (p.1, (p.2.1, (p.2.2.1, p.2.2.2))) cask tasters).bind fun x =>
  (s126 n x).bind fun x_1 =>
  (s127 n x x_1).bind fun x_2 =>
  (part (!(x_1 == (0 : Int))) (cut x (IntKind.wrap .i64 (x_2 + (1 : Int))) ((List.length x : Nat) : Int)) []).bind fun x_3 =>
  (part (!(x_1 == (0 : Int))) (s128 n x_3 x_1) false).bind fun x_4 =>
  bif ((x_1 == (0 : Int)) || x_4) then
    some ((-1 : Int))
  else
    some (x_2)

def s88_c (n : Nat) : Con := ⟨[(.pair (.int .i64) (.pair (.int .i64) (.pair (.slice (.int .i64)) (.slice (.slice (.int .i64)))))), (.int .i64), (.slice (.int .i64))], [], [(.int .i64)], fun x y => s88 n x.1 x.2.1 x.2.2, false⟩
theorem s88_eq (n : Nat) (x : denL [(.pair (.int .i64) (.pair (.int .i64) (.pair (.slice (.int .i64)) (.slice (.slice (.int .i64)))))), (.int .i64), (.slice (.int .i64))]) (y : denL []) : funR (e43 n) Go.Proofs.Try.f88 [(.pair (.int .i64) (.pair (.int .i64) (.pair (.slice (.int .i64)) (.slice (.slice (.int .i64)))))), (.int .i64), (.slice (.int .i64))] [] [(.int .i64)] false [] x y = (s88_c n).fn x y := by kernel_rfl
theorem s88_ok (n : Nat) : ConOK Go.Proofs.Try.prog 88 (s88_c n) := func_ok (h43 n) hP Go.Proofs.Try.func88 (by kernel_rfl) (by kernel_rfl) (O := []) trivial (s88_eq n)
def e44 (n : Nat) : Env := ⟨gT, (88, s88_c n) :: (e43 n).C, gQ, (e43 n).I⟩
theorem h44 (n : Nat) : EnvOK Go.Proofs.Try.prog (e44 n) := env_add (h43 n) (s88_ok n)

/-- criadera/taste.MarkOf -/
def s28 (n : Nat) (p : Int × Int × (List Int) × (List (List Int))) (cask : Int) (tasters : List Int) : Option (Int × Int) :=
  (s86 n (p.1, (p.2.1, (p.2.2.1, p.2.2.2))) cask tasters).bind fun x =>
  bif (x.2 != (0 : Int)) then
    some ((0 : Int), x.2)
  else
    (s88 n (x.1.1, (x.1.2.1, (x.1.2.2.1, x.1.2.2.2))) cask tasters).bind fun x_1 =>
    bif (decide (x_1 < (0 : Int))) then
      some ((0 : Int), (12 : Int))
    else
      some (x_1, (0 : Int))

def s28_c (n : Nat) : Con := ⟨[(.pair (.int .i64) (.pair (.int .i64) (.pair (.slice (.int .i64)) (.slice (.slice (.int .i64)))))), (.int .i64), (.slice (.int .i64))], [], [(.int .i64), (.int .i64)], fun x y => s28 n x.1 x.2.1 x.2.2, false⟩
theorem s28_eq (n : Nat) (x : denL [(.pair (.int .i64) (.pair (.int .i64) (.pair (.slice (.int .i64)) (.slice (.slice (.int .i64)))))), (.int .i64), (.slice (.int .i64))]) (y : denL []) : funR (e44 n) Go.Proofs.Try.f28 [(.pair (.int .i64) (.pair (.int .i64) (.pair (.slice (.int .i64)) (.slice (.slice (.int .i64)))))), (.int .i64), (.slice (.int .i64))] [] [(.int .i64), (.int .i64)] false [] x y = (s28_c n).fn x y := by kernel_rfl
theorem s28_ok (n : Nat) : ConOK Go.Proofs.Try.prog 28 (s28_c n) := func_ok (h44 n) hP Go.Proofs.Try.func28 (by kernel_rfl) (by kernel_rfl) (O := []) trivial (s28_eq n)
def e45 (n : Nat) : Env := ⟨gT, (28, s28_c n) :: (e44 n).C, gQ, (e44 n).I⟩
theorem h45 (n : Nat) : EnvOK Go.Proofs.Try.prog (e45 n) := env_add (h44 n) (s28_ok n)

def s32_l0 (n : Nat) (d : (List Int) × (List Int) × Int × Unit) (again : ((List Int) × (List Int) × Int × Unit) → Option (Bool)) (ks : (Unit → Option (Bool)) × (Bool × Unit → Option (Bool)) × Unit) : Option (Bool) :=
  match d, ks with
  | (a, b, i, _), (k0, k1, _) =>
  bif (decide (i < ((List.length a : Nat) : Int))) then
    (geti a i).bind fun e =>
    (geti b i).bind fun e_1 =>
    bif (e != e_1) then
      k1 (false, ())
    else
      again (a, b, (IntKind.wrap .i64 (i + (1 : Int))), ())
  else
    k0 (())

/-- criadera/criaderabase.Ints -/
def s32 (n : Nat) (a : List Int) (b : List Int) : Option (Bool) :=
  bif (((List.length a : Nat) : Int) != ((List.length b : Nat) : Int)) then
    some (false)
  else
    loopG (s32_l0 n) n (a, b, (0 : Int), ())
      (fun (_) =>
        some (true),
      fun (t4, _) =>
        some (t4), ())

def s32_t0 : Templ := ⟨26, [(.slice (.int .i64)), (.slice (.int .i64)), (.int .i64)], [(0, .v (.hole (.slice (.int .i64)))), (1, .v (.hole (.slice (.int .i64)))), (5, .v (.hole (.int .i64)))], [], []⟩
def s32_x0 : List (Way × Templ) := [(.exit 0, ⟨26, [], [], [], []⟩), (.ret, ⟨26, [.bool], [(4, .v (.hole .bool))], [], []⟩)]
def s32_o0 (n : Nat) : Ev (denL [.bool]) := loopO n (e45 n) s32_t0 s32_x0 (s32_l0 n)
theorem s32_b0 (n : Nat) (d) (again) (ks) : codeR (R := (denL [.bool])) (e45 n) (Hdl.no (R := (denL [.bool]))) (inn (lp (bd Go.Proofs.Try.f32) 0)) [] (mk s32_t0 d) (turnR (e45 n) s32_t0 s32_x0 again ks) = s32_l0 n d again ks := by kernel_rfl
theorem s32_s0 (n : Nat) : Sound Go.Proofs.Try.prog (Hdl.no (R := (denL [.bool]))) false (lp (bd Go.Proofs.Try.f32) 0) (s32_o0 n) := loop_ok (h45 n) hP (by kernel_rfl) (O := []) trivial (s32_b0 n)
def s32_c (n : Nat) : Con := ⟨[(.slice (.int .i64)), (.slice (.int .i64))], [], [.bool], fun x y => s32 n x.1 x.2, false⟩
theorem s32_eq (n : Nat) (x : denL [(.slice (.int .i64)), (.slice (.int .i64))]) (y : denL []) : funR (e45 n) Go.Proofs.Try.f32 [(.slice (.int .i64)), (.slice (.int .i64))] [] [.bool] false [s32_o0 n] x y = (s32_c n).fn x y := by kernel_rfl
theorem s32_ok (n : Nat) : ConOK Go.Proofs.Try.prog 32 (s32_c n) := func_ok (h45 n) hP Go.Proofs.Try.func32 (by kernel_rfl) (by kernel_rfl) (O := [s32_o0 n]) ⟨s32_s0 n, trivial⟩ (s32_eq n)
def e46 (n : Nat) : Env := ⟨gT, (32, s32_c n) :: (e45 n).C, gQ, (e45 n).I⟩
theorem h46 (n : Nat) : EnvOK Go.Proofs.Try.prog (e46 n) := env_add (h45 n) (s32_ok n)

/-- criadera/criaderalaw07.awake -/
def s15 (n : Nat) : Option (Bool) :=
  (s77 n).bind fun x =>
  (s41 n x ([98, 117, 116, 116], ([(1 : Int), (1 : Int), (0 : Int)] : List Int))).bind fun x_1 =>
  (s77 n).bind fun x_2 =>
  (s20 n x_2 (2 : Int)).bind fun x_3 =>
  (s78 n).bind fun x_4 =>
  (s35 n x_4 (0 : Int)).bind fun x_5 =>
  (s78 n).bind fun x_6 =>
  (s28 n x_6 (1 : Int) ([(0 : Int), (1 : Int)] : List Int)).bind fun x_7 =>
  (part (((x_1.2 == (0 : Int)) && ((x_1.1 : List UInt8) == [111, 108, 111, 114, 111, 115, 111])) && (x_3.2 == (0 : Int))) (s32 n x_3.1 ([(1 : Int)] : List Int)) false).bind fun x_8 =>
  some (((((((((x_1.2 == (0 : Int)) && ((x_1.1 : List UInt8) == [111, 108, 111, 114, 111, 115, 111])) && (x_3.2 == (0 : Int))) && x_8) && (x_5.2 == (0 : Int))) && ((x_5.1.1 == (1 : Int)) && (x_5.1.2 == (4 : Int)))) && (x_7.2 == (0 : Int))) && (x_7.1 == (1 : Int))))

def s15_c (n : Nat) : Con := ⟨[], [], [.bool], fun x y => s15 n, false⟩
theorem s15_eq (n : Nat) (x : denL []) (y : denL []) : funR (e46 n) Go.Proofs.Try.f15 [] [] [.bool] false [] x y = (s15_c n).fn x y := by kernel_rfl
theorem s15_ok (n : Nat) : ConOK Go.Proofs.Try.prog 15 (s15_c n) := func_ok (h46 n) hP Go.Proofs.Try.func15 (by kernel_rfl) (by kernel_rfl) (O := []) trivial (s15_eq n)
def e47 (n : Nat) : Env := ⟨gT, (15, s15_c n) :: (e46 n).C, gQ, (e46 n).I⟩
theorem h47 (n : Nat) : EnvOK Go.Proofs.Try.prog (e47 n) := env_add (h46 n) (s15_ok n)

def s16_l0 (n : Nat) (d : Int × (List (List UInt8)) × Int × (List ((List UInt8) × (List Int) × (List (List UInt8)))) × Unit) (again : (Int × (List (List UInt8)) × Int × (List ((List UInt8) × (List Int) × (List (List UInt8)))) × Unit) → Option (Bool)) (ks : ((List (List UInt8)) × Int × (List ((List UInt8) × (List Int) × (List (List UInt8)))) × Unit → Option (Bool)) × (Bool × Unit → Option (Bool)) × Unit) : Option (Bool) :=
  match d, ks with
  | (i, b, b_1, b_2, _), (k0, k1, _) =>
  bif (decide (i < ((List.length b : Nat) : Int))) then
    (geti b i).bind fun e =>
    bif (decide (((List.length e : Nat) : Int) > (20 : Int))) then
      k1 (false, ())
    else
      again ((IntKind.wrap .i64 (i + (1 : Int))), b, b_1, b_2, ())
  else
    k0 (b, b_1, b_2, ())

def s16_l1_0 (n : Nat) (d : Int × Int × (List (List UInt8)) × Int × (List ((List UInt8) × (List Int) × (List (List UInt8)))) × (List UInt8) × (List Int) × (List (List UInt8)) × Unit) (again : (Int × Int × (List (List UInt8)) × Int × (List ((List UInt8) × (List Int) × (List (List UInt8)))) × (List UInt8) × (List Int) × (List (List UInt8)) × Unit) → Option (Bool)) (ks : (Int × (List (List UInt8)) × Int × (List ((List UInt8) × (List Int) × (List (List UInt8)))) × Unit → Option (Bool)) × (Bool × Unit → Option (Bool)) × Unit) : Option (Bool) :=
  match d, ks with
  | (i, v_k, b, b_1, b_2, c, c_1, c_2, _), (k0, k1, _) =>
  bif (decide (v_k < ((List.length c_2 : Nat) : Int))) then
    (geti c_2 v_k).bind fun e =>
    bif (decide (((List.length e : Nat) : Int) > (20 : Int))) then
      k1 (false, ())
    else
      again (i, (IntKind.wrap .i64 (v_k + (1 : Int))), b, b_1, b_2, c, c_1, c_2, ())
  else
    k0 (i, b, b_1, b_2, ())

def s16_l1 (n : Nat) (d : Int × (List (List UInt8)) × Int × (List ((List UInt8) × (List Int) × (List (List UInt8)))) × Unit) (again : (Int × (List (List UInt8)) × Int × (List ((List UInt8) × (List Int) × (List (List UInt8)))) × Unit) → Option (Bool)) (ks : (Unit → Option (Bool)) × (Bool × Unit → Option (Bool)) × Unit) : Option (Bool) :=
  match d, ks with
  | (i, b, b_1, b_2, _), (k0, k1, _) =>
  bif (decide (i < ((List.length b_2 : Nat) : Int))) then
    (geti b_2 i).bind fun e =>
    bif (((decide (((List.length e.1 : Nat) : Int) > (20 : Int))) || (decide (((List.length e.2.1 : Nat) : Int) > (8 : Int)))) || (decide (((List.length e.2.2 : Nat) : Int) > (8 : Int)))) then
      k1 (false, ())
    else
      loopG (s16_l1_0 n) n (i, (0 : Int), b, b_1, b_2, e.1, e.2.1, e.2.2, ())
        (fun (i_2, b_6, b_7, b_8, _) =>
          again ((IntKind.wrap .i64 (i_2 + (1 : Int))), b_6, b_7, b_8, ()),
        fun (t2, _) =>
          k1 (t2, ()), ())
  else
    k0 (())

/-- criadera/criaderalaw07.Few -/
def s16 (n : Nat) (b : (List (List UInt8)) × Int × (List ((List UInt8) × (List Int) × (List (List UInt8))))) : Option (Bool) :=
  bif ((decide (((List.length b.1 : Nat) : Int) > (8 : Int))) || (decide (((List.length b.2.2 : Nat) : Int) > (10 : Int)))) then
    some (false)
  else
    loopG (s16_l0 n) n ((0 : Int), b.1, b.2.1, b.2.2, ())
      (fun (b_4, b_5, b_6, _) =>
        loopG (s16_l1 n) n ((0 : Int), b_4, b_5, b_6, ())
          (fun (_) =>
            some (true),
          fun (t2_1, _) =>
            some (t2_1), ()),
      fun (t2_2, _) =>
        some (t2_2), ())

def s16_t1_0 : Templ := ⟨73, [(.int .i64), (.int .i64), (.slice .str), (.int .i64), (.slice (.pair .str (.pair (.slice (.int .i64)) (.slice .str)))), .str, (.slice (.int .i64)), (.slice .str)], [(1, .v (.bptr 73 0)), (4, .v (.hole (.int .i64))), (5, .v (.bptr 74 0)), (6, .v (.hole (.int .i64)))], [(73, .box (.pair (.slice .str) (.pair (.int .i64) (.slice (.pair .str (.pair (.slice (.int .i64)) (.slice .str)))))) [.hole (.slice .str), .hole (.int .i64), .hole (.slice (.pair .str (.pair (.slice (.int .i64)) (.slice .str))))]), (74, .box (.pair .str (.pair (.slice (.int .i64)) (.slice .str))) [.hole .str, .hole (.slice (.int .i64)), .hole (.slice .str)])], []⟩
def s16_x1_0 : List (Way × Templ) := [(.exit 4, ⟨73, [(.int .i64), (.slice .str), (.int .i64), (.slice (.pair .str (.pair (.slice (.int .i64)) (.slice .str))))], [(1, .v (.bptr 73 0)), (4, .v (.hole (.int .i64)))], [(73, .box (.pair (.slice .str) (.pair (.int .i64) (.slice (.pair .str (.pair (.slice (.int .i64)) (.slice .str)))))) [.hole (.slice .str), .hole (.int .i64), .hole (.slice (.pair .str (.pair (.slice (.int .i64)) (.slice .str))))])], []⟩), (.ret, ⟨73, [.bool], [(2, .v (.hole .bool))], [], []⟩)]
def s16_o1_0 (n : Nat) : Ev (denL [.bool]) := loopO n (e47 n) s16_t1_0 s16_x1_0 (s16_l1_0 n)
theorem s16_b1_0 (n : Nat) (d) (again) (ks) : codeR (R := (denL [.bool])) (e47 n) (Hdl.no (R := (denL [.bool]))) (inn (lp (inn (lp (bd Go.Proofs.Try.f16) 1)) 0)) [] (mk s16_t1_0 d) (turnR (e47 n) s16_t1_0 s16_x1_0 again ks) = s16_l1_0 n d again ks := by kernel_rfl
theorem s16_s1_0 (n : Nat) : Sound Go.Proofs.Try.prog (Hdl.no (R := (denL [.bool]))) false (lp (inn (lp (bd Go.Proofs.Try.f16) 1)) 0) (s16_o1_0 n) := loop_ok (h47 n) hP (by kernel_rfl) (O := []) trivial (s16_b1_0 n)
def s16_t0 : Templ := ⟨73, [(.int .i64), (.slice .str), (.int .i64), (.slice (.pair .str (.pair (.slice (.int .i64)) (.slice .str))))], [(1, .v (.bptr 73 0)), (3, .v (.hole (.int .i64)))], [(73, .box (.pair (.slice .str) (.pair (.int .i64) (.slice (.pair .str (.pair (.slice (.int .i64)) (.slice .str)))))) [.hole (.slice .str), .hole (.int .i64), .hole (.slice (.pair .str (.pair (.slice (.int .i64)) (.slice .str))))])], []⟩
def s16_x0 : List (Way × Templ) := [(.exit 0, ⟨73, [(.slice .str), (.int .i64), (.slice (.pair .str (.pair (.slice (.int .i64)) (.slice .str))))], [(1, .v (.bptr 73 0))], [(73, .box (.pair (.slice .str) (.pair (.int .i64) (.slice (.pair .str (.pair (.slice (.int .i64)) (.slice .str)))))) [.hole (.slice .str), .hole (.int .i64), .hole (.slice (.pair .str (.pair (.slice (.int .i64)) (.slice .str))))])], []⟩), (.ret, ⟨73, [.bool], [(2, .v (.hole .bool))], [], []⟩)]
def s16_o0 (n : Nat) : Ev (denL [.bool]) := loopO n (e47 n) s16_t0 s16_x0 (s16_l0 n)
theorem s16_b0 (n : Nat) (d) (again) (ks) : codeR (R := (denL [.bool])) (e47 n) (Hdl.no (R := (denL [.bool]))) (inn (lp (bd Go.Proofs.Try.f16) 0)) [] (mk s16_t0 d) (turnR (e47 n) s16_t0 s16_x0 again ks) = s16_l0 n d again ks := by kernel_rfl
theorem s16_s0 (n : Nat) : Sound Go.Proofs.Try.prog (Hdl.no (R := (denL [.bool]))) false (lp (bd Go.Proofs.Try.f16) 0) (s16_o0 n) := loop_ok (h47 n) hP (by kernel_rfl) (O := []) trivial (s16_b0 n)
def s16_t1 : Templ := ⟨73, [(.int .i64), (.slice .str), (.int .i64), (.slice (.pair .str (.pair (.slice (.int .i64)) (.slice .str))))], [(1, .v (.bptr 73 0)), (4, .v (.hole (.int .i64)))], [(73, .box (.pair (.slice .str) (.pair (.int .i64) (.slice (.pair .str (.pair (.slice (.int .i64)) (.slice .str)))))) [.hole (.slice .str), .hole (.int .i64), .hole (.slice (.pair .str (.pair (.slice (.int .i64)) (.slice .str))))])], []⟩
def s16_x1 : List (Way × Templ) := [(.exit 2, ⟨73, [], [], [], []⟩), (.ret, ⟨73, [.bool], [(2, .v (.hole .bool))], [], []⟩)]
def s16_o1 (n : Nat) : Ev (denL [.bool]) := loopO n (e47 n) s16_t1 s16_x1 (s16_l1 n)
theorem s16_b1 (n : Nat) (d) (again) (ks) : codeR (R := (denL [.bool])) (e47 n) (Hdl.no (R := (denL [.bool]))) (inn (lp (bd Go.Proofs.Try.f16) 1)) [s16_o1_0 n] (mk s16_t1 d) (turnR (e47 n) s16_t1 s16_x1 again ks) = s16_l1 n d again ks := by kernel_rfl
theorem s16_s1 (n : Nat) : Sound Go.Proofs.Try.prog (Hdl.no (R := (denL [.bool]))) false (lp (bd Go.Proofs.Try.f16) 1) (s16_o1 n) := loop_ok (h47 n) hP (by kernel_rfl) (O := [s16_o1_0 n]) ⟨s16_s1_0 n, trivial⟩ (s16_b1 n)
def s16_c (n : Nat) : Con := ⟨[(.pair (.slice .str) (.pair (.int .i64) (.slice (.pair .str (.pair (.slice (.int .i64)) (.slice .str))))))], [], [.bool], fun x y => s16 n x, false⟩
theorem s16_eq (n : Nat) (x : denL [(.pair (.slice .str) (.pair (.int .i64) (.slice (.pair .str (.pair (.slice (.int .i64)) (.slice .str))))))]) (y : denL []) : funR (e47 n) Go.Proofs.Try.f16 [(.pair (.slice .str) (.pair (.int .i64) (.slice (.pair .str (.pair (.slice (.int .i64)) (.slice .str))))))] [] [.bool] false [s16_o0 n, s16_o1 n] x y = (s16_c n).fn x y := by kernel_rfl
theorem s16_ok (n : Nat) : ConOK Go.Proofs.Try.prog 16 (s16_c n) := func_ok (h47 n) hP Go.Proofs.Try.func16 (by kernel_rfl) (by kernel_rfl) (O := [s16_o0 n, s16_o1 n]) ⟨s16_s0 n, s16_s1 n, trivial⟩ (s16_eq n)
def e48 (n : Nat) : Env := ⟨gT, (16, s16_c n) :: (e47 n).C, gQ, (e47 n).I⟩
theorem h48 (n : Nat) : EnvOK Go.Proofs.Try.prog (e48 n) := env_add (h47 n) (s16_ok n)

def s101_l0 (n : Nat) (d : (List UInt8) × Int × Unit) (again : ((List UInt8) × Int × Unit) → Option (Bool)) (ks : (Unit → Option (Bool)) × (Bool × Unit → Option (Bool)) × Unit) : Option (Bool) :=
  match d, ks with
  | (s, i, _), (k0, k1, _) =>
  bif (decide (i < ((List.length s : Nat) : Int))) then
    (geti s i).bind fun c =>
    bif ((!(((decide (((UInt8.toNat c : Nat) : Int) ≥ (97 : Int))) && (decide (((UInt8.toNat c : Nat) : Int) ≤ (122 : Int)))) || ((decide (((UInt8.toNat c : Nat) : Int) ≥ (65 : Int))) && (decide (((UInt8.toNat c : Nat) : Int) ≤ (90 : Int)))))) && ((i == (0 : Int)) || ((((UInt8.toNat c : Nat) : Int) != (45 : Int)) && ((decide (((UInt8.toNat c : Nat) : Int) < (48 : Int))) || (decide (((UInt8.toNat c : Nat) : Int) > (57 : Int))))))) then
      k1 (false, ())
    else
      again (s, (IntKind.wrap .i64 (i + (1 : Int))), ())
  else
    k0 (())

/-- criadera/criaderabase.IsName -/
def s101 (n : Nat) (s : List UInt8) : Option (Bool) :=
  bif ((decide (((List.length s : Nat) : Int) < (1 : Int))) || (decide (((List.length s : Nat) : Int) > (12 : Int)))) then
    some (false)
  else
    loopG (s101_l0 n) n (s, (0 : Int), ())
      (fun (_) =>
        some (true),
      fun (t2, _) =>
        some (t2), ())

def s101_t0 : Templ := ⟨55, [.str, (.int .i64)], [(0, .v (.hole .str)), (3, .v (.hole (.int .i64)))], [], []⟩
def s101_x0 : List (Way × Templ) := [(.exit 0, ⟨55, [], [], [], []⟩), (.ret, ⟨55, [.bool], [(2, .v (.hole .bool))], [], []⟩)]
def s101_o0 (n : Nat) : Ev (denL [.bool]) := loopO n (e48 n) s101_t0 s101_x0 (s101_l0 n)
theorem s101_b0 (n : Nat) (d) (again) (ks) : codeR (R := (denL [.bool])) (e48 n) (Hdl.no (R := (denL [.bool]))) (inn (lp (bd Go.Proofs.Try.f101) 0)) [] (mk s101_t0 d) (turnR (e48 n) s101_t0 s101_x0 again ks) = s101_l0 n d again ks := by kernel_rfl
theorem s101_s0 (n : Nat) : Sound Go.Proofs.Try.prog (Hdl.no (R := (denL [.bool]))) false (lp (bd Go.Proofs.Try.f101) 0) (s101_o0 n) := loop_ok (h48 n) hP (by kernel_rfl) (O := []) trivial (s101_b0 n)
def s101_c (n : Nat) : Con := ⟨[.str], [], [.bool], fun x y => s101 n x, false⟩
theorem s101_eq (n : Nat) (x : denL [.str]) (y : denL []) : funR (e48 n) Go.Proofs.Try.f101 [.str] [] [.bool] false [s101_o0 n] x y = (s101_c n).fn x y := by kernel_rfl
theorem s101_ok (n : Nat) : ConOK Go.Proofs.Try.prog 101 (s101_c n) := func_ok (h48 n) hP Go.Proofs.Try.func101 (by kernel_rfl) (by kernel_rfl) (O := [s101_o0 n]) ⟨s101_s0 n, trivial⟩ (s101_eq n)
def e49 (n : Nat) : Env := ⟨gT, (101, s101_c n) :: (e48 n).C, gQ, (e48 n).I⟩
theorem h49 (n : Nat) : EnvOK Go.Proofs.Try.prog (e49 n) := env_add (h48 n) (s101_ok n)

def s102_l0 (n : Nat) (d : (List (List UInt8)) × (List UInt8) × Int × Unit) (again : ((List (List UInt8)) × (List UInt8) × Int × Unit) → Option (Bool)) (ks : (Unit → Option (Bool)) × (Bool × Unit → Option (Bool)) × Unit) : Option (Bool) :=
  match d, ks with
  | (l, s, i, _), (k0, k1, _) =>
  bif (decide (i < ((List.length l : Nat) : Int))) then
    (geti l i).bind fun e =>
    bif ((e : List UInt8) == s) then
      k1 (true, ())
    else
      again (l, s, (IntKind.wrap .i64 (i + (1 : Int))), ())
  else
    k0 (())

/-- criadera/criaderabase.HasText -/
def s102 (n : Nat) (l : List (List UInt8)) (s : List UInt8) : Option (Bool) :=
  loopG (s102_l0 n) n (l, s, (0 : Int), ())
    (fun (_) =>
      some (false),
    fun (t4, _) =>
      some (t4), ())

def s102_t0 : Templ := ⟨18, [(.slice .str), .str, (.int .i64)], [(0, .v (.hole (.slice .str))), (1, .v (.hole .str)), (5, .v (.hole (.int .i64)))], [], []⟩
def s102_x0 : List (Way × Templ) := [(.exit 0, ⟨18, [], [], [], []⟩), (.ret, ⟨18, [.bool], [(4, .v (.hole .bool))], [], []⟩)]
def s102_o0 (n : Nat) : Ev (denL [.bool]) := loopO n (e49 n) s102_t0 s102_x0 (s102_l0 n)
theorem s102_b0 (n : Nat) (d) (again) (ks) : codeR (R := (denL [.bool])) (e49 n) (Hdl.no (R := (denL [.bool]))) (inn (lp (bd Go.Proofs.Try.f102) 0)) [] (mk s102_t0 d) (turnR (e49 n) s102_t0 s102_x0 again ks) = s102_l0 n d again ks := by kernel_rfl
theorem s102_s0 (n : Nat) : Sound Go.Proofs.Try.prog (Hdl.no (R := (denL [.bool]))) false (lp (bd Go.Proofs.Try.f102) 0) (s102_o0 n) := loop_ok (h49 n) hP (by kernel_rfl) (O := []) trivial (s102_b0 n)
def s102_c (n : Nat) : Con := ⟨[(.slice .str), .str], [], [.bool], fun x y => s102 n x.1 x.2, false⟩
theorem s102_eq (n : Nat) (x : denL [(.slice .str), .str]) (y : denL []) : funR (e49 n) Go.Proofs.Try.f102 [(.slice .str), .str] [] [.bool] false [s102_o0 n] x y = (s102_c n).fn x y := by kernel_rfl
theorem s102_ok (n : Nat) : ConOK Go.Proofs.Try.prog 102 (s102_c n) := func_ok (h49 n) hP Go.Proofs.Try.func102 (by kernel_rfl) (by kernel_rfl) (O := [s102_o0 n]) ⟨s102_s0 n, trivial⟩ (s102_eq n)
def e50 (n : Nat) : Env := ⟨gT, (102, s102_c n) :: (e49 n).C, gQ, (e49 n).I⟩
theorem h50 (n : Nat) : EnvOK Go.Proofs.Try.prog (e50 n) := env_add (h49 n) (s102_ok n)

/-- criadera/criaderabase.Within -/
def s19 (n : Nat) (v_n : Int) (lo : Int) (hi : Int) : Option (Bool) :=
  some (((decide (lo ≤ v_n)) && (decide (v_n ≤ hi))))

def s19_c (n : Nat) : Con := ⟨[(.int .i64), (.int .i64), (.int .i64)], [], [.bool], fun x y => s19 n x.1 x.2.1 x.2.2, false⟩
theorem s19_eq (n : Nat) (x : denL [(.int .i64), (.int .i64), (.int .i64)]) (y : denL []) : funR (e50 n) Go.Proofs.Try.f19 [(.int .i64), (.int .i64), (.int .i64)] [] [.bool] false [] x y = (s19_c n).fn x y := by kernel_rfl
theorem s19_ok (n : Nat) : ConOK Go.Proofs.Try.prog 19 (s19_c n) := func_ok (h50 n) hP Go.Proofs.Try.func19 (by kernel_rfl) (by kernel_rfl) (O := []) trivial (s19_eq n)
def e51 (n : Nat) : Env := ⟨gT, (19, s19_c n) :: (e50 n).C, gQ, (e50 n).I⟩
theorem h51 (n : Nat) : EnvOK Go.Proofs.Try.prog (e51 n) := env_add (h50 n) (s19_ok n)

def s103_l0 (n : Nat) (d : Int × Int × (List (List UInt8)) × Int × (List ((List UInt8) × (List Int) × (List (List UInt8)))) × (List UInt8) × (List Int) × (List (List UInt8)) × Unit) (again : (Int × Int × (List (List UInt8)) × Int × (List ((List UInt8) × (List Int) × (List (List UInt8)))) × (List UInt8) × (List Int) × (List (List UInt8)) × Unit) → Option (Int)) (ks : ((List (List UInt8)) × Int × (List ((List UInt8) × (List Int) × (List (List UInt8)))) × (List UInt8) × (List Int) × (List (List UInt8)) × Unit → Option (Int)) × (Int × Unit → Option (Int)) × Unit) : Option (Int) :=
  match d, ks with
  | (i, v_k, b, b_1, b_2, c, c_1, c_2, _), (k0, k1, _) =>
  bif (decide (v_k < i)) then
    (geti b_2 v_k).bind fun e =>
    bif ((e.1 : List UInt8) == c) then
      k1 ((5 : Int), ())
    else
      again (i, (IntKind.wrap .i64 (v_k + (1 : Int))), b, b_1, b_2, c, c_1, c_2, ())
  else
    k0 (b, b_1, b_2, c, c_1, c_2, ())

def s103_l1 (n : Nat) (d : Int × (List (List UInt8)) × Int × (List ((List UInt8) × (List Int) × (List (List UInt8)))) × (List UInt8) × (List Int) × (List (List UInt8)) × Unit) (again : (Int × (List (List UInt8)) × Int × (List ((List UInt8) × (List Int) × (List (List UInt8)))) × (List UInt8) × (List Int) × (List (List UInt8)) × Unit) → Option (Int)) (ks : ((List UInt8) × (List Int) × (List (List UInt8)) × Unit → Option (Int)) × (Int × Unit → Option (Int)) × Unit) : Option (Int) :=
  match d, ks with
  | (v_k, b, b_1, b_2, c, c_1, c_2, _), (k0, k1, _) =>
  bif (decide (v_k < ((List.length c_1 : Nat) : Int))) then
    (geti c_1 v_k).bind fun e =>
    (s19 n e (0 : Int) (IntKind.wrap .i64 (((List.length b_2 : Nat) : Int) - (1 : Int)))).bind fun x =>
    bif (!x) then
      k1 ((6 : Int), ())
    else
      again ((IntKind.wrap .i64 (v_k + (1 : Int))), b, b_1, b_2, c, c_1, c_2, ())
  else
    k0 (c, c_1, c_2, ())

def s103_l2 (n : Nat) (d : Int × (List UInt8) × (List Int) × (List (List UInt8)) × Unit) (again : (Int × (List UInt8) × (List Int) × (List (List UInt8)) × Unit) → Option (Int)) (ks : (Unit → Option (Int)) × (Int × Unit → Option (Int)) × Unit) : Option (Int) :=
  match d, ks with
  | (v_k, c, c_1, c_2, _), (k0, k1, _) =>
  bif (decide (v_k < ((List.length c_2 : Nat) : Int))) then
    (geti c_2 v_k).bind fun e =>
    (s101 n e).bind fun x =>
    bif (!x) then
      k1 ((4 : Int), ())
    else
      again ((IntKind.wrap .i64 (v_k + (1 : Int))), c, c_1, c_2, ())
  else
    k0 (())

/-- criadera/criaderaref07.classErr -/
def s103 (n : Nat) (b : (List (List UInt8)) × Int × (List ((List UInt8) × (List Int) × (List (List UInt8))))) (i : Int) : Option (Int) :=
  (geti b.2.2 i).bind fun e =>
  (s101 n e.1).bind fun x =>
  bif (!x) then
    some ((4 : Int))
  else
    loopG (s103_l0 n) n (i, (0 : Int), b.1, b.2.1, b.2.2, e.1, e.2.1, e.2.2, ())
      (fun (b_4, b_5, b_6, c_3, c_4, c_5, _) =>
        bif ((((List.length c_4 : Nat) : Int) != ((List.length b_4 : Nat) : Int)) || (((List.length c_5 : Nat) : Int) != ((List.length b_4 : Nat) : Int))) then
          some ((10 : Int))
        else
          loopG (s103_l1 n) n ((0 : Int), b_4, b_5, b_6, c_3, c_4, c_5, ())
            (fun (c_9, c_10, c_11, _) =>
              loopG (s103_l2 n) n ((0 : Int), c_9, c_10, c_11, ())
                (fun (_) =>
                  some ((0 : Int)),
                fun (t4, _) =>
                  some (t4), ()),
            fun (t4_1, _) =>
              some (t4_1), ()),
      fun (t4_2, _) =>
        some (t4_2), ())

def s103_t0 : Templ := ⟨80, [(.int .i64), (.int .i64), (.slice .str), (.int .i64), (.slice (.pair .str (.pair (.slice (.int .i64)) (.slice .str)))), .str, (.slice (.int .i64)), (.slice .str)], [(1, .v (.hole (.int .i64))), (2, .v (.bptr 80 0)), (5, .v (.bptr 81 0)), (6, .v (.hole (.int .i64)))], [(80, .box (.pair (.slice .str) (.pair (.int .i64) (.slice (.pair .str (.pair (.slice (.int .i64)) (.slice .str)))))) [.hole (.slice .str), .hole (.int .i64), .hole (.slice (.pair .str (.pair (.slice (.int .i64)) (.slice .str))))]), (81, .box (.pair .str (.pair (.slice (.int .i64)) (.slice .str))) [.hole .str, .hole (.slice (.int .i64)), .hole (.slice .str)])], []⟩
def s103_x0 : List (Way × Templ) := [(.exit 0, ⟨80, [(.slice .str), (.int .i64), (.slice (.pair .str (.pair (.slice (.int .i64)) (.slice .str)))), .str, (.slice (.int .i64)), (.slice .str)], [(2, .v (.bptr 80 0)), (5, .v (.bptr 81 0))], [(80, .box (.pair (.slice .str) (.pair (.int .i64) (.slice (.pair .str (.pair (.slice (.int .i64)) (.slice .str)))))) [.hole (.slice .str), .hole (.int .i64), .hole (.slice (.pair .str (.pair (.slice (.int .i64)) (.slice .str))))]), (81, .box (.pair .str (.pair (.slice (.int .i64)) (.slice .str))) [.hole .str, .hole (.slice (.int .i64)), .hole (.slice .str)])], []⟩), (.ret, ⟨80, [(.int .i64)], [(4, .v (.hole (.int .i64)))], [], []⟩)]
def s103_o0 (n : Nat) : Ev (denL [(.int .i64)]) := loopO n (e51 n) s103_t0 s103_x0 (s103_l0 n)
theorem s103_b0 (n : Nat) (d) (again) (ks) : codeR (R := (denL [(.int .i64)])) (e51 n) (Hdl.no (R := (denL [(.int .i64)]))) (inn (lp (bd Go.Proofs.Try.f103) 0)) [] (mk s103_t0 d) (turnR (e51 n) s103_t0 s103_x0 again ks) = s103_l0 n d again ks := by kernel_rfl
theorem s103_s0 (n : Nat) : Sound Go.Proofs.Try.prog (Hdl.no (R := (denL [(.int .i64)]))) false (lp (bd Go.Proofs.Try.f103) 0) (s103_o0 n) := loop_ok (h51 n) hP (by kernel_rfl) (O := []) trivial (s103_b0 n)
def s103_t1 : Templ := ⟨80, [(.int .i64), (.slice .str), (.int .i64), (.slice (.pair .str (.pair (.slice (.int .i64)) (.slice .str)))), .str, (.slice (.int .i64)), (.slice .str)], [(2, .v (.bptr 80 0)), (5, .v (.bptr 81 0)), (7, .v (.hole (.int .i64)))], [(80, .box (.pair (.slice .str) (.pair (.int .i64) (.slice (.pair .str (.pair (.slice (.int .i64)) (.slice .str)))))) [.hole (.slice .str), .hole (.int .i64), .hole (.slice (.pair .str (.pair (.slice (.int .i64)) (.slice .str))))]), (81, .box (.pair .str (.pair (.slice (.int .i64)) (.slice .str))) [.hole .str, .hole (.slice (.int .i64)), .hole (.slice .str)])], []⟩
def s103_x1 : List (Way × Templ) := [(.exit 2, ⟨80, [.str, (.slice (.int .i64)), (.slice .str)], [(5, .v (.bptr 80 0))], [(80, .box (.pair .str (.pair (.slice (.int .i64)) (.slice .str))) [.hole .str, .hole (.slice (.int .i64)), .hole (.slice .str)])], []⟩), (.ret, ⟨80, [(.int .i64)], [(4, .v (.hole (.int .i64)))], [], []⟩)]
def s103_o1 (n : Nat) : Ev (denL [(.int .i64)]) := loopO n (e51 n) s103_t1 s103_x1 (s103_l1 n)
theorem s103_b1 (n : Nat) (d) (again) (ks) : codeR (R := (denL [(.int .i64)])) (e51 n) (Hdl.no (R := (denL [(.int .i64)]))) (inn (lp (bd Go.Proofs.Try.f103) 1)) [] (mk s103_t1 d) (turnR (e51 n) s103_t1 s103_x1 again ks) = s103_l1 n d again ks := by kernel_rfl
theorem s103_s1 (n : Nat) : Sound Go.Proofs.Try.prog (Hdl.no (R := (denL [(.int .i64)]))) false (lp (bd Go.Proofs.Try.f103) 1) (s103_o1 n) := loop_ok (h51 n) hP (by kernel_rfl) (O := []) trivial (s103_b1 n)
def s103_t2 : Templ := ⟨80, [(.int .i64), .str, (.slice (.int .i64)), (.slice .str)], [(5, .v (.bptr 80 0)), (8, .v (.hole (.int .i64)))], [(80, .box (.pair .str (.pair (.slice (.int .i64)) (.slice .str))) [.hole .str, .hole (.slice (.int .i64)), .hole (.slice .str)])], []⟩
def s103_x2 : List (Way × Templ) := [(.exit 4, ⟨80, [], [], [], []⟩), (.ret, ⟨80, [(.int .i64)], [(4, .v (.hole (.int .i64)))], [], []⟩)]
def s103_o2 (n : Nat) : Ev (denL [(.int .i64)]) := loopO n (e51 n) s103_t2 s103_x2 (s103_l2 n)
theorem s103_b2 (n : Nat) (d) (again) (ks) : codeR (R := (denL [(.int .i64)])) (e51 n) (Hdl.no (R := (denL [(.int .i64)]))) (inn (lp (bd Go.Proofs.Try.f103) 2)) [] (mk s103_t2 d) (turnR (e51 n) s103_t2 s103_x2 again ks) = s103_l2 n d again ks := by kernel_rfl
theorem s103_s2 (n : Nat) : Sound Go.Proofs.Try.prog (Hdl.no (R := (denL [(.int .i64)]))) false (lp (bd Go.Proofs.Try.f103) 2) (s103_o2 n) := loop_ok (h51 n) hP (by kernel_rfl) (O := []) trivial (s103_b2 n)
def s103_c (n : Nat) : Con := ⟨[(.pair (.slice .str) (.pair (.int .i64) (.slice (.pair .str (.pair (.slice (.int .i64)) (.slice .str)))))), (.int .i64)], [], [(.int .i64)], fun x y => s103 n x.1 x.2, false⟩
theorem s103_eq (n : Nat) (x : denL [(.pair (.slice .str) (.pair (.int .i64) (.slice (.pair .str (.pair (.slice (.int .i64)) (.slice .str)))))), (.int .i64)]) (y : denL []) : funR (e51 n) Go.Proofs.Try.f103 [(.pair (.slice .str) (.pair (.int .i64) (.slice (.pair .str (.pair (.slice (.int .i64)) (.slice .str)))))), (.int .i64)] [] [(.int .i64)] false [s103_o0 n, s103_o1 n, s103_o2 n] x y = (s103_c n).fn x y := by kernel_rfl
theorem s103_ok (n : Nat) : ConOK Go.Proofs.Try.prog 103 (s103_c n) := func_ok (h51 n) hP Go.Proofs.Try.func103 (by kernel_rfl) (by kernel_rfl) (O := [s103_o0 n, s103_o1 n, s103_o2 n]) ⟨s103_s0 n, s103_s1 n, s103_s2 n, trivial⟩ (s103_eq n)
def e52 (n : Nat) : Env := ⟨gT, (103, s103_c n) :: (e51 n).C, gQ, (e51 n).I⟩
theorem h52 (n : Nat) : EnvOK Go.Proofs.Try.prog (e52 n) := env_add (h51 n) (s103_ok n)

def s39_l0 (n : Nat) (d : Int × (List (List UInt8)) × Int × (List ((List UInt8) × (List Int) × (List (List UInt8)))) × Unit) (again : (Int × (List (List UInt8)) × Int × (List ((List UInt8) × (List Int) × (List (List UInt8)))) × Unit) → Option (Int × Int)) (ks : ((List (List UInt8)) × Int × (List ((List UInt8) × (List Int) × (List (List UInt8)))) × Unit → Option (Int × Int)) × (Int × Int × Unit → Option (Int × Int)) × Unit) : Option (Int × Int) :=
  match d, ks with
  | (i, b, b_1, b_2, _), (k0, k1, _) =>
  bif (decide (i < ((List.length b : Nat) : Int))) then
    (geti b i).bind fun e =>
    (s101 n e).bind fun x =>
    bif (!x) then
      k1 ((0 : Int), (4 : Int), ())
    else
      (cut b 0 i).bind fun x_1 =>
      (geti b i).bind fun e_1 =>
      (s102 n x_1 e_1).bind fun x_2 =>
      bif x_2 then
        k1 ((0 : Int), (5 : Int), ())
      else
        again ((IntKind.wrap .i64 (i + (1 : Int))), b, b_1, b_2, ())
  else
    k0 (b, b_1, b_2, ())

def s39_l1 (n : Nat) (d : Int × (List (List UInt8)) × Int × (List ((List UInt8) × (List Int) × (List (List UInt8)))) × Unit) (again : (Int × (List (List UInt8)) × Int × (List ((List UInt8) × (List Int) × (List (List UInt8)))) × Unit) → Option (Int × Int)) (ks : (Unit → Option (Int × Int)) × (Int × Int × Unit → Option (Int × Int)) × Unit) : Option (Int × Int) :=
  match d, ks with
  | (i, b, b_1, b_2, _), (k0, k1, _) =>
  bif (decide (i < ((List.length b_2 : Nat) : Int))) then
    (s103 n (b, (b_1, b_2)) i).bind fun x =>
    bif (x != (0 : Int)) then
      k1 (i, x, ())
    else
      again ((IntKind.wrap .i64 (i + (1 : Int))), b, b_1, b_2, ())
  else
    k0 (())

/-- criadera/criaderaref07.CheckBook -/
def s39 (n : Nat) (b : (List (List UInt8)) × Int × (List ((List UInt8) × (List Int) × (List (List UInt8))))) : Option (Int × Int) :=
  bif ((((List.length b.1 : Nat) : Int) == (0 : Int)) || (((List.length b.2.2 : Nat) : Int) == (0 : Int))) then
    some ((0 : Int), (10 : Int))
  else
    bif ((decide (((List.length b.1 : Nat) : Int) > (6 : Int))) || (decide (((List.length b.2.2 : Nat) : Int) > (8 : Int)))) then
      some ((0 : Int), (8 : Int))
    else
      loopG (s39_l0 n) n ((0 : Int), b.1, b.2.1, b.2.2, ())
        (fun (b_4, b_5, b_6, _) =>
          (s19 n b_5 (0 : Int) (IntKind.wrap .i64 (((List.length b_6 : Nat) : Int) - (1 : Int)))).bind fun x_3 =>
          bif (!x_3) then
            some ((0 : Int), (6 : Int))
          else
            loopG (s39_l1 n) n ((0 : Int), b_4, b_5, b_6, ())
              (fun (_) =>
                some ((0 : Int), (0 : Int)),
              fun (t2, t3, _) =>
                some (t2, t3), ()),
        fun (t2_1, t3_1, _) =>
          some (t2_1, t3_1), ())

def s39_t0 : Templ := ⟨73, [(.int .i64), (.slice .str), (.int .i64), (.slice (.pair .str (.pair (.slice (.int .i64)) (.slice .str))))], [(1, .v (.bptr 73 0)), (4, .v (.hole (.int .i64)))], [(73, .box (.pair (.slice .str) (.pair (.int .i64) (.slice (.pair .str (.pair (.slice (.int .i64)) (.slice .str)))))) [.hole (.slice .str), .hole (.int .i64), .hole (.slice (.pair .str (.pair (.slice (.int .i64)) (.slice .str))))])], []⟩
def s39_x0 : List (Way × Templ) := [(.exit 0, ⟨73, [(.slice .str), (.int .i64), (.slice (.pair .str (.pair (.slice (.int .i64)) (.slice .str))))], [(1, .v (.bptr 73 0))], [(73, .box (.pair (.slice .str) (.pair (.int .i64) (.slice (.pair .str (.pair (.slice (.int .i64)) (.slice .str)))))) [.hole (.slice .str), .hole (.int .i64), .hole (.slice (.pair .str (.pair (.slice (.int .i64)) (.slice .str))))])], []⟩), (.ret, ⟨73, [(.int .i64), (.int .i64)], [(2, .v (.hole (.int .i64))), (3, .v (.hole (.int .i64)))], [], []⟩)]
def s39_o0 (n : Nat) : Ev (denL [(.int .i64), (.int .i64)]) := loopO n (e52 n) s39_t0 s39_x0 (s39_l0 n)
theorem s39_b0 (n : Nat) (d) (again) (ks) : codeR (R := (denL [(.int .i64), (.int .i64)])) (e52 n) (Hdl.no (R := (denL [(.int .i64), (.int .i64)]))) (inn (lp (bd Go.Proofs.Try.f39) 0)) [] (mk s39_t0 d) (turnR (e52 n) s39_t0 s39_x0 again ks) = s39_l0 n d again ks := by kernel_rfl
theorem s39_s0 (n : Nat) : Sound Go.Proofs.Try.prog (Hdl.no (R := (denL [(.int .i64), (.int .i64)]))) false (lp (bd Go.Proofs.Try.f39) 0) (s39_o0 n) := loop_ok (h52 n) hP (by kernel_rfl) (O := []) trivial (s39_b0 n)
def s39_t1 : Templ := ⟨73, [(.int .i64), (.slice .str), (.int .i64), (.slice (.pair .str (.pair (.slice (.int .i64)) (.slice .str))))], [(1, .v (.bptr 73 0)), (5, .v (.hole (.int .i64)))], [(73, .box (.pair (.slice .str) (.pair (.int .i64) (.slice (.pair .str (.pair (.slice (.int .i64)) (.slice .str)))))) [.hole (.slice .str), .hole (.int .i64), .hole (.slice (.pair .str (.pair (.slice (.int .i64)) (.slice .str))))])], []⟩
def s39_x1 : List (Way × Templ) := [(.exit 2, ⟨73, [], [], [], []⟩), (.ret, ⟨73, [(.int .i64), (.int .i64)], [(2, .v (.hole (.int .i64))), (3, .v (.hole (.int .i64)))], [], []⟩)]
def s39_o1 (n : Nat) : Ev (denL [(.int .i64), (.int .i64)]) := loopO n (e52 n) s39_t1 s39_x1 (s39_l1 n)
theorem s39_b1 (n : Nat) (d) (again) (ks) : codeR (R := (denL [(.int .i64), (.int .i64)])) (e52 n) (Hdl.no (R := (denL [(.int .i64), (.int .i64)]))) (inn (lp (bd Go.Proofs.Try.f39) 1)) [] (mk s39_t1 d) (turnR (e52 n) s39_t1 s39_x1 again ks) = s39_l1 n d again ks := by kernel_rfl
theorem s39_s1 (n : Nat) : Sound Go.Proofs.Try.prog (Hdl.no (R := (denL [(.int .i64), (.int .i64)]))) false (lp (bd Go.Proofs.Try.f39) 1) (s39_o1 n) := loop_ok (h52 n) hP (by kernel_rfl) (O := []) trivial (s39_b1 n)
def s39_c (n : Nat) : Con := ⟨[(.pair (.slice .str) (.pair (.int .i64) (.slice (.pair .str (.pair (.slice (.int .i64)) (.slice .str))))))], [], [(.int .i64), (.int .i64)], fun x y => s39 n x, false⟩
theorem s39_eq (n : Nat) (x : denL [(.pair (.slice .str) (.pair (.int .i64) (.slice (.pair .str (.pair (.slice (.int .i64)) (.slice .str))))))]) (y : denL []) : funR (e52 n) Go.Proofs.Try.f39 [(.pair (.slice .str) (.pair (.int .i64) (.slice (.pair .str (.pair (.slice (.int .i64)) (.slice .str))))))] [] [(.int .i64), (.int .i64)] false [s39_o0 n, s39_o1 n] x y = (s39_c n).fn x y := by kernel_rfl
theorem s39_ok (n : Nat) : ConOK Go.Proofs.Try.prog 39 (s39_c n) := func_ok (h52 n) hP Go.Proofs.Try.func39 (by kernel_rfl) (by kernel_rfl) (O := [s39_o0 n, s39_o1 n]) ⟨s39_s0 n, s39_s1 n, trivial⟩ (s39_eq n)
def e53 (n : Nat) : Env := ⟨gT, (39, s39_c n) :: (e52 n).C, gQ, (e52 n).I⟩
theorem h53 (n : Nat) : EnvOK Go.Proofs.Try.prog (e53 n) := env_add (h52 n) (s39_ok n)

/-- criadera/criaderaref07.BookErr -/
def s17 (n : Nat) (b : (List (List UInt8)) × Int × (List ((List UInt8) × (List Int) × (List (List UInt8))))) : Option (Int) :=
  (s39 n (b.1, (b.2.1, b.2.2))).bind fun x =>
  some (x.2)

def s17_c (n : Nat) : Con := ⟨[(.pair (.slice .str) (.pair (.int .i64) (.slice (.pair .str (.pair (.slice (.int .i64)) (.slice .str))))))], [], [(.int .i64)], fun x y => s17 n x, false⟩
theorem s17_eq (n : Nat) (x : denL [(.pair (.slice .str) (.pair (.int .i64) (.slice (.pair .str (.pair (.slice (.int .i64)) (.slice .str))))))]) (y : denL []) : funR (e53 n) Go.Proofs.Try.f17 [(.pair (.slice .str) (.pair (.int .i64) (.slice (.pair .str (.pair (.slice (.int .i64)) (.slice .str))))))] [] [(.int .i64)] false [] x y = (s17_c n).fn x y := by kernel_rfl
theorem s17_ok (n : Nat) : ConOK Go.Proofs.Try.prog 17 (s17_c n) := func_ok (h53 n) hP Go.Proofs.Try.func17 (by kernel_rfl) (by kernel_rfl) (O := []) trivial (s17_eq n)
def e54 (n : Nat) : Env := ⟨gT, (17, s17_c n) :: (e53 n).C, gQ, (e53 n).I⟩
theorem h54 (n : Nat) : EnvOK Go.Proofs.Try.prog (e54 n) := env_add (h53 n) (s17_ok n)

def s18_l0 (n : Nat) (d : (List Int) × Int × (List (List UInt8)) × Int × (List ((List UInt8) × (List Int) × (List (List UInt8)))) × Unit) (again : ((List Int) × Int × (List (List UInt8)) × Int × (List ((List UInt8) × (List Int) × (List (List UInt8)))) × Unit) → Option (Int)) (ks : (Unit → Option (Int)) × (Int × Unit → Option (Int)) × Unit) : Option (Int) :=
  match d, ks with
  | (marks, i, b, b_1, b_2, _), (k0, k1, _) =>
  bif (decide (i < ((List.length marks : Nat) : Int))) then
    (geti marks i).bind fun e =>
    (s19 n e (0 : Int) (IntKind.wrap .i64 (((List.length b : Nat) : Int) - (1 : Int)))).bind fun x =>
    bif (!x) then
      k1 ((6 : Int), ())
    else
      again (marks, (IntKind.wrap .i64 (i + (1 : Int))), b, b_1, b_2, ())
  else
    k0 (())

/-- criadera/criaderaref07.MarksErr -/
def s18 (n : Nat) (b : (List (List UInt8)) × Int × (List ((List UInt8) × (List Int) × (List (List UInt8))))) (marks : List Int) : Option (Int) :=
  bif (decide (((List.length marks : Nat) : Int) > (40 : Int))) then
    some ((8 : Int))
  else
    loopG (s18_l0 n) n (marks, (0 : Int), b.1, b.2.1, b.2.2, ())
      (fun (_) =>
        some ((0 : Int)),
      fun (t4, _) =>
        some (t4), ())

def s18_t0 : Templ := ⟨25, [(.slice (.int .i64)), (.int .i64), (.slice .str), (.int .i64), (.slice (.pair .str (.pair (.slice (.int .i64)) (.slice .str))))], [(1, .v (.hole (.slice (.int .i64)))), (2, .v (.bptr 25 0)), (5, .v (.hole (.int .i64)))], [(25, .box (.pair (.slice .str) (.pair (.int .i64) (.slice (.pair .str (.pair (.slice (.int .i64)) (.slice .str)))))) [.hole (.slice .str), .hole (.int .i64), .hole (.slice (.pair .str (.pair (.slice (.int .i64)) (.slice .str))))])], []⟩
def s18_x0 : List (Way × Templ) := [(.exit 0, ⟨25, [], [], [], []⟩), (.ret, ⟨25, [(.int .i64)], [(4, .v (.hole (.int .i64)))], [], []⟩)]
def s18_o0 (n : Nat) : Ev (denL [(.int .i64)]) := loopO n (e54 n) s18_t0 s18_x0 (s18_l0 n)
theorem s18_b0 (n : Nat) (d) (again) (ks) : codeR (R := (denL [(.int .i64)])) (e54 n) (Hdl.no (R := (denL [(.int .i64)]))) (inn (lp (bd Go.Proofs.Try.f18) 0)) [] (mk s18_t0 d) (turnR (e54 n) s18_t0 s18_x0 again ks) = s18_l0 n d again ks := by kernel_rfl
theorem s18_s0 (n : Nat) : Sound Go.Proofs.Try.prog (Hdl.no (R := (denL [(.int .i64)]))) false (lp (bd Go.Proofs.Try.f18) 0) (s18_o0 n) := loop_ok (h54 n) hP (by kernel_rfl) (O := []) trivial (s18_b0 n)
def s18_c (n : Nat) : Con := ⟨[(.pair (.slice .str) (.pair (.int .i64) (.slice (.pair .str (.pair (.slice (.int .i64)) (.slice .str)))))), (.slice (.int .i64))], [], [(.int .i64)], fun x y => s18 n x.1 x.2, false⟩
theorem s18_eq (n : Nat) (x : denL [(.pair (.slice .str) (.pair (.int .i64) (.slice (.pair .str (.pair (.slice (.int .i64)) (.slice .str)))))), (.slice (.int .i64))]) (y : denL []) : funR (e54 n) Go.Proofs.Try.f18 [(.pair (.slice .str) (.pair (.int .i64) (.slice (.pair .str (.pair (.slice (.int .i64)) (.slice .str)))))), (.slice (.int .i64))] [] [(.int .i64)] false [s18_o0 n] x y = (s18_c n).fn x y := by kernel_rfl
theorem s18_ok (n : Nat) : ConOK Go.Proofs.Try.prog 18 (s18_c n) := func_ok (h54 n) hP Go.Proofs.Try.func18 (by kernel_rfl) (by kernel_rfl) (O := [s18_o0 n]) ⟨s18_s0 n, trivial⟩ (s18_eq n)
def e55 (n : Nat) : Env := ⟨gT, (18, s18_c n) :: (e54 n).C, gQ, (e54 n).I⟩
theorem h55 (n : Nat) : EnvOK Go.Proofs.Try.prog (e55 n) := env_add (h54 n) (s18_ok n)

/-- criadera/criaderabase.CopyTexts -/
def s84 (n : Nat) (l : List (List UInt8)) : Option ((List (List UInt8))) :=
  (chk (List.length ([] : List (List UInt8)) + List.length l)).bind fun u =>
  some ((([] : List (List UInt8)) ++ l))

def s84_c (n : Nat) : Con := ⟨[(.slice .str)], [], [(.slice .str)], fun x y => s84 n x, false⟩
theorem s84_eq (n : Nat) (x : denL [(.slice .str)]) (y : denL []) : funR (e55 n) Go.Proofs.Try.f84 [(.slice .str)] [] [(.slice .str)] false [] x y = (s84_c n).fn x y := by kernel_rfl
theorem s84_ok (n : Nat) : ConOK Go.Proofs.Try.prog 84 (s84_c n) := func_ok (h55 n) hP Go.Proofs.Try.func84 (by kernel_rfl) (by kernel_rfl) (O := []) trivial (s84_eq n)
def e56 (n : Nat) : Env := ⟨gT, (84, s84_c n) :: (e55 n).C, gQ, (e55 n).I⟩
theorem h56 (n : Nat) : EnvOK Go.Proofs.Try.prog (e56 n) := env_add (h55 n) (s84_ok n)

/-- criadera/criaderabase.CopyInts -/
def s27 (n : Nat) (l : List Int) : Option ((List Int)) :=
  (chk (List.length ([] : List Int) + List.length l)).bind fun u =>
  some (([] : List Int) ++ l)

def s27_c (n : Nat) : Con := ⟨[(.slice (.int .i64))], [], [(.slice (.int .i64))], fun x y => s27 n x, true⟩
theorem s27_eq (n : Nat) (x : denL [(.slice (.int .i64))]) (y : denL []) : funR (e56 n) Go.Proofs.Try.f27 [(.slice (.int .i64))] [] [(.slice (.int .i64))] true [] x y = (s27_c n).fn x y := by kernel_rfl
theorem s27_ok (n : Nat) : ConOK Go.Proofs.Try.prog 27 (s27_c n) := func_ok (h56 n) hP Go.Proofs.Try.func27 (by kernel_rfl) (by kernel_rfl) (O := []) trivial (s27_eq n)
def e57 (n : Nat) : Env := ⟨gT, (27, s27_c n) :: (e56 n).C, gQ, (e56 n).I⟩
theorem h57 (n : Nat) : EnvOK Go.Proofs.Try.prog (e57 n) := env_add (h56 n) (s27_ok n)

def s21_l0 (n : Nat) (d : Int × (List (List UInt8)) × Int × (List ((List UInt8) × (List Int) × (List (List UInt8)))) × Int × (List (List UInt8)) × Int × (List ((List UInt8) × (List Int) × (List (List UInt8)))) × Unit) (again : (Int × (List (List UInt8)) × Int × (List ((List UInt8) × (List Int) × (List (List UInt8)))) × Int × (List (List UInt8)) × Int × (List ((List UInt8) × (List Int) × (List (List UInt8)))) × Unit) → Option (((List (List UInt8)) × Int × (List ((List UInt8) × (List Int) × (List (List UInt8))))))) (ks : (Int × (List (List UInt8)) × Int × (List ((List UInt8) × (List Int) × (List (List UInt8)))) × Unit → Option (((List (List UInt8)) × Int × (List ((List UInt8) × (List Int) × (List (List UInt8))))))) × Unit) : Option (((List (List UInt8)) × Int × (List ((List UInt8) × (List Int) × (List (List UInt8)))))) :=
  match d, ks with
  | (i, b, b_1, b_2, t2, out, out_1, out_2, _), (k0, _) =>
  bif (decide (i < ((List.length b_2 : Nat) : Int))) then
    (geti b_2 i).bind fun e =>
    (s27 n e.2.1).bind fun x =>
    (s84 n e.2.2).bind fun x_1 =>
    (chk (List.length out_2 + List.length ([(e.1, (x, x_1))] : List ((List UInt8) × (List Int) × (List (List UInt8)))))).bind fun u =>
    again ((IntKind.wrap .i64 (i + (1 : Int))), b, b_1, b_2, t2, out, out_1, (out_2 ++ ([(e.1, (x, x_1))] : List ((List UInt8) × (List Int) × (List (List UInt8))))), ())
  else
    k0 (t2, out, out_1, out_2, ())

/-- criadera/criaderaref07.Copy -/
def s21 (n : Nat) (b : (List (List UInt8)) × Int × (List ((List UInt8) × (List Int) × (List (List UInt8))))) : Option (((List (List UInt8)) × Int × (List ((List UInt8) × (List Int) × (List (List UInt8)))))) :=
  (s84 n b.1).bind fun x =>
  loopG (s21_l0 n) n ((0 : Int), b.1, b.2.1, b.2.2, (0 : Int), x, b.2.1, ([] : List ((List UInt8) × (List Int) × (List (List UInt8)))), ())
    (fun (t2_1, out_3, out_4, out_5, _) =>
      some ((out_3, (out_4, out_5))), ())

def s21_t0 : Templ := ⟨39, [(.int .i64), (.slice .str), (.int .i64), (.slice (.pair .str (.pair (.slice (.int .i64)) (.slice .str)))), (.int .i64), (.slice .str), (.int .i64), (.slice (.pair .str (.pair (.slice (.int .i64)) (.slice .str))))], [(1, .v (.bptr 39 0)), (2, .v (.bptr 40 0)), (3, .v (.bptr 41 0)), (4, .v (.hole (.int .i64)))], [(39, .box (.pair (.slice .str) (.pair (.int .i64) (.slice (.pair .str (.pair (.slice (.int .i64)) (.slice .str)))))) [.hole (.slice .str), .hole (.int .i64), .hole (.slice (.pair .str (.pair (.slice (.int .i64)) (.slice .str))))]), (40, .box (.pair (.slice .str) (.pair (.int .i64) (.slice (.pair .str (.pair (.slice (.int .i64)) (.slice .str)))))) [.nils, .hole (.int .i64), .nils]), (41, .box (.pair (.slice .str) (.pair (.int .i64) (.slice (.pair .str (.pair (.slice (.int .i64)) (.slice .str)))))) [.hole (.slice .str), .hole (.int .i64), .hand 42]), (42, .buf (.pair .str (.pair (.slice (.int .i64)) (.slice .str))))], []⟩
def s21_x0 : List (Way × Templ) := [(.exit 0, ⟨39, [(.int .i64), (.slice .str), (.int .i64), (.slice (.pair .str (.pair (.slice (.int .i64)) (.slice .str))))], [(2, .v (.bptr 39 0)), (3, .v (.bptr 40 0))], [(39, .box (.pair (.slice .str) (.pair (.int .i64) (.slice (.pair .str (.pair (.slice (.int .i64)) (.slice .str)))))) [.nils, .hole (.int .i64), .nils]), (40, .box (.pair (.slice .str) (.pair (.int .i64) (.slice (.pair .str (.pair (.slice (.int .i64)) (.slice .str)))))) [.hole (.slice .str), .hole (.int .i64), .hand 41]), (41, .buf (.pair .str (.pair (.slice (.int .i64)) (.slice .str))))], []⟩)]
def s21_o0 (n : Nat) : Ev (denL [(.pair (.slice .str) (.pair (.int .i64) (.slice (.pair .str (.pair (.slice (.int .i64)) (.slice .str))))))]) := loopO n (e57 n) s21_t0 s21_x0 (s21_l0 n)
theorem s21_b0 (n : Nat) (d) (again) (ks) : codeR (R := (denL [(.pair (.slice .str) (.pair (.int .i64) (.slice (.pair .str (.pair (.slice (.int .i64)) (.slice .str))))))])) (e57 n) (Hdl.no (R := (denL [(.pair (.slice .str) (.pair (.int .i64) (.slice (.pair .str (.pair (.slice (.int .i64)) (.slice .str))))))]))) (inn (lp (bd Go.Proofs.Try.f21) 0)) [] (mk s21_t0 d) (turnR (e57 n) s21_t0 s21_x0 again ks) = s21_l0 n d again ks := by kernel_rfl
theorem s21_s0 (n : Nat) : Sound Go.Proofs.Try.prog (Hdl.no (R := (denL [(.pair (.slice .str) (.pair (.int .i64) (.slice (.pair .str (.pair (.slice (.int .i64)) (.slice .str))))))]))) false (lp (bd Go.Proofs.Try.f21) 0) (s21_o0 n) := loop_ok (h57 n) hP (by kernel_rfl) (O := []) trivial (s21_b0 n)
def s21_c (n : Nat) : Con := ⟨[(.pair (.slice .str) (.pair (.int .i64) (.slice (.pair .str (.pair (.slice (.int .i64)) (.slice .str))))))], [], [(.pair (.slice .str) (.pair (.int .i64) (.slice (.pair .str (.pair (.slice (.int .i64)) (.slice .str))))))], fun x y => s21 n x, false⟩
theorem s21_eq (n : Nat) (x : denL [(.pair (.slice .str) (.pair (.int .i64) (.slice (.pair .str (.pair (.slice (.int .i64)) (.slice .str))))))]) (y : denL []) : funR (e57 n) Go.Proofs.Try.f21 [(.pair (.slice .str) (.pair (.int .i64) (.slice (.pair .str (.pair (.slice (.int .i64)) (.slice .str))))))] [] [(.pair (.slice .str) (.pair (.int .i64) (.slice (.pair .str (.pair (.slice (.int .i64)) (.slice .str))))))] false [s21_o0 n] x y = (s21_c n).fn x y := by kernel_rfl
theorem s21_ok (n : Nat) : ConOK Go.Proofs.Try.prog 21 (s21_c n) := func_ok (h57 n) hP Go.Proofs.Try.func21 (by kernel_rfl) (by kernel_rfl) (O := [s21_o0 n]) ⟨s21_s0 n, trivial⟩ (s21_eq n)
def e58 (n : Nat) : Env := ⟨gT, (21, s21_c n) :: (e57 n).C, gQ, (e57 n).I⟩
theorem h58 (n : Nat) : EnvOK Go.Proofs.Try.prog (e58 n) := env_add (h57 n) (s21_ok n)

def s40_l0 (n : Nat) (d : (List Int) × Int × (List (List UInt8)) × Int × (List ((List UInt8) × (List Int) × (List (List UInt8)))) × (List Int) × Unit) (again : ((List Int) × Int × (List (List UInt8)) × Int × (List ((List UInt8) × (List Int) × (List (List UInt8)))) × (List Int) × Unit) → Option ((List Int))) (ks : ((List Int) × Unit → Option ((List Int))) × Unit) : Option ((List Int)) :=
  match d, ks with
  | (marks, i, b, b_1, b_2, out, _), (k0, _) =>
  bif (decide (i < ((List.length marks : Nat) : Int))) then
    (geti out i).bind fun e =>
    (geti out i).bind fun x =>
    (geti b_2 x).bind fun e_1 =>
    (geti marks i).bind fun e_2 =>
    (geti e_1.2.1 e_2).bind fun e_3 =>
    (chk (List.length out + List.length ([e_3] : List Int))).bind fun u =>
    again (marks, (IntKind.wrap .i64 (i + (1 : Int))), b, b_1, b_2, (out ++ ([e_3] : List Int)), ())
  else
    k0 (out, ())

/-- criadera/criaderaref07.Walk -/
def s40 (n : Nat) (b : (List (List UInt8)) × Int × (List ((List UInt8) × (List Int) × (List (List UInt8))))) (marks : List Int) : Option ((List Int)) :=
  loopG (s40_l0 n) n (marks, (0 : Int), b.1, b.2.1, b.2.2, ([b.2.1] : List Int), ())
    (fun (out_1, _) =>
      some (out_1), ())

def s40_t0 : Templ := ⟨35, [(.slice (.int .i64)), (.int .i64), (.slice .str), (.int .i64), (.slice (.pair .str (.pair (.slice (.int .i64)) (.slice .str)))), (.slice (.int .i64))], [(1, .v (.hole (.slice (.int .i64)))), (2, .v (.bptr 35 0)), (5, .v (.hand 36)), (6, .v (.hole (.int .i64)))], [(35, .box (.pair (.slice .str) (.pair (.int .i64) (.slice (.pair .str (.pair (.slice (.int .i64)) (.slice .str)))))) [.hole (.slice .str), .hole (.int .i64), .hole (.slice (.pair .str (.pair (.slice (.int .i64)) (.slice .str))))]), (36, .buf (.int .i64))], []⟩
def s40_x0 : List (Way × Templ) := [(.exit 0, ⟨35, [(.slice (.int .i64))], [(5, .v (.hand 35))], [(35, .buf (.int .i64))], []⟩)]
def s40_o0 (n : Nat) : Ev (denL [(.slice (.int .i64))]) := loopO n (e58 n) s40_t0 s40_x0 (s40_l0 n)
theorem s40_b0 (n : Nat) (d) (again) (ks) : codeR (R := (denL [(.slice (.int .i64))])) (e58 n) (Hdl.no (R := (denL [(.slice (.int .i64))]))) (inn (lp (bd Go.Proofs.Try.f40) 0)) [] (mk s40_t0 d) (turnR (e58 n) s40_t0 s40_x0 again ks) = s40_l0 n d again ks := by kernel_rfl
theorem s40_s0 (n : Nat) : Sound Go.Proofs.Try.prog (Hdl.no (R := (denL [(.slice (.int .i64))]))) false (lp (bd Go.Proofs.Try.f40) 0) (s40_o0 n) := loop_ok (h58 n) hP (by kernel_rfl) (O := []) trivial (s40_b0 n)
def s40_c (n : Nat) : Con := ⟨[(.pair (.slice .str) (.pair (.int .i64) (.slice (.pair .str (.pair (.slice (.int .i64)) (.slice .str)))))), (.slice (.int .i64))], [], [(.slice (.int .i64))], fun x y => s40 n x.1 x.2, false⟩
theorem s40_eq (n : Nat) (x : denL [(.pair (.slice .str) (.pair (.int .i64) (.slice (.pair .str (.pair (.slice (.int .i64)) (.slice .str)))))), (.slice (.int .i64))]) (y : denL []) : funR (e58 n) Go.Proofs.Try.f40 [(.pair (.slice .str) (.pair (.int .i64) (.slice (.pair .str (.pair (.slice (.int .i64)) (.slice .str)))))), (.slice (.int .i64))] [] [(.slice (.int .i64))] false [s40_o0 n] x y = (s40_c n).fn x y := by kernel_rfl
theorem s40_ok (n : Nat) : ConOK Go.Proofs.Try.prog 40 (s40_c n) := func_ok (h58 n) hP Go.Proofs.Try.func40 (by kernel_rfl) (by kernel_rfl) (O := [s40_o0 n]) ⟨s40_s0 n, trivial⟩ (s40_eq n)
def e59 (n : Nat) : Env := ⟨gT, (40, s40_c n) :: (e58 n).C, gQ, (e58 n).I⟩
theorem h59 (n : Nat) : EnvOK Go.Proofs.Try.prog (e59 n) := env_add (h58 n) (s40_ok n)

/-- criadera/criaderaref07.At -/
def s22 (n : Nat) (b : (List (List UInt8)) × Int × (List ((List UInt8) × (List Int) × (List (List UInt8))))) (marks : List Int) : Option (Int) :=
  (s40 n (b.1, (b.2.1, b.2.2)) marks).bind fun x =>
  (geti x (IntKind.wrap .i64 (((List.length x : Nat) : Int) - (1 : Int)))).bind fun e =>
  some (e)

def s22_c (n : Nat) : Con := ⟨[(.pair (.slice .str) (.pair (.int .i64) (.slice (.pair .str (.pair (.slice (.int .i64)) (.slice .str)))))), (.slice (.int .i64))], [], [(.int .i64)], fun x y => s22 n x.1 x.2, false⟩
theorem s22_eq (n : Nat) (x : denL [(.pair (.slice .str) (.pair (.int .i64) (.slice (.pair .str (.pair (.slice (.int .i64)) (.slice .str)))))), (.slice (.int .i64))]) (y : denL []) : funR (e59 n) Go.Proofs.Try.f22 [(.pair (.slice .str) (.pair (.int .i64) (.slice (.pair .str (.pair (.slice (.int .i64)) (.slice .str)))))), (.slice (.int .i64))] [] [(.int .i64)] false [] x y = (s22_c n).fn x y := by kernel_rfl
theorem s22_ok (n : Nat) : ConOK Go.Proofs.Try.prog 22 (s22_c n) := func_ok (h59 n) hP Go.Proofs.Try.func22 (by kernel_rfl) (by kernel_rfl) (O := []) trivial (s22_eq n)
def e60 (n : Nat) : Env := ⟨gT, (22, s22_c n) :: (e59 n).C, gQ, (e59 n).I⟩
theorem h60 (n : Nat) : EnvOK Go.Proofs.Try.prog (e60 n) := env_add (h59 n) (s22_ok n)

def s85_l0 (n : Nat) (d : (List Int) × (List Int) × Int × Unit) (again : ((List Int) × (List Int) × Int × Unit) → Option (Bool)) (ks : ((List Int) × (List Int) × Unit → Option (Bool)) × (Bool × Unit → Option (Bool)) × Unit) : Option (Bool) :=
  match d, ks with
  | (a, b, i, _), (k0, k1, _) =>
  bif ((decide (i < ((List.length a : Nat) : Int))) && (decide (i < ((List.length b : Nat) : Int)))) then
    (geti a i).bind fun e =>
    (geti b i).bind fun e_1 =>
    bif (e != e_1) then
      (geti a i).bind fun e_2 =>
      (geti b i).bind fun e_3 =>
      k1 ((decide (e_2 < e_3)), ())
    else
      again (a, b, (IntKind.wrap .i64 (i + (1 : Int))), ())
  else
    k0 (a, b, ())

/-- criadera/criaderabase.Before -/
def s85 (n : Nat) (a : List Int) (b : List Int) : Option (Bool) :=
  loopG (s85_l0 n) n (a, b, (0 : Int), ())
    (fun (a_2, b_2, _) =>
      some ((decide (((List.length a_2 : Nat) : Int) < ((List.length b_2 : Nat) : Int)))),
    fun (t4, _) =>
      some (t4), ())

def s85_t0 : Templ := ⟨41, [(.slice (.int .i64)), (.slice (.int .i64)), (.int .i64)], [(0, .v (.hole (.slice (.int .i64)))), (1, .v (.hole (.slice (.int .i64)))), (5, .v (.hole (.int .i64)))], [], []⟩
def s85_x0 : List (Way × Templ) := [(.exit 0, ⟨41, [(.slice (.int .i64)), (.slice (.int .i64))], [(0, .v (.hole (.slice (.int .i64)))), (1, .v (.hole (.slice (.int .i64))))], [], []⟩), (.ret, ⟨41, [.bool], [(4, .v (.hole .bool))], [], []⟩)]
def s85_o0 (n : Nat) : Ev (denL [.bool]) := loopO n (e60 n) s85_t0 s85_x0 (s85_l0 n)
theorem s85_b0 (n : Nat) (d) (again) (ks) : codeR (R := (denL [.bool])) (e60 n) (Hdl.no (R := (denL [.bool]))) (inn (lp (bd Go.Proofs.Try.f85) 0)) [] (mk s85_t0 d) (turnR (e60 n) s85_t0 s85_x0 again ks) = s85_l0 n d again ks := by kernel_rfl
theorem s85_s0 (n : Nat) : Sound Go.Proofs.Try.prog (Hdl.no (R := (denL [.bool]))) false (lp (bd Go.Proofs.Try.f85) 0) (s85_o0 n) := loop_ok (h60 n) hP (by kernel_rfl) (O := []) trivial (s85_b0 n)
def s85_c (n : Nat) : Con := ⟨[(.slice (.int .i64)), (.slice (.int .i64))], [], [.bool], fun x y => s85 n x.1 x.2, false⟩
theorem s85_eq (n : Nat) (x : denL [(.slice (.int .i64)), (.slice (.int .i64))]) (y : denL []) : funR (e60 n) Go.Proofs.Try.f85 [(.slice (.int .i64)), (.slice (.int .i64))] [] [.bool] false [s85_o0 n] x y = (s85_c n).fn x y := by kernel_rfl
theorem s85_ok (n : Nat) : ConOK Go.Proofs.Try.prog 85 (s85_c n) := func_ok (h60 n) hP Go.Proofs.Try.func85 (by kernel_rfl) (by kernel_rfl) (O := [s85_o0 n]) ⟨s85_s0 n, trivial⟩ (s85_eq n)
def e61 (n : Nat) : Env := ⟨gT, (85, s85_c n) :: (e60 n).C, gQ, (e60 n).I⟩
theorem h61 (n : Nat) : EnvOK Go.Proofs.Try.prog (e61 n) := env_add (h60 n) (s85_ok n)

/-- criadera/criaderalaw07.comes -/
def s23 (n : Nat) (a : List Int) (b : List Int) : Option (Bool) :=
  (part ((!(decide (((List.length a : Nat) : Int) < ((List.length b : Nat) : Int)))) && (((List.length a : Nat) : Int) == ((List.length b : Nat) : Int))) (s85 n a b) false).bind fun x =>
  some (((decide (((List.length a : Nat) : Int) < ((List.length b : Nat) : Int))) || ((((List.length a : Nat) : Int) == ((List.length b : Nat) : Int)) && x)))

def s23_c (n : Nat) : Con := ⟨[(.slice (.int .i64)), (.slice (.int .i64))], [], [.bool], fun x y => s23 n x.1 x.2, false⟩
theorem s23_eq (n : Nat) (x : denL [(.slice (.int .i64)), (.slice (.int .i64))]) (y : denL []) : funR (e61 n) Go.Proofs.Try.f23 [(.slice (.int .i64)), (.slice (.int .i64))] [] [.bool] false [] x y = (s23_c n).fn x y := by kernel_rfl
theorem s23_ok (n : Nat) : ConOK Go.Proofs.Try.prog 23 (s23_c n) := func_ok (h61 n) hP Go.Proofs.Try.func23 (by kernel_rfl) (by kernel_rfl) (O := []) trivial (s23_eq n)
def e62 (n : Nat) : Env := ⟨gT, (23, s23_c n) :: (e61 n).C, gQ, (e61 n).I⟩
theorem h62 (n : Nat) : EnvOK Go.Proofs.Try.prog (e62 n) := env_add (h61 n) (s23_ok n)

end Go.Abs
