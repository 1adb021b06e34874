/- The library's slices.Clone at []int: that the call does what its plain function says. No condition. -/
import Derived.Test.YtbcbiemjokpghaaProg
import Derived.Shelf.Slices.Clone
import Derived.Test.YtbcbiemjokpghaaNAbsY
set_option linter.unusedVariables false
namespace Go.Abs
open Go

def clRen : Go.Shelf.Ren := ⟨fun _ => 135, fun x => bif Nat.beq x 22 then 26 else x, fun x => x⟩

theorem clLays : Go.Proofs.Lays2.n15 Go.Proofs.Try.prog clRen where
  mixed := by kernel_rfl
  f15 := by kernel_rfl
  t3 := by kernel_rfl
  a3 := fun w => by kernel_rfl
  z3 := fun w => by kernel_rfl
  v3 := fun w => by kernel_rfl
  i3 := by kernel_rfl
  t4 := by kernel_rfl
  a4 := fun w => by kernel_rfl
  z4 := fun w => by kernel_rfl
  v4 := fun w => by kernel_rfl
  t22 := by kernel_rfl
  a22 := fun w => by kernel_rfl
  z22 := fun w => by kernel_rfl
  v22 := fun w => by kernel_rfl

/-- slices.Clone at []int. -/
def s135 (n : Nat) (s : List Int) : Option (List Int) := (chk (List.length s)).bind fun _ => some s

def s135_c (n : Nat) : Con := ⟨[.slice (.int .i64)], [], [.slice (.int .i64)], fun x y => s135 n x, true⟩

theorem clone_call (r : List Int) (w : World) (ok : Nat → Prop) (ad : Option Addr) (cap : Nat) (hmost : r.length ≤ most)
    (hrep : r = [] ∨ ∃ b off cs T fr, ad = some ⟨b, off, none⟩ ∧ ok b ∧ w.heap[b]? = some (.cells cs T fr) ∧ off + r.length * 1 ≤ cs.size ∧ ∀ i x, r[i]? = some x → chunk cs.toList (off + i * 1) 1 = [.int .i64 x]) :
    Calls Go.Proofs.Try.prog 135 #[.slice ad r.length cap] w fun e w' => ∃ v, e = .returned v ∧ Keeps w w' ∧ ResRep Go.Proofs.Try.prog w' (newOk ok w) [.slice (.int .i64)] v r ∧ (true = true → FreshC Go.Proofs.Try.prog w.heap.size w' (newOk ok w) [.slice (.int .i64)] v r) := by
  have fin : ∀ (w' : World) (v' : Value), w'.ownsRow w.heap.size 3 1 v' r.length (List.map (Value.int .i64) r) → Go.RowKit.Below w.heap.size w w' →
      ∃ v, Ending.returned v' = .returned v ∧ Keeps w w' ∧ ResRep Go.Proofs.Try.prog w' (newOk ok w) [.slice (.int .i64)] v r ∧ (true = true → FreshC Go.Proofs.Try.prog w.heap.size w' (newOk ok w) [.slice (.int .i64)] v r) := by
    intro w' v' ho hb
    have hf : FreshRep Go.Proofs.Try.prog w.heap.size w' (newOk ok w) (.int .i64) v' r := by
      obtain ⟨_, ⟨h1, h2⟩ | ⟨g, c, cur, h1, h2, h3, h4, h5, h6, h7⟩⟩ := ho
      · exact .inl ⟨h1, List.length_eq_zero_iff.1 h2⟩
      · refine .inr ⟨g, 0, c, cur, 3, h1, h2, h3, h4, h5, by simp [Ty.sz, h6], fun i z hi => ?_⟩
        have hlt : i < r.length := (List.getElem?_eq_some_iff.1 hi).1
        have hz : cur.toList[i]? = some (.int .i64 z) := by
          have : (cur.toList.take (r.length * 1))[i]? = some (.int .i64 z) := by rw [h7, List.getElem?_map, hi]; rfl
          rw [List.getElem?_take] at this
          split at this
          · exact this
          · cases this
        show chunk cur.toList (0 + i * 1) 1 = [.int .i64 z]
        have hl2 : i < cur.toList.length := (List.getElem?_eq_some_iff.1 hz).1
        rw [Nat.zero_add, Nat.mul_one]
        unfold chunk
        rw [List.drop_eq_getElem_cons hl2]
        have := (List.getElem?_eq_some_iff.1 hz).2
        simp [this]
    refine ⟨v', rfl, ⟨hb.os, hb.tape, hb.output, hb.size, hb.block⟩, ⟨[v'], rfl, ?_⟩, fun _ => hf⟩
    rcases hf with ⟨h1, h2⟩ | ⟨g, off, c, cur, T, h1, h2, h3, h4, h5, h6, h7⟩
    · refine ⟨none, 0, by rw [h1]; rw [show r = ([] : List Int) from h2]; rfl, by rw [show r = ([] : List Int) from h2]; exact Nat.le_refl _, .inl h2⟩
    · refine ⟨_, c, by rw [h1], h4, .inr ⟨g, off, cur, T, _, rfl, .inr h2, h3, ?_, fun i z hi => ?_⟩⟩
      · exact Nat.le_trans (Nat.add_le_add_left (Nat.mul_le_mul_right _ h4) _) h6
      · exact (h7 i z hi).re fun b hb _ => hb.1
  cases ad with
  | none =>
    have hnil : r = ([] : List Int) := by
      rcases hrep with h | ⟨b, off, cs, T, fr, h, _⟩
      · exact h
      · cases h
    subst hnil
    refine (Go.Proofs.Any.slices_Clone_int_nil clLays _ cap w).mono ?_
    rintro e w' ⟨rfl, rfl⟩
    exact fin w' _ ⟨by simp, .inl ⟨rfl, rfl⟩⟩ (Go.RowKit.Below.refl _ _)
  | some ad =>
    by_cases hne : r = ([] : List Int)
    · subst hne
      refine (Go.Proofs.Any.slices_Clone_int_zero clLays ad cap w).mono ?_
      rintro e w' ⟨v', rfl, h1, _, h2⟩
      exact fin w' v' h1 h2
    · rcases hrep with h | ⟨b, off, cs, T, fr, h, hok, hheap, hsz, hel⟩
      · exact absurd h hne
      · cases h
        refine (Go.Proofs.Any.slices_Clone_int clLays b off r.length cap r w (Nat.le_refl _) (by unfold most at hmost; omega) (fun j hj => ?_)).mono ?_
        · rw [cell_of_row w b (off + j) cs T fr hheap]
          have h1 : chunk cs.toList (off + j * 1) 1 = [.int .i64 (r[j]'hj)] := hel j _ (List.getElem?_eq_getElem hj)
          rw [Nat.mul_one] at h1
          have h2 : (chunk cs.toList (off + j) 1)[0]? = some (.int .i64 (r[j]'hj)) := by rw [h1]; rfl
          obtain ⟨_, h3⟩ := chunk_get h2
          rw [List.getD_eq_getElem?_getD, List.getElem?_eq_getElem hj]
          simpa using h3
        · rintro e w' ⟨v', rfl, h1, _, h2⟩
          rw [List.take_length] at h1
          exact fin w' v' h1 h2

theorem s135_ok (n : Nat) : ConOK Go.Proofs.Try.prog 135 (s135_c n) := by
  refine ⟨⟨_, Go.Proofs.Try.func135, by kernel_rfl, by kernel_rfl⟩, ?_⟩
  intro w ok vs cs x y r hx hy hr
  obtain ⟨us, rfl, ad, cap, rfl, hcap, hrep⟩ := hx
  have hcs : cs = [] := hy
  subst hcs
  have hr : (chk (List.length (α := Int) x)).bind (fun _ => some x) = some r := hr
  have hmost : List.length (α := Int) x ≤ most ∧ r = x := by
    unfold chk at hr
    split at hr
    · rename_i h; cases hr; exact ⟨h, rfl⟩
    · cases hr
  obtain ⟨hmost, rfl⟩ := hmost
  exact clone_call r w ok ad cap hmost hrep

end Go.Abs
