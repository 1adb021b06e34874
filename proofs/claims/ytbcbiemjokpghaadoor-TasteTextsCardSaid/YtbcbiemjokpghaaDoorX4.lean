/- Parts of one proof, joined: DERIVED: THE SHELF's CONTRACTS AT THIS DUMP, IN PLAIN WORDS (tools/lay-plain.mjs out of 'TrydShelf.lean', which tools/lay-shelf.mjs wrote): THE SAME DECLARATIONS UNDER THE SAME NAMES: 'import', 'namespace', 'open', 'def', 'theorem' AND NOTHING ELSE: no command of the shelf's: FOR A HAND-IN. Each laying: the table of numbers ('.._ren') and one theorem, a field a fact of the dump's own or the kernel's comparison; each contract: ONE APPLICATION. Functions of the library at this program's numbers: slices.Clone at []int, and strings.Join, Count, Index as far as they are called here: that the call does what its plain function says. No condition. What can be read as data is data of the evaluator. From a contract and a plain fact to a law's statement. From a contract and a plain fact to a law's statement, where package-level variables are listed. Plain facts on the printed functions' words: roun -/
import Derived.Shelf.Strings.Builder1
import Derived.Shelf.Strings.Builder2
import Derived.Shelf.Strings.OnBuilder
import Derived.Shelf.Strings.Search1
import Derived.Shelf.Strings.Search2
import Derived.Shelf.Strings.Count
import Derived.Ground.Names2Prog
import Derived.Shelf.Slices.Clone
import Derived.Test.YtbcbiemjokpghaaDoorProg
import Derived.ProofKit
import Derived.ChangeSlices
import Derived.Test.YtbcbiemjokpghaaDoorX3
namespace Go.Proofs
open Go.Shelf
def Tryd.lays156_ren : Go.Shelf.Ren := ⟨fun | 156 => 21 | 165 => 53 | 166 => 54 | 169 => 55 | 240 => 78 | 241 => 79 | 276 => 90 | 277 => 91 | n => n, fun | 31 => 22 | 9 => 9 | 3 => 3 | 4 => 4 | 0 => 0 | 20 => 20 | 72 => 108 | 76 => 112 | 70 => 105 | 37 => 106 | 75 => 111 | 127 => 138 | 164 => 144 | 5 => 5 | 80 => 114 | n => n, fun | n => n⟩
theorem Tryd.lays156 : Go.Proofs.Lays.n156 Tryd.prog Tryd.lays156_ren := {
  mixed := by kernel_rfl
  f156 := Tryd.func21.trans (congrArg some (by kernel_rfl))
  f165 := Tryd.func53.trans (congrArg some (by kernel_rfl))
  f166 := Tryd.func54.trans (congrArg some (by kernel_rfl))
  f169 := Tryd.func55.trans (congrArg some (by kernel_rfl))
  f240 := Tryd.func78.trans (congrArg some (by kernel_rfl))
  f241 := Tryd.func79.trans (congrArg some (by kernel_rfl))
  f276 := Tryd.func90.trans (congrArg some (by kernel_rfl))
  f277 := Tryd.func91.trans (congrArg some (by kernel_rfl))
  t0 := Tryd.underlying0
  a0 := Tryd.isAgg0
  z0 := Tryd.sizeOf0
  v0 := Tryd.zeroValue0
  t3 := Tryd.underlying3
  a3 := Tryd.isAgg3
  z3 := Tryd.sizeOf3
  v3 := Tryd.zeroValue3
  t4 := Tryd.underlying4
  a4 := Tryd.isAgg4
  z4 := Tryd.sizeOf4
  v4 := Tryd.zeroValue4
  t9 := Tryd.underlying9
  a9 := Tryd.isAgg9
  z9 := Tryd.sizeOf9
  v9 := Tryd.zeroValue9
  t20 := Tryd.underlying20
  a20 := Tryd.isAgg20
  z20 := Tryd.sizeOf20
  v20 := Tryd.zeroValue20
  t31 := Tryd.underlying22
  a31 := Tryd.isAgg22
  z31 := Tryd.sizeOf22
  v31 := Tryd.zeroValue22
  t37 := Tryd.underlying106
  a37 := Tryd.isAgg106
  z37 := Tryd.sizeOf106
  v37 := Tryd.zeroValue106
  t70 := Tryd.underlying105
  a70 := Tryd.isAgg105
  z70 := Tryd.sizeOf105
  v70 := Tryd.zeroValue105
  t72 := Tryd.underlying108
  a72 := Tryd.isAgg108
  z72 := Tryd.sizeOf108
  v72 := Tryd.zeroValue108
  t75 := Tryd.underlying111
  a75 := Tryd.isAgg111
  z75 := Tryd.sizeOf111
  v75 := Tryd.zeroValue111
  t76 := Tryd.underlying112
  a76 := Tryd.isAgg112
  z76 := Tryd.sizeOf112
  v76 := Tryd.zeroValue112
  t127 := Tryd.underlying138
  a127 := Tryd.isAgg138
  z127 := Tryd.sizeOf138
  v127 := Tryd.zeroValue138
  t164 := Tryd.underlying144
  a164 := Tryd.isAgg144
  z164 := Tryd.sizeOf144
  v164 := Tryd.zeroValue144 }
theorem Tryd.Builder_Extra_156 : Builder.Extra Tryd.prog Tryd.lays156_ren := {
  sizeBuilder := by kernel_rfl
  liesBuilder := by kernel_rfl
  t5 := Tryd.underlying5
  a5 := Tryd.isAgg5
  z5 := Tryd.sizeOf5
  v5 := Tryd.zeroValue5
  infoByte := by kernel_rfl
  cellsByte := by kernel_rfl
  sizeByte := by kernel_rfl
  neB5 := by decide }
open Go.RowKit in
/-- No element: the empty string; the world is as it was. (Whatever the slice's address and capacity: a nil slice too.) (LAID: no walk: one application.) -/
theorem Tryd.strings_Join_none (a : Option Addr) (c : Nat) (sep : ByteArray) (w : World) :
    Calls Tryd.prog 21 #[.slice a 0 c, .string sep] w fun e w' => e = .returned (.string ⟨#[]⟩) ∧ w' = w := Any.strings_Join_none Tryd.lays156 Tryd.Builder_Extra_156 a c sep w
open Go.RowKit in
/-- strings.Join: "Join concatenates the elements of its first argument to create a single string. The separator string sep is placed between elements in the resulting string.": HOWEVER MANY ELEMENTS. Below the heap's end the world is as it was. (LAID: no walk: one application.) -/
theorem Tryd.strings_Join (bk o c : Nat) (xs : List ByteArray) (sep : ByteArray) (w : World) (hcells : ∀ (j : Nat) x, xs[j]? = some x → w.cell? ⟨bk, o + j, none⟩ = some (.string x)) (hbk : bk < w.heap.size) (hN : xs.length ≤ 140737488355328) (hcap : xs.length ≤ c) (hlen : (Lib.join (xs.map (·.data.toList)) sep.data.toList).length ≤ 140737488355328) :
    Calls Tryd.prog 21 #[.slice (some ⟨bk, o, none⟩) xs.length c, .string sep] w fun e w' => e = .returned (.string ⟨(Lib.join (xs.map (·.data.toList)) sep.data.toList).toArray⟩) ∧ Below w.heap.size w w' := Any.strings_Join Tryd.lays156 Tryd.Builder_Extra_156 bk o c xs sep w hcells hbk hN hcap hlen
def Tryd.lays219_ren : Go.Shelf.Ren := ⟨fun | 219 => 93 | 217 => 95 | 225 => 96 | 224 => 97 | 267 => 98 | 266 => 99 | 314 => 100 | n => n, fun | 9 => 9 | 3 => 3 | 4 => 4 | 5 => 5 | 46 => 150 | 146 => 156 | 51 => 155 | n => n, fun | 1 => 0 | n => n⟩
theorem Tryd.lays219 : Go.Proofs.Lays.n219 Tryd.prog Tryd.lays219_ren := {
  mixed := by kernel_rfl
  f217 := Tryd.func95.trans (congrArg some (by kernel_rfl))
  f219 := Tryd.func93.trans (congrArg some (by kernel_rfl))
  f224 := Tryd.func97.trans (congrArg some (by kernel_rfl))
  f225 := Tryd.func96.trans (congrArg some (by kernel_rfl))
  f266 := Tryd.func99.trans (congrArg some (by kernel_rfl))
  f267 := Tryd.func98.trans (congrArg some (by kernel_rfl))
  f314 := Tryd.func100.trans (congrArg some (by kernel_rfl))
  t3 := Tryd.underlying3
  a3 := Tryd.isAgg3
  z3 := Tryd.sizeOf3
  v3 := Tryd.zeroValue3
  t4 := Tryd.underlying4
  a4 := Tryd.isAgg4
  z4 := Tryd.sizeOf4
  v4 := Tryd.zeroValue4
  t5 := Tryd.underlying5
  a5 := Tryd.isAgg5
  z5 := Tryd.sizeOf5
  v5 := Tryd.zeroValue5
  t9 := Tryd.underlying9
  a9 := Tryd.isAgg9
  z9 := Tryd.sizeOf9
  v9 := Tryd.zeroValue9
  t46 := Tryd.underlying150
  a46 := Tryd.isAgg150
  z46 := Tryd.sizeOf150
  v46 := Tryd.zeroValue150
  t51 := Tryd.underlying155
  a51 := Tryd.isAgg155
  z51 := Tryd.sizeOf155
  v51 := Tryd.zeroValue155
  t146 := Tryd.underlying156
  a146 := Tryd.isAgg156
  z146 := Tryd.sizeOf156
  v146 := Tryd.zeroValue156
  g1 := by kernel_rfl }
open Go.RowKit Go.Lib in
/-- internal/stringslite.Index (what strings.Index calls) AT A substr OF ONE BYTE c: IT RETURNS 'Lib.indexByte s c'; the world is as it was. (LAID: no walk: one application.) -/
theorem Tryd.stringslite_Index_one (s : ByteArray) (c : UInt8) (w : World) :
    Calls Tryd.prog 93 #[.string s, .string ⟨#[c]⟩] w fun e w' => e = .returned (.int .i64 (Lib.indexByte s.data.toList c)) ∧ w' = w := Any.stringslite_Index_one Tryd.lays219 s c w
def Tryd.lays138_ren : Go.Shelf.Ren := ⟨fun | 138 => 58 | 195 => 82 | 218 => 83 | 143 => 81 | 219 => 93 | 217 => 95 | 225 => 96 | 224 => 97 | 267 => 98 | 266 => 99 | 314 => 100 | n => n, fun | 9 => 9 | 3 => 3 | 4 => 4 | 5 => 5 | 0 => 0 | 46 => 150 | 146 => 156 | 51 => 155 | n => n, fun | 1 => 0 | n => n⟩
theorem Tryd.lays138 : Go.Proofs.Lays.n138 Tryd.prog Tryd.lays138_ren := {
  mixed := by kernel_rfl
  f138 := Tryd.func58.trans (congrArg some (by kernel_rfl))
  f143 := Tryd.func81.trans (congrArg some (by kernel_rfl))
  f195 := Tryd.func82.trans (congrArg some (by kernel_rfl))
  f217 := Tryd.func95.trans (congrArg some (by kernel_rfl))
  f218 := Tryd.func83.trans (congrArg some (by kernel_rfl))
  f219 := Tryd.func93.trans (congrArg some (by kernel_rfl))
  f224 := Tryd.func97.trans (congrArg some (by kernel_rfl))
  f225 := Tryd.func96.trans (congrArg some (by kernel_rfl))
  f266 := Tryd.func99.trans (congrArg some (by kernel_rfl))
  f267 := Tryd.func98.trans (congrArg some (by kernel_rfl))
  f314 := Tryd.func100.trans (congrArg some (by kernel_rfl))
  t0 := Tryd.underlying0
  a0 := Tryd.isAgg0
  z0 := Tryd.sizeOf0
  v0 := Tryd.zeroValue0
  t3 := Tryd.underlying3
  a3 := Tryd.isAgg3
  z3 := Tryd.sizeOf3
  v3 := Tryd.zeroValue3
  t4 := Tryd.underlying4
  a4 := Tryd.isAgg4
  z4 := Tryd.sizeOf4
  v4 := Tryd.zeroValue4
  t5 := Tryd.underlying5
  a5 := Tryd.isAgg5
  z5 := Tryd.sizeOf5
  v5 := Tryd.zeroValue5
  t9 := Tryd.underlying9
  a9 := Tryd.isAgg9
  z9 := Tryd.sizeOf9
  v9 := Tryd.zeroValue9
  t46 := Tryd.underlying150
  a46 := Tryd.isAgg150
  z46 := Tryd.sizeOf150
  v46 := Tryd.zeroValue150
  t51 := Tryd.underlying155
  a51 := Tryd.isAgg155
  z51 := Tryd.sizeOf155
  v51 := Tryd.zeroValue155
  t146 := Tryd.underlying156
  a146 := Tryd.isAgg156
  z146 := Tryd.sizeOf156
  v146 := Tryd.zeroValue156
  g1 := by kernel_rfl }
open Go.RowKit Go.Lib in
/-- strings.Count AT A substr OF ONE BYTE ('hp'): "Count counts the number of non-overlapping instances of substr in s.": IT RETURNS 'Lib.countByte s (that byte)'; the world is as it was. ✋ NO CONTRACT HERE YET at an empty substr (utf8.RuneCountInString) or at a longer one (a loop over strings.Index). (LAID: no walk: one application.) -/
theorem Tryd.strings_Count_one (s : ByteArray) (c : UInt8) (w : World) :
    Calls Tryd.prog 58 #[.string s, .string ⟨#[c]⟩] w fun e w' => e = .returned (.int .i64 (Lib.countByte s.data.toList c)) ∧ w' = w := Any.strings_Count_one Tryd.lays138 s c w
def Tryd.laysNm215_ren : Go.Shelf.Ren := ⟨fun | 15 => 87 | n => n, fun | 22 => 41 | 3 => 3 | 4 => 4 | n => n, fun | n => n⟩
theorem Tryd.laysNm215 : Go.Proofs.Lays2.n15 Tryd.prog Tryd.laysNm215_ren := {
  mixed := by kernel_rfl
  f15 := Tryd.func87.trans (congrArg some (by kernel_rfl))
  t3 := Tryd.underlying3
  a3 := Tryd.isAgg3
  z3 := Tryd.sizeOf3
  v3 := Tryd.zeroValue3
  t4 := Tryd.underlying4
  a4 := Tryd.isAgg4
  z4 := Tryd.sizeOf4
  v4 := Tryd.zeroValue4
  t22 := Tryd.underlying41
  a22 := Tryd.isAgg41
  z22 := Tryd.sizeOf41
  v22 := Tryd.zeroValue41
  i3 := by kernel_rfl }
open Go.RowKit Go.Lib in
/-- slices.Clone at []int: "Clone returns a copy of the slice. The elements are copied using assignment, so this is a shallow clone. The result may have additional unused capacity. The result preserves the nilness of s.": OF A SLICE THAT IS NOT nil IT RETURNS A SLICE THAT IS NOT nil, OF THE SAME ELEMENTS, IN MEMORY OF THE CALL's OWN: in the how-to's words (6f): 'w'.ownsRow B e 1 v' n cells': v' begins at the head of a row among the blocks from B on (B: the heap's size at the call), not frozen, whose first cells are the elements · 'Below B w w'': below B all is as it was. The capacity is whatever the run-time gives. 'zs': what the cells behind the slice's address hold; 'zs.take n': its elements. (LAID: no walk: one application.) -/
theorem Tryd.slices_Clone_int (b off n c : Nat) (zs : List Int) (w : World) (hz : n ≤ zs.length) (hbig : n * 8 ≤ 140737488355328) (hc : ∀ j, j < zs.length → w.cell? ⟨b, off + j, none⟩ = some (.int .i64 (zs.getD j 0))) :
    Calls Tryd.prog 87 #[.slice (some ⟨b, off, none⟩) n c] w fun e w' => ∃ v', e = .returned v' ∧ w'.ownsRow w.heap.size 3 1 v' n ((zs.take n).map (Value.int .i64)) ∧ v' ≠ .slice none 0 0 ∧ Below w.heap.size w w' := Any.slices_Clone_int Tryd.laysNm215 b off n c zs w hz hbig hc
open Go.RowKit Go.Lib in
/-- The same at nil: nil comes back; the world is as it was. (LAID: no walk: one application.) -/
theorem Tryd.slices_Clone_int_nil (n c : Nat) (w : World) :
    Calls Tryd.prog 87 #[.slice none n c] w fun e w' => e = .returned (.slice none 0 0) ∧ w' = w := Any.slices_Clone_int_nil Tryd.laysNm215 n c w
open Go.RowKit Go.Lib in
/-- The same at a slice of length 0 that is not nil, WHATEVER ITS ADDRESS (no cell is asked for): a slice that is not nil and owns nothing comes back. (LAID: no walk: one application.) -/
theorem Tryd.slices_Clone_int_zero (a : Addr) (c : Nat) (w : World) :
    Calls Tryd.prog 87 #[.slice (some a) 0 c] w fun e w' => ∃ v', e = .returned v' ∧ w'.ownsRow w.heap.size 3 1 v' 0 [] ∧ v' ≠ .slice none 0 0 ∧ Below w.heap.size w w' := Any.slices_Clone_int_zero Tryd.laysNm215 a c w
end Go.Proofs

set_option linter.unusedVariables false
namespace Go.Abs
open Go

/-- slices.Clone, at elements of one cell: what its contract says, as a contract of this make. -/
theorem clone_call {f T : Nat} {t : Ty} {enc : t.den → Value} (h1 : t.sz = 1) (hrep : ∀ w ok vs x, Rep Go.Proofs.Tryd.prog t w ok vs x ↔ vs = [enc x])
    (hnil : ∀ cap w, Calls Go.Proofs.Tryd.prog f #[.slice none 0 cap] w fun e w' => e = .returned (.slice none 0 0) ∧ w' = w)
    (hzero : ∀ ad cap w, Calls Go.Proofs.Tryd.prog f #[.slice (some ad) 0 cap] w fun e w' => ∃ v', e = .returned v' ∧ w'.ownsRow w.heap.size T 1 v' 0 [] ∧ v' ≠ .slice none 0 0 ∧ Go.RowKit.Below w.heap.size w w')
    (hall : ∀ b off (r : List t.den) cap w, r.length ≤ 4294967296 → (∀ j (hj : j < r.length), w.cell? ⟨b, off + j, none⟩ = some (enc r[j])) →
      Calls Go.Proofs.Tryd.prog f #[.slice (some ⟨b, off, none⟩) r.length cap] w fun e w' => ∃ v', e = .returned v' ∧ w'.ownsRow w.heap.size T 1 v' r.length (r.map enc) ∧ v' ≠ .slice none 0 0 ∧ Go.RowKit.Below w.heap.size w w')
    (r : List t.den) (w : World) (ok : Nat → Prop) (ad : Option Addr) (cap : Nat) (hmost : r.length ≤ most)
    (hr : r = [] ∨ ∃ b off cs T fr, ad = some ⟨b, off, none⟩ ∧ ok b ∧ w.heap[b]? = some (.cells cs T fr) ∧ off + r.length * t.sz ≤ cs.size ∧ ∀ i x, r[i]? = some x → Rep Go.Proofs.Tryd.prog t w ok (chunk cs.toList (off + i * t.sz) t.sz) x) :
    Calls Go.Proofs.Tryd.prog f #[.slice ad r.length cap] w fun e w' => ∃ v, e = .returned v ∧ Keeps w w' ∧ ResRep Go.Proofs.Tryd.prog w' (newOk ok w) [.slice t] v r ∧ (true = true → FreshC Go.Proofs.Tryd.prog w.heap.size w' (newOk ok w) [.slice t] v r) := by
  have fin : ∀ (w' : World) (v' : Value), w'.ownsRow w.heap.size T 1 v' r.length (r.map enc) → Go.RowKit.Below w.heap.size w w' →
      ∃ v, Ending.returned v' = .returned v ∧ Keeps w w' ∧ ResRep Go.Proofs.Tryd.prog w' (newOk ok w) [.slice t] v r ∧ (true = true → FreshC Go.Proofs.Tryd.prog w.heap.size w' (newOk ok w) [.slice t] v r) := by
    intro w' v' ho hb
    have hf : FreshRep Go.Proofs.Tryd.prog w.heap.size w' (newOk ok w) t v' r := by
      obtain ⟨_, ⟨g1, g2⟩ | ⟨g, c, cur, g1, g2, g3, g4, g5, g6, g7⟩⟩ := ho
      · exact .inl ⟨g1, List.length_eq_zero_iff.1 g2⟩
      · refine .inr ⟨g, 0, c, cur, T, g1, g2, g3, g4, g5, by simp [h1, g6], fun i z hi => ?_⟩
        have hlt : i < r.length := (List.getElem?_eq_some_iff.1 hi).1
        have hz : cur.toList[i]? = some (enc z) := by
          have : (cur.toList.take (r.length * 1))[i]? = some (enc z) := by rw [g7, List.getElem?_map, hi]; rfl
          rw [List.getElem?_take] at this
          split at this
          · exact this
          · cases this
        rw [hrep, h1, Nat.zero_add, Nat.mul_one]
        have hl2 : i < cur.toList.length := (List.getElem?_eq_some_iff.1 hz).1
        unfold chunk
        rw [List.drop_eq_getElem_cons hl2]
        have := (List.getElem?_eq_some_iff.1 hz).2
        simp [this]
    refine ⟨v', rfl, ⟨hb.os, hb.tape, hb.output, hb.size, hb.block⟩, ⟨[v'], rfl, ?_⟩, fun _ => hf⟩
    rcases hf with ⟨g1, g2⟩ | ⟨g, off, c, cur, T', g1, g2, g3, g4, g5, g6, g7⟩
    · refine ⟨none, 0, by rw [g1, g2]; rfl, by rw [g2]; exact Nat.le_refl _, .inl g2⟩
    · refine ⟨_, c, by rw [g1], g4, .inr ⟨g, off, cur, T', _, rfl, .inr g2, g3, ?_, fun i z hi => ?_⟩⟩
      · exact Nat.le_trans (Nat.add_le_add_left (Nat.mul_le_mul_right _ g4) _) g6
      · exact (g7 i z hi).re fun b hb _ => hb.1
  cases ad with
  | none =>
    have hn : r = [] := by
      rcases hr with h | ⟨b, off, cs, T, fr, h, _⟩
      · exact h
      · cases h
    subst hn
    refine (hnil cap w).mono ?_
    rintro e w' ⟨rfl, rfl⟩
    exact fin w' _ ⟨by simp, .inl ⟨rfl, rfl⟩⟩ (Go.RowKit.Below.refl _ _)
  | some ad =>
    by_cases hne : r = []
    · subst hne
      refine (hzero ad cap w).mono ?_
      rintro e w' ⟨v', rfl, g1, _, g2⟩
      exact fin w' v' g1 g2
    · rcases hr with h | ⟨b, off, cs, T', fr, h, hok, hheap, hsz, hel⟩
      · exact absurd h hne
      · cases h
        refine (hall b off r cap w (by unfold most at hmost; exact hmost) (fun j hj => ?_)).mono ?_
        · rw [cell_of_row w b (off + j) cs T' fr hheap]
          have g1 := (hrep w ok _ _).1 (hel j _ (List.getElem?_eq_getElem hj))
          rw [h1, Nat.mul_one] at g1
          have g2 : (chunk cs.toList (off + j) 1)[0]? = some (enc (r[j]'hj)) := by rw [g1]; rfl
          obtain ⟨_, g3⟩ := chunk_get g2
          simpa using g3
        · rintro e w' ⟨v', rfl, g1, _, g2⟩
          exact fin w' v' g1 g2

/-- slices.Clone at []int. -/
def s87 (n : Nat) (s : List Int) : Option (List Int) := (chk (List.length s)).bind fun _ => some s

def s87_c (n : Nat) : Con := ⟨[.slice (.int .i64)], [], [.slice (.int .i64)], fun x y => s87 n x, true⟩

theorem s87_ok (n : Nat) : ConOK Go.Proofs.Tryd.prog 87 (s87_c n) := by
  refine ⟨⟨_, Go.Proofs.Tryd.func87, by kernel_rfl, by kernel_rfl⟩, ?_⟩
  intro w ok vs cs x y r hx hy hr
  obtain ⟨us, rfl, ad, cap, rfl, hcap, hrep⟩ := hx
  have hcs : cs = [] := hy
  subst hcs
  have hr : (chk (List.length (α := Int) x)).bind (fun _ => some x) = some r := hr
  have hmost : List.length (α := Int) x ≤ most ∧ r = x := by
    unfold chk at hr
    split at hr
    · rename_i h; cases hr; exact ⟨h, rfl⟩
    · cases hr
  obtain ⟨hmost, rfl⟩ := hmost
  refine clone_call (t := .int .i64) (enc := fun (z : Int) => .int .i64 z) rfl (fun _ _ _ _ => Iff.rfl) (Go.Proofs.Tryd.slices_Clone_int_nil 0) (Go.Proofs.Tryd.slices_Clone_int_zero) ?_ r w ok ad cap hmost hrep
  intro b off r cap w hl hc
  refine (Go.Proofs.Tryd.slices_Clone_int b off (List.length (α := Int) r) cap r w (Nat.le_refl _) (by omega) (fun j hj => ?_)).mono ?_
  · rw [hc j hj, List.getD_eq_getElem?_getD, List.getElem?_eq_getElem hj]; rfl
  · rintro e w' ⟨v', h1, h2, h3⟩
    rw [List.take_length] at h2
    exact ⟨v', h1, h2, h3⟩

/-- internal/stringslite.Index at a text of one byte. -/
def s93 (n : Nat) (s : List UInt8) (t : List UInt8) : Option Int := match t with
  | [c] => some (Lib.indexByte s c)
  | _ => none

def s93_c (n : Nat) : Con := ⟨[.str, .str], [], [.int .i64], fun x y => s93 n x.1 x.2, false⟩

theorem s93_ok (n : Nat) : ConOK Go.Proofs.Tryd.prog 93 (s93_c n) := by
  refine ⟨⟨_, Go.Proofs.Tryd.func93, by kernel_rfl, by kernel_rfl⟩, ?_⟩
  intro w ok vs cs x y r hx hy hr
  obtain ⟨s, t⟩ := x
  obtain ⟨us, rest, rfl, h1, us2, h2, h3⟩ := hx
  have hcs : cs = [] := hy
  subst hcs
  have hr : s93 n s t = some r := hr
  unfold s93 at hr
  split at hr
  · rename_i c _
    cases hr
    have e1 : us = [.string ⟨⟨s⟩⟩] := h1
    have e2 : us2 = [.string ⟨⟨[c]⟩⟩] := h3
    subst e1 e2
    rw [h2]
    refine (Go.Proofs.Tryd.stringslite_Index_one ⟨⟨s⟩⟩ c w).mono ?_
    rintro e w' ⟨rfl, rfl⟩
    exact ⟨_, rfl, Keeps.refl _, ⟨[_], rfl, rfl⟩, fun h => by cases h⟩
  · cases hr

/-- strings.Count at a text of one byte. -/
def s58 (n : Nat) (s : List UInt8) (t : List UInt8) : Option Int := match t with
  | [c] => some ((Lib.countByte s c : Nat) : Int)
  | _ => none

def s58_c (n : Nat) : Con := ⟨[.str, .str], [], [.int .i64], fun x y => s58 n x.1 x.2, false⟩

theorem s58_ok (n : Nat) : ConOK Go.Proofs.Tryd.prog 58 (s58_c n) := by
  refine ⟨⟨_, Go.Proofs.Tryd.func58, by kernel_rfl, by kernel_rfl⟩, ?_⟩
  intro w ok vs cs x y r hx hy hr
  obtain ⟨s, t⟩ := x
  obtain ⟨us, rest, rfl, h1, us2, h2, h3⟩ := hx
  have hcs : cs = [] := hy
  subst hcs
  have hr : s58 n s t = some r := hr
  unfold s58 at hr
  split at hr
  · rename_i c _
    cases hr
    have e1 : us = [.string ⟨⟨s⟩⟩] := h1
    have e2 : us2 = [.string ⟨⟨[c]⟩⟩] := h3
    subst e1 e2
    rw [h2]
    refine (Go.Proofs.Tryd.strings_Count_one ⟨⟨s⟩⟩ c w).mono ?_
    rintro e w' ⟨rfl, rfl⟩
    exact ⟨_, rfl, Keeps.refl _, ⟨[_], rfl, rfl⟩, fun h => by cases h⟩
  · cases hr

/-- strings.explode: nothing is said of it. -/
def s80 (n : Nat) (s : List UInt8) (k : Int) : Option (List (List UInt8)) := none

def s80_c (n : Nat) : Con := ⟨[.str, .int .i64], [], [.slice .str], fun x y => s80 n x.1 x.2, true⟩

theorem s80_ok (n : Nat) : ConOK Go.Proofs.Tryd.prog 80 (s80_c n) := by
  refine ⟨⟨_, Go.Proofs.Tryd.func80, by kernel_rfl, by kernel_rfl⟩, ?_⟩
  intro w ok vs cs x y r hx hy hr
  cases hr

/-- strings.Join. -/
def s21 (n : Nat) (xs : List (List UInt8)) (sep : List UInt8) : Option (List UInt8) :=
  (chk (List.length xs)).bind fun _ => (chk (List.length (Lib.join xs sep))).bind fun _ => some (Lib.join xs sep)

def s21_c (n : Nat) : Con := ⟨[.slice .str, .str], [], [.str], fun x y => s21 n x.1 x.2, false⟩

theorem s21_ok (n : Nat) : ConOK Go.Proofs.Tryd.prog 21 (s21_c n) := by
  refine ⟨⟨_, Go.Proofs.Tryd.func21, by kernel_rfl, by kernel_rfl⟩, ?_⟩
  intro w ok vs cs x y r hx hy hr
  obtain ⟨xs, sep⟩ := x
  obtain ⟨us, rest, rfl, ⟨ad, cap, rfl, hcap, hrep⟩, us2, h2, h3⟩ := hx
  have hcs : cs = [] := hy
  subst hcs
  have hr : s21 n xs sep = some r := hr
  have e2 : us2 = [.string ⟨⟨sep⟩⟩] := h3
  subst e2
  unfold s21 chk at hr
  split at hr
  · rename_i hm1
    simp only [Option.bind_some] at hr
    split at hr
    · rename_i hm2
      cases hr
      have hl : List.length (α := List UInt8) xs ≤ most := hm1
      unfold most at hl hm2
      rw [h2]
      by_cases hne : xs = ([] : List (List UInt8))
      · subst hne
        refine (Go.Proofs.Tryd.strings_Join_none ad cap ⟨⟨sep⟩⟩ w).mono ?_
        rintro e w' ⟨rfl, rfl⟩
        exact ⟨_, rfl, Keeps.refl _, ⟨[_], rfl, rfl⟩, fun h => by cases h⟩
      · rcases hrep with h | ⟨b, off, cs, T, fr, h, hok, hheap, hsz, hel⟩
        · exact absurd h hne
        · subst h
          have hmap : ((List.map (fun z => (⟨⟨z⟩⟩ : ByteArray)) xs).map (·.data.toList)) = xs := by
            rw [List.map_map]
            exact List.map_id' _
          have hlen : (List.map (fun z => (⟨⟨z⟩⟩ : ByteArray)) xs).length = List.length (α := List UInt8) xs := by simp
          have := Go.Proofs.Tryd.strings_Join b off cap (List.map (fun z => (⟨⟨z⟩⟩ : ByteArray)) xs) ⟨⟨sep⟩⟩ w ?_ (Array.getElem?_eq_some_iff.1 hheap).1 (by rw [hlen]; omega) (by rw [hlen]; exact hcap) (by rw [hmap]; show (Lib.join xs sep).length ≤ _; omega)
          · rw [hmap, hlen] at this
            refine this.mono ?_
            rintro e w' ⟨rfl, hb⟩
            exact ⟨_, rfl, ⟨hb.os, hb.tape, hb.output, hb.size, hb.block⟩, ⟨[_], rfl, rfl⟩, fun h => by cases h⟩
          · intro j x hj
            rw [List.getElem?_map] at hj
            cases hxj : xs[j]? with
            | none => rw [hxj] at hj; cases hj
            | some z =>
              rw [hxj] at hj
              cases hj
              rw [cell_of_row w b (off + j) cs T fr hheap]
              have g1 : chunk cs.toList (off + j * 1) 1 = [.string ⟨⟨z⟩⟩] := hel j z hxj
              rw [Nat.mul_one] at g1
              have g2 : (chunk cs.toList (off + j) 1)[0]? = some (.string ⟨⟨z⟩⟩) := by rw [g1]; rfl
              obtain ⟨_, g3⟩ := chunk_get g2
              simpa using g3
    · cases hr
  · cases hr

end Go.Abs

set_option linter.unusedSimpArgs false
set_option linter.unusedVariables false
namespace Go.Abs
open Go
variable {P : Program}

/-- The bounds of numbers and lengths. -/
def Ty.wf : (t : Ty) → t.den → Prop
  | .int k, n => k.min ≤ n ∧ (n : Int) ≤ k.max
  | .bool, _ => True
  | .str, l => List.length (α := UInt8) l ≤ maxLen
  | .unit, _ => True
  | .slice e, l => List.length l ≤ maxLen ∧ ∀ x ∈ (l : List e.den), e.wf x
  | .pair a b, (x, y) => a.wf x ∧ b.wf y
  | .fn1 _ _, _ => True
  | .fn2 _ _ _, _ => True
  | .seq _, _ => True
  | .seq2 _ _, _ => True
  | .map _ _, _ => True
  | .ptr _, _ => True
  | .sliceN _, _ => True

mutual
def shp (P : Program) : Nat → Nat → Ty → Bool
  | 0, _, _ => false
  | n + 1, T, t => match P.underlying T, t with
    | some (.int k), .int k' => decide (k = k')
    | some .bool, .bool => true
    | some .string, .str => true
    | some (.slice T'), .slice e => Nat.beq (P.cellsOf T') e.sz && Nat.blt 0 e.sz && shp P n T' e
    | some (.struct fs), .pair a b => Nat.beq (P.cellsOf T) (Ty.pair a b).sz && shpF P n fs.toList 0 (.pair a b)
    | some (.array m T'), .pair a b => Nat.beq (P.cellsOf T) (Ty.pair a b).sz && decide (Ty.pair a b = Ty.arr a m) && Nat.beq (P.cellsOf T') a.sz && shp P n T' a
    | _, _ => false

def shpF (P : Program) : Nat → List Field → Nat → Ty → Bool
  | 0, _, _, _ => false
  | n + 1, [f], off, t => Nat.beq f.offset off && Nat.beq (P.cellsOf f.type) t.sz && shp P n f.type t
  | n + 1, f :: g :: r, off, .pair a b => Nat.beq f.offset off && Nat.beq (P.cellsOf f.type) a.sz && shp P n f.type a && shpF P n (g :: r) (off + a.sz) b
  | _ + 1, _, _, _ => false
end

theorem mapM_cons_some {α β : Type} {f : α → Option β} {x : α} {l : List α} {ys : List β} (h : (x :: l).mapM f = some ys) : ∃ y r, f x = some y ∧ l.mapM f = some r ∧ ys = y :: r := by
  rw [List.mapM_cons] at h
  cases hx : f x with
  | none => rw [hx] at h; cases h
  | some y =>
    rw [hx] at h
    cases hl : l.mapM f with
    | none => rw [hl] at h; cases h
    | some r => rw [hl] at h; cases h; exact ⟨y, r, rfl, rfl, rfl⟩

theorem mapM_get {α β : Type} {f : α → Option β} : {l : List α} → {ys : List β} → l.mapM f = some ys → ∀ (i : Nat) x, l[i]? = some x → ∃ y, f x = some y
  | [], ys, h, i, x, hx => by simp at hx
  | a :: l, ys, h, i, x, hx => by
    obtain ⟨y, r, h1, h2, h3⟩ := mapM_cons_some h
    cases i with
    | zero => simp at hx; subst hx; exact ⟨y, h1⟩
    | succ i => exact mapM_get h2 i x (by simpa using hx)

theorem mapM_len {α β : Type} {f : α → Option β} : {l : List α} → {ys : List β} → l.mapM f = some ys → ys.length = l.length
  | [], ys, h => by cases h; rfl
  | a :: l, ys, h => by
    obtain ⟨y, r, h1, h2, h3⟩ := mapM_cons_some h
    subst h3
    simp [mapM_len h2]

theorem mapM_at {α β : Type} {f : α → Option β} : {l : List α} → {ys : List β} → l.mapM f = some ys → ∀ (i : Nat) x y, l[i]? = some x → ys[i]? = some y → f x = some y
  | [], ys, h, i, x, y, hx, hy => by simp at hx
  | a :: l, ys, h, i, x, y, hx, hy => by
    obtain ⟨y', r, h1, h2, h3⟩ := mapM_cons_some h
    subst h3
    cases i with
    | zero => simp at hx hy; subst hx; subst hy; exact h1
    | succ i => exact mapM_at h2 i x y (by simpa using hx) (by simpa using hy)

/-- Cells that are read one by one. -/
theorem cells_read {W : World} {b off n : Nat} {sp : Option Nat} {cs : List Value} (h : W.cells? 0 ⟨b, off, sp⟩ n = some cs) (hn : 0 < n) : sp = none ∨ True := .inr trivial

theorem exists_choice {α : Type} {n : Nat} {Q : Nat → α → Prop} (h : ∀ i, i < n → ∃ x, Q i x) : ∃ l : List α, l.length = n ∧ ∀ (i : Nat) x, l[i]? = some x → Q i x := by
  induction n with
  | zero => exact ⟨[], rfl, fun i x hx => by simp at hx⟩
  | succ n ih =>
    obtain ⟨l, h1, h2⟩ := ih fun i hi => h i (by omega)
    obtain ⟨x, hx⟩ := h n (by omega)
    refine ⟨l ++ [x], by simp [h1], fun i y hy => ?_⟩
    by_cases hi : i < l.length
    · rw [List.getElem?_append_left hi] at hy
      exact h2 i y hy
    · rw [List.getElem?_append_right (by omega)] at hy
      have : i - l.length = 0 := by
        cases hk : i - l.length with
        | zero => rfl
        | succ k => rw [hk] at hy; simp at hy
      rw [this] at hy
      simp at hy
      subst hy
      have : i = n := by omega
      subst this
      exact hx

/-- Data of an array, element by element. -/
theorem rep_arr {W : World} {ok : Nat → Prop} {a : Ty} : (m : Nat) → (cs : List Value) → 0 < m → cs.length = m * a.sz → (∀ i, i < m → ∃ y, Rep P a W ok ((cs.drop (i * a.sz)).take a.sz) y ∧ a.wf y) →
    ∃ x : (Ty.arr a m).den, Rep P (Ty.arr a m) W ok cs x ∧ (Ty.arr a m).wf x
  | 0, cs, h, _, _ => absurd h (Nat.lt_irrefl 0)
  | 1, cs, _, hl, h => by
    obtain ⟨y, h1, h2⟩ := h 0 (by omega)
    rw [Nat.zero_mul, List.drop_zero, List.take_of_length_le (by omega)] at h1
    exact ⟨y, h1, h2⟩
  | m + 2, cs, _, hl, h => by
    obtain ⟨y, h1, h2⟩ := h 0 (by omega)
    rw [Nat.zero_mul, List.drop_zero] at h1
    have e : (m + 2) * a.sz = (m + 1) * a.sz + a.sz := by rw [← Nat.succ_mul]
    obtain ⟨x, k1, k2⟩ := rep_arr (a := a) (m + 1) (cs.drop a.sz) (by omega) (by rw [List.length_drop, hl, e]; omega) fun i hi => by
      obtain ⟨z, g1, g2⟩ := h (i + 1) (by omega)
      refine ⟨z, ?_, g2⟩
      rw [List.drop_drop]
      rw [show a.sz + i * a.sz = (i + 1) * a.sz from by rw [Nat.succ_mul]; omega]
      exact g1
    exact ⟨(y, x), ⟨h1, k1⟩, h2, k2⟩

section
variable {H : Type} {enc : TypeId × Value → H} {W : World} {spare : Nat → Bool} {held : Bool}

mutual
theorem open_ty : (n : Nat) → (T : Nat) → (t : Ty) → shp P n T t = true → ∀ (fuel : Nat) (cs : List Value) (d : DataW H) (ps : List MemPlace), DataW.trod enc P W 0 spare held fuel T cs = some (d, ps) →
    ∃ x : t.den, Rep P t W (fun b => b < W.heap.size) cs x ∧ t.wf x
  | 0, T, t, h, fuel, cs, d, ps, hd => by simp [shp] at h
  | n + 1, T, t, h, 0, cs, d, ps, hd => by cases hd
  | n + 1, T, t, h, fuel + 1, cs, d, ps, hd => by
    unfold shp at h
    unfold DataW.trod at hd
    split at h
    · rename_i k k' hu
      have hk : k = k' := of_decide_eq_true h
      subst hk
      rw [hu] at hd
      match cs, hd with
      | [.int k2 m], hd =>
        simp only at hd
        split at hd
        · rename_i hh
          obtain ⟨rfl, hw⟩ := hh
          refine ⟨m, rfl, ?_⟩
          simpa [Lit.wf, Ty.wf] using hw
        · cases hd
    · rename_i hu
      rw [hu] at hd
      match cs, hd with
      | [.bool b], hd => exact ⟨b, rfl, trivial⟩
    · rename_i hu
      rw [hu] at hd
      match cs, hd with
      | [.string s], hd =>
        simp only at hd
        split at hd
        · rename_i hs
          obtain ⟨⟨s⟩⟩ := s
          exact ⟨s, rfl, hs⟩
        · cases hd
    · rename_i T' e hu
      simp only [Bool.and_eq_true] at h
      obtain ⟨⟨h1, h2⟩, h3⟩ := h
      have hc := nbeq_true h1
      have hpos : 0 < e.sz := Nat.le_of_ble_eq_true h2
      rw [hu] at hd
      match cs, hd with
      | [.slice none 0 0], hd => exact ⟨([] : List e.den), ⟨none, 0, rfl, Nat.le_refl _, .inl rfl⟩, ⟨Nat.zero_le _, fun _ h => (by cases h)⟩⟩
      | [.slice (some a) len cap], hd =>
        simp only at hd
        split at hd
        · rename_i hh
          obtain ⟨_, hlc, hcm⟩ := hh
          cases hm : (List.range len).mapM (fun i => (W.cells? 0 (a.add (i * P.cellsOf T')) (P.cellsOf T')).bind (DataW.trod enc P W 0 spare held fuel T')) with
          | none => rw [hm] at hd; cases hd
          | some els =>
            clear hd
            have hel : ∀ i, i < len → ∃ ds y, W.cells? 0 (a.add (i * e.sz)) e.sz = some ds ∧ Rep P e W (fun b => b < W.heap.size) ds y ∧ e.wf y := by
              intro i hi
              obtain ⟨z, hz⟩ := mapM_get hm i i (by simp [hi])
              rw [hc] at hz
              cases hcs : W.cells? 0 (a.add (i * e.sz)) e.sz with
              | none => rw [hcs] at hz; cases hz
              | some ds =>
                rw [hcs] at hz
                obtain ⟨y, hy1, hy2⟩ := open_ty n T' e h3 fuel ds z.1 z.2 hz
                exact ⟨ds, y, rfl, hy1, hy2⟩
            by_cases hlen : len = 0
            · subst hlen
              exact ⟨([] : List e.den), ⟨some a, cap, rfl, Nat.zero_le _, .inl rfl⟩, ⟨Nat.zero_le _, fun _ h => (by cases h)⟩⟩
            · -- each cell of each element
              have hcell : ∀ i, i < len → ∀ j, j < e.sz → ∃ v, W.cell? ((a.add (i * e.sz)).add j) = some v := by
                intro i hi j hj
                obtain ⟨ds, y, q1, _⟩ := hel i hi
                unfold World.cells? at q1
                rw [if_pos (Nat.zero_le _)] at q1
                exact mapM_get q1 j j (by simp [hj])
              obtain ⟨b, off, sp⟩ := a
              obtain ⟨v0, hv0⟩ := hcell 0 (by omega) 0 hpos
              have e0 : (Addr.mk b off sp).add (0 * e.sz) = ⟨b, off, sp⟩ := by simp [Addr.add]
              rw [e0, show (Addr.mk b off sp).add 0 = ⟨b, off, sp⟩ from rfl] at hv0
              unfold World.cell? at hv0
              cases hb : W.heap[b]? with
              | none => simp only [hb] at hv0; cases hv0
              | some o =>
                cases o with
                | cells C U fr =>
                  simp only [hb] at hv0
                  cases sp with
                  | some s => simp at hv0
                  | none =>
                    have addoff : ∀ i j, (((Addr.mk b off none).add (i * e.sz)).add j) = ⟨b, off + i * e.sz + j, none⟩ := by
                      intro i j
                      unfold Addr.add
                      by_cases h1 : i * e.sz = 0 <;> by_cases h2 : j = 0 <;> simp [h1, h2]
                    have hin : ∀ i, i < len → ∀ j, j < e.sz → ∃ v, C[off + i * e.sz + j]? = some v := by
                      intro i hi j hj
                      obtain ⟨v, hv⟩ := hcell i hi j hj
                      rw [addoff] at hv
                      unfold World.cell? at hv
                      simp only [hb] at hv
                      exact ⟨v, by simpa using hv⟩
                    have hds : ∀ i, i < len → ∀ ds, W.cells? 0 ((Addr.mk b off none).add (i * e.sz)) e.sz = some ds → ds = chunk C.toList (off + i * e.sz) e.sz := by
                      intro i hi ds q1
                      unfold World.cells? at q1
                      rw [if_pos (Nat.zero_le _)] at q1
                      have hl := mapM_len q1
                      rw [List.length_range] at hl
                      apply List.ext_getElem?
                      intro j
                      by_cases hj : j < e.sz
                      · obtain ⟨v, hv⟩ := hin i hi j hj
                        have hdj : ds[j]? = some ds[j] := List.getElem?_eq_getElem (by omega)
                        have hat := mapM_at q1 j j _ (by simp [hj]) hdj
                        rw [addoff] at hat
                        unfold World.cell? at hat
                        simp only [hb] at hat
                        simp only [Option.isSome_none, Bool.false_eq_true, if_false] at hat
                        rw [hdj, ← hat]
                        unfold chunk
                        rw [List.getElem?_take_of_lt hj, List.getElem?_drop]
                        simp
                      · rw [List.getElem?_eq_none (by omega), List.getElem?_eq_none (by unfold chunk; simp; omega)]
                    obtain ⟨l, hl1, hl2⟩ := exists_choice (Q := fun i y => Rep P e W (fun b => b < W.heap.size) (chunk C.toList (off + i * e.sz) e.sz) y ∧ e.wf y) fun i hi => by
                      obtain ⟨ds, y, q1, q2, q3⟩ := hel i hi
                      rw [hds i hi ds q1] at q2
                      exact ⟨y, q2, q3⟩
                    refine ⟨l, ⟨some ⟨b, off, none⟩, cap, by rw [hl1], by rw [hl1]; exact hlc, .inr ⟨b, off, C, U, fr, rfl, (Array.getElem?_eq_some_iff.1 hb).1, hb, ?_, fun i x hx => (hl2 i x hx).1⟩⟩, ⟨by rw [hl1]; omega, fun x hx => ?_⟩⟩
                    · obtain ⟨v, hv⟩ := hin (len - 1) (by omega) (e.sz - 1) (by omega)
                      have := (Array.getElem?_eq_some_iff.1 hv).1
                      rw [hl1]
                      have e1 : len * e.sz = (len - 1) * e.sz + e.sz := by
                        conv => lhs; rw [show len = (len - 1) + 1 from by omega]
                        rw [Nat.succ_mul]
                      omega
                    · obtain ⟨i, hi, rfl⟩ := List.getElem_of_mem hx
                      exact (hl2 i l[i] (List.getElem?_eq_getElem hi)).2
                | _ => simp only [hb] at hv0; cases hv0
        · cases hd
    · rename_i fs x y hu
      simp only [Bool.and_eq_true] at h
      obtain ⟨h1, h2⟩ := h
      have hc := nbeq_true h1
      rw [hu] at hd
      have hd' : (if cs.length = P.cellsOf T then (fs.toList.mapM fun f => DataW.trod enc P W 0 spare held fuel f.type ((cs.drop f.offset).take (P.cellsOf f.type))).map fun xs => ((DataW.agg (xs.map (·.1)) : DataW H), xs.flatMap (·.2)) else none) = some (d, ps) := by
        match cs, hd with
        | [], hd => exact hd
        | [_], hd => exact hd
        | _ :: _ :: _, hd => exact hd
      split at hd'
      · rename_i hl
        cases hm : fs.toList.mapM fun f => DataW.trod enc P W 0 spare held fuel f.type ((cs.drop f.offset).take (P.cellsOf f.type)) with
        | none => rw [hm] at hd'; cases hd'
        | some xs =>
          have := open_fields n fs.toList 0 (.pair x y) h2 fuel cs (by rw [hl, hc]; simp) xs hm
          simpa using this
      · cases hd'
    · rename_i m T' x y hu
      simp only [Bool.and_eq_true] at h
      obtain ⟨⟨⟨h1, h2⟩, h3⟩, h4⟩ := h
      have hc := nbeq_true h1
      have hty : Ty.pair x y = Ty.arr x m := of_decide_eq_true h2
      have he := nbeq_true h3
      rw [hu] at hd
      have hd' : (if cs.length = P.cellsOf T then ((List.range m).mapM fun i => DataW.trod enc P W 0 spare held fuel T' ((cs.drop (i * P.cellsOf T')).take (P.cellsOf T'))).map fun xs => ((DataW.agg (xs.map (·.1)) : DataW H), xs.flatMap (·.2)) else none) = some (d, ps) := by
        match cs, hd with
        | [], hd => exact hd
        | [_], hd => exact hd
        | _ :: _ :: _, hd => exact hd
      split at hd'
      · rename_i hl
        cases hm : (List.range m).mapM fun i => DataW.trod enc P W 0 spare held fuel T' ((cs.drop (i * P.cellsOf T')).take (P.cellsOf T')) with
        | none => rw [hm] at hd'; cases hd'
        | some xs =>
          have hm0 : 0 < m := by
            cases m with
            | zero => simp [Ty.arr] at hty
            | succ m => omega
          have hsz : (Ty.arr x m).sz = m * x.sz := arr_sz x m
          have hlen : cs.length = m * x.sz := by rw [hl, hc, hty, hsz]
          rw [hty]
          refine rep_arr m cs hm0 hlen fun i hi => ?_
          obtain ⟨z, hz⟩ := mapM_get hm i i (by simp [hi])
          rw [he] at hz
          exact open_ty n T' x h4 fuel _ z.1 z.2 hz
      · cases hd'
    · cases h

theorem open_fields : (n : Nat) → (l : List Field) → (off : Nat) → (t : Ty) → shpF P n l off t = true → ∀ (fuel : Nat) (cs : List Value), cs.length = off + t.sz → ∀ xs : List (DataW H × List MemPlace),
    (l.mapM fun f => DataW.trod enc P W 0 spare held fuel f.type ((cs.drop f.offset).take (P.cellsOf f.type))) = some xs → ∃ x : t.den, Rep P t W (fun b => b < W.heap.size) (cs.drop off) x ∧ t.wf x
  | 0, l, off, t, h, fuel, cs, hl, xs, hm => by simp [shpF] at h
  | n + 1, [], off, t, h, fuel, cs, hl, xs, hm => by cases t <;> simp [shpF] at h
  | n + 1, [f], off, t, h, fuel, cs, hl, xs, hm => by
    rw [shpF] at h
    simp only [Bool.and_eq_true] at h
    obtain ⟨⟨h1, h2⟩, h3⟩ := h
    have e1 := nbeq_true h1
    have e2 := nbeq_true h2
    obtain ⟨y, r, g1, _, _⟩ := mapM_cons_some hm
    rw [e1, e2, List.take_of_length_le (by simp; omega)] at g1
    exact open_ty n f.type t h3 fuel _ y.1 y.2 g1
  | n + 1, f :: g :: r, off, t, h, fuel, cs, hl, xs, hm => by
    cases t with
    | pair a b =>
      rw [shpF] at h
      simp only [Bool.and_eq_true] at h
      obtain ⟨⟨⟨h1, h2⟩, h3⟩, h4⟩ := h
      have e1 := nbeq_true h1
      have e2 := nbeq_true h2
      obtain ⟨y, r', g1, g2, _⟩ := mapM_cons_some hm
      rw [e1, e2] at g1
      obtain ⟨x1, k1, k2⟩ := open_ty n f.type a h3 fuel _ y.1 y.2 g1
      obtain ⟨x2, k3, k4⟩ := open_fields n (g :: r) (off + a.sz) b h4 fuel cs (by rw [hl]; simp [Ty.sz]; omega) r' g2
      refine ⟨(x1, x2), ⟨k1, ?_⟩, k2, k4⟩
      rw [List.drop_drop]
      exact k3
    | _ => simp [shpF] at h
end

end
end Go.Abs

set_option linter.unusedSimpArgs false
set_option linter.unusedVariables false
namespace Go.Abs
open Go Go.ChangeShapes Go.WideShapes Go.RowKit
variable {P : Program}

def wfL : (ts : List Ty) → denL ts → Prop
  | [], _ => True
  | [t], x => t.wf x
  | t :: u :: ts, (x, y) => t.wf x ∧ wfL (u :: ts) y

def shpL (P : Program) (n : Nat) : List Nat → List Ty → Bool
  | [], [] => true
  | T :: Ts, t :: ts => shp P n T t && shpL P n Ts ts
  | _, _ => false

theorem shp_val {n T : Nat} {t : Ty} (h : shp P n T t = true) {w : World} {r : Reach} {b0 : Nat} {v : Value} (hv : Value.okWide P w r b0 T v) : v = t.val v.cells.toList := by
  cases n with
  | zero => simp [shp] at h
  | succ n =>
    unfold shp at h
    split at h
    · rename_i k k' hu
      obtain ⟨m, rfl⟩ := okWide_int hu hv
      rfl
    · rename_i hu
      obtain ⟨m, rfl⟩ := okWide_bool hu hv
      rfl
    · rename_i hu
      obtain ⟨m, rfl⟩ := okWide_string hu hv
      rfl
    · rename_i hu
      obtain ⟨a, l, c, rfl⟩ := okWide_slice hu hv
      rfl
    · rename_i hu
      obtain ⟨cs, rfl, _⟩ := okWide_struct hu hv
      simp [Ty.val, Ty.isPair, Value.cells]
    · rename_i hu
      unfold Value.okWide at hv
      rw [hu] at hv
      obtain ⟨cs, rfl, _⟩ := hv
      simp [Ty.val, Ty.isPair, Value.cells]
    · cases h

section
variable {H : Type} {enc : TypeId × Value → H} {W : World} {spare : Nat → Bool} {held : Bool}

theorem open_args (n : Nat) : (Ts : List Nat) → (ts : List Ty) → shpL P n Ts ts = true → ∀ (vs : List Value) (ds : List (DataW H)) (ps : List MemPlace) (b0 : Nat),
    (∀ (j : Nat) T v, Ts[j]? = some T → vs[j]? = some v → Value.okWide P W .any b0 T v) → DataW.TrodAll enc P W 0 spare held Ts vs ds ps →
    ∃ x : denL ts, ArgsRep P W (fun b => b < W.heap.size) ts vs x ∧ wfL ts x
  | [], [], _, vs, ds, ps, b0, _, h => by
    obtain ⟨rfl, _⟩ := trodAll_nil h
    exact ⟨(), rfl, trivial⟩
  | [T], [t], hs, vs, ds, ps, b0, hv, h => by
    obtain ⟨v, vs', d, ds', p, q, rfl, rfl, rfl, h1, h2⟩ := trodAll_cons h
    obtain ⟨rfl, _⟩ := trodAll_nil h2
    simp only [shpL, Bool.and_true] at hs
    obtain ⟨fuel, h1⟩ := h1
    obtain ⟨x, k1, k2⟩ := open_ty n T t hs fuel _ d p h1
    exact ⟨x, ⟨_, by rw [← shp_val hs (hv 0 T v rfl rfl)], k1⟩, k2⟩
  | T :: U :: Ts, t :: u :: ts, hs, vs, ds, ps, b0, hv, h => by
    obtain ⟨v, vs', d, ds', p, q, rfl, rfl, rfl, h1, h2⟩ := trodAll_cons h
    rw [shpL] at hs
    simp only [Bool.and_eq_true] at hs
    obtain ⟨hs1, hs2⟩ := hs
    obtain ⟨fuel, h1⟩ := h1
    obtain ⟨x, k1, k2⟩ := open_ty n T t hs1 fuel _ d p h1
    obtain ⟨y, k3, k4⟩ := open_args n (U :: Ts) (u :: ts) hs2 vs' ds' q b0 (fun j T' v' hT hv' => hv (j + 1) T' v' (by simpa using hT) (by simpa using hv')) h2
    exact ⟨(x, y), ⟨v.cells.toList, vs', by rw [← shp_val hs1 (hv 0 T v rfl rfl)], k1, k3⟩, k2, k4⟩
  | [], _ :: _, hs, _, _, _, _, _, _ => by simp [shpL] at hs
  | _ :: _, [], hs, _, _, _, _, _, _ => by simp [shpL] at hs
  | [_], _ :: _ :: _, hs, _, _, _, _, _, _ => by simp [shpL] at hs
  | _ :: _ :: _, [_], hs, _, _, _, _, _, _ => by simp [shpL] at hs

theorem trodAll_stays {W' : World} (hl : laidOutB P = true) (hb : Below W.heap.size W W') : (Ts : List Nat) → (∀ T ∈ Ts, P.readableRec T = true ∧ T < P.types.size) → ∀ (vs : List Value) (ds : List (DataW H)) (ps : List MemPlace),
    DataW.TrodAll enc P W 0 (fun _ => true) true Ts vs ds ps → (∀ x ∈ ps, x.block < W.heap.size) → DataW.TrodAll enc P W' 0 (fun b => decide (b < W.heap.size)) true Ts vs ds ps
  | [], _, vs, ds, ps, h, _ => by
    obtain ⟨rfl, rfl, rfl⟩ := trodAll_nil h
    rfl
  | T :: Ts, hT, vs, ds, ps, h, hlt => by
    obtain ⟨v, vs', d, ds', p, q, rfl, rfl, rfl, h1, h2⟩ := trodAll_cons h
    obtain ⟨g1, g2⟩ := hT T (List.mem_cons_self ..)
    refine ⟨p, q, Below.trod hl g1 g2 h1 hb (fun x hx => hlt x (List.mem_append_left _ hx)), ?_, rfl⟩
    exact trodAll_stays hl hb Ts (fun T' h' => hT T' (List.mem_cons_of_mem _ h')) vs' ds' q h2 (fun x hx => hlt x (List.mem_append_right _ hx))
end

theorem Keeps.below {w w' : World} (h : Keeps w w') : Below w.heap.size w w' := ⟨h.os, h.tape, h.output, h.size, h.block⟩

theorem law_lifted {C : Checked} {os : Os} {f : FuncId} {fn : Func} {s : ChangeSpec} {ins : List Ty} {Ts : List Nat} {tb : Nat} {g : Nat → denL ins → Option Bool} {nn : Nat} {apart : Bool}
    {H : Type} {enc : TypeId × Value → H}
    (own : ownKnob C.prog.godebug = none) (started : os.Started) (noInit : C.prog.inits.idxOf? f = none) (hfn : C.prog.funcs[f]? = some fn)
    (witness : ∃ (w : World) (tape : Tape) (i : Input), w.os = os ∧ (w.forCall tape i).Shaped C.prog ∧ i.vars = [] ∧ Input.okWide C.prog (w.forCall tape i) .any w.heap.size f i ∧
      s.pre6 enc C.prog fn [] apart (w.forCall tape i).memory i.args ∧ ({} : Assume).holds C.prog (lone (Frame.enter C.prog f i.args .normal) [] (w.forCall tape i)))
    (hpar : fn.params.toList = Ts) (hres : fn.resultTypes = #[tb]) (hb : C.prog.underlying tb = some .bool) (hl : laidOutB C.prog = true)
    (hsh : shpL C.prog nn Ts ins = true) (hrd : (Ts.all fun T => C.prog.readableRec T && decide (T < C.prog.types.size)) = true) (hvars : s.vars = [])
    (hspec : ∀ (ds : List (DataW H)), ds.length = Ts.length → s.fn H ds = { results := [.lit (.bool true)], args := ds })
    (hcon : ∀ n, ConOK C.prog f ⟨ins, [], [.bool], fun x _ => g n x, false⟩)
    (hplain : ∀ x, wfL ins x → ∃ n, g n x = some true) :
    ReturnsInHanded {} C os f .any (s.pre6 enc C.prog fn [] apart) (s.post enc C.prog fn apart true false false) := by
  refine returnsInHanded_of_change own started noInit hfn witness ?_
  intro W base args ds gs before hval hW _ _
  have hW' := hW
  obtain ⟨p, q, hA, hV, rfl, _, _⟩ := hW
  rw [hvars] at hV
  have hgs : gs = [] ∧ q = [] := by
    cases gs with
    | nil => exact ⟨rfl, hV⟩
    | cons a b => simp [DataW.TrodVars] at hV
  obtain ⟨rfl, rfl⟩ := hgs
  rw [hpar] at hA
  have hlen : ds.length = Ts.length := by
    have : ∀ (Ts : List Nat) (vs : List Value) (ds : List (DataW H)) ps, DataW.TrodAll enc C.prog W 0 (fun _ => true) true Ts vs ds ps → ds.length = Ts.length := by
      intro Ts
      induction Ts with
      | nil => intro vs ds ps h; obtain ⟨_, rfl, _⟩ := trodAll_nil h; rfl
      | cons T Ts ih =>
        intro vs ds ps h
        obtain ⟨v, vs', d, ds', p, q, rfl, rfl, rfl, h1, h2⟩ := trodAll_cons h
        simp [ih _ _ _ h2]
    exact this _ _ _ _ hA
  obtain ⟨x, hx, hwf⟩ := open_args nn Ts ins hsh args.toList ds p base (fun j T v hT hv => by
    refine hval j T v ?_ (by simpa using hv)
    have : fn.params.toList[j]? = some T := by rw [hpar]; exact hT
    simpa using this) hA
  obtain ⟨n, hn⟩ := hplain x hwf
  obtain ⟨_, hc⟩ := hcon n
  have hcall := hc W _ args.toList [] x () true hx rfl hn
  simp only [List.append_nil, Array.toArray_toList] at hcall
  refine hcall.mono ?_
  rintro e w' ⟨v, rfl, hk, hr, _⟩
  obtain ⟨cs, rfl, hr⟩ := hr
  simp only [Rep] at hr
  subst hr
  have hbl := hk.below
  refine ⟨_, rfl, ds, [], p ++ [], [], p, [], hW', ?_, ?_, ?_, ?_, fun h => (by cases h)⟩
  · rw [hres]
    have : s.fn H (ds ++ []) = { results := [.lit (.bool true)], args := ds } := by rw [List.append_nil]; exact hspec ds hlen
    rw [this]
    exact trodAll_mk1 (shut_bool hb true)
  · have : s.fn H (ds ++ []) = { results := [.lit (.bool true)], args := ds } := by rw [List.append_nil]; exact hspec ds hlen
    rw [this, hpar]
    refine trodAll_stays hl hbl Ts (fun T hT => ?_) _ _ _ hA (fun x hx => hW'.lt x (List.mem_append_left _ hx))
    have := List.all_eq_true.1 hrd T hT
    simpa using this
  · have : s.fn H (ds ++ []) = { results := [.lit (.bool true)], args := ds } := by rw [List.append_nil]; exact hspec ds hlen
    rw [this, hvars]
    rfl
  · exact hbl.frame _

end Go.Abs

set_option linter.unusedSimpArgs false
set_option linter.unusedVariables false
namespace Go.Abs
open Go Go.ChangeShapes Go.WideShapes Go.RowKit
variable {P : Program}

theorem law_liftedX {X : World → Array Value → Prop} (hX : ∀ (w w' : World) (args : Array Value), w.heap = w'.heap → X w args → X w' args) {C : Checked} {os : Os} {f : FuncId} {fn : Func} {s : ChangeSpec} {ins : List Ty} {Ts : List Nat} {tb : Nat} {g : Nat → denL ins → Option Bool} {nn : Nat} {apart : Bool}
    {H : Type} {enc : TypeId × Value → H}
    (own : ownKnob C.prog.godebug = none) (started : os.Started) (noInit : C.prog.inits.idxOf? f = none) (hfn : C.prog.funcs[f]? = some fn)
    (witness : ∃ (w : World) (tape : Tape) (i : Input), w.os = os ∧ (w.forCall tape i).Shaped C.prog ∧ i.vars = [] ∧ Input.okWide C.prog (w.forCall tape i) .any w.heap.size f i ∧
      ((s.pre enc C.prog fn [] apart (w.forCall tape i).memory i.args ∧ X (w.forCall tape i).memory i.args) ∧ sizedMet enc C.prog fn (OpenSpec.ofChange s) apart (w.forCall tape i).memory i.args) ∧ ({} : Assume).holds C.prog (lone (Frame.enter C.prog f i.args .normal) [] (w.forCall tape i)))
    (hpar : fn.params.toList = Ts) (hres : fn.resultTypes = #[tb]) (hb : C.prog.underlying tb = some .bool) (hl : laidOutB C.prog = true)
    (hsh : shpL C.prog nn Ts ins = true) (hrd : (Ts.all fun T => C.prog.readableRec T && decide (T < C.prog.types.size)) = true) (hvars : s.vars = [])
    (hspec : ∀ (ds : List (DataW H)), ds.length = Ts.length → s.fn H ds = { results := [.lit (.bool true)], args := ds })
    (hcon : ∀ n, ConOK C.prog f ⟨ins, [], [.bool], fun x _ => g n x, false⟩)
    (hplain : ∀ x, wfL ins x → ∃ n, g n x = some true) :
    ReturnsInHanded {} C os f .any (fun w args => (s.pre enc C.prog fn [] apart w args ∧ X w args) ∧ sizedMet enc C.prog fn (OpenSpec.ofChange s) apart w args) (s.post enc C.prog fn apart true false false) := by
  refine returnsInHanded_of_change_and hX own started noInit hfn witness ?_
  intro W base args ds gs before hval hW _ _ _ _
  have hW' := hW
  obtain ⟨p, q, hA, hV, rfl, _, _⟩ := hW
  rw [hvars] at hV
  have hgs : gs = [] ∧ q = [] := by
    cases gs with
    | nil => exact ⟨rfl, hV⟩
    | cons a b => simp [DataW.TrodVars] at hV
  obtain ⟨rfl, rfl⟩ := hgs
  rw [hpar] at hA
  have hlen : ds.length = Ts.length := by
    have : ∀ (Ts : List Nat) (vs : List Value) (ds : List (DataW H)) ps, DataW.TrodAll enc C.prog W 0 (fun _ => true) true Ts vs ds ps → ds.length = Ts.length := by
      intro Ts
      induction Ts with
      | nil => intro vs ds ps h; obtain ⟨_, rfl, _⟩ := trodAll_nil h; rfl
      | cons T Ts ih =>
        intro vs ds ps h
        obtain ⟨v, vs', d, ds', p, q, rfl, rfl, rfl, h1, h2⟩ := trodAll_cons h
        simp [ih _ _ _ h2]
    exact this _ _ _ _ hA
  obtain ⟨x, hx, hwf⟩ := open_args nn Ts ins hsh args.toList ds p base (fun j T v hT hv => by
    refine hval j T v ?_ (by simpa using hv)
    have : fn.params.toList[j]? = some T := by rw [hpar]; exact hT
    simpa using this) hA
  obtain ⟨n, hn⟩ := hplain x hwf
  obtain ⟨_, hc⟩ := hcon n
  have hcall := hc W _ args.toList [] x () true hx rfl hn
  simp only [List.append_nil, Array.toArray_toList] at hcall
  refine hcall.mono ?_
  rintro e w' ⟨v, rfl, hk, hr, _⟩
  obtain ⟨cs, rfl, hr⟩ := hr
  simp only [Rep] at hr
  subst hr
  have hbl := hk.below
  refine ⟨_, rfl, ds, [], p ++ [], [], p, [], hW', ?_, ?_, ?_, ?_, fun h => (by cases h)⟩
  · rw [hres]
    have : s.fn H (ds ++ []) = { results := [.lit (.bool true)], args := ds } := by rw [List.append_nil]; exact hspec ds hlen
    rw [this]
    exact trodAll_mk1 (shut_bool hb true)
  · have : s.fn H (ds ++ []) = { results := [.lit (.bool true)], args := ds } := by rw [List.append_nil]; exact hspec ds hlen
    rw [this, hpar]
    refine trodAll_stays hl hbl Ts (fun T hT => ?_) _ _ _ hA (fun x hx => hW'.lt x (List.mem_append_left _ hx))
    have := List.all_eq_true.1 hrd T hT
    simpa using this
  · have : s.fn H (ds ++ []) = { results := [.lit (.bool true)], args := ds } := by rw [List.append_nil]; exact hspec ds hlen
    rw [this, hvars]
    rfl
  · exact hbl.frame _

end Go.Abs

set_option linter.unusedSimpArgs false
set_option linter.unusedVariables false
namespace Go.Abs
open Go

theorem wrap_id {x : Int} (h1 : -9223372036854775808 ≤ x) (h2 : x ≤ 9223372036854775807) : IntKind.wrap .i64 x = x := by
  simp [IntKind.wrap, IntKind.bits, IntKind.signed]
  omega

theorem wrap_lo (x : Int) : -9223372036854775808 ≤ IntKind.wrap .i64 x := by
  simp [IntKind.wrap, IntKind.bits, IntKind.signed]
  omega
theorem wrap_hi (x : Int) : IntKind.wrap .i64 x ≤ 9223372036854775807 := by
  simp [IntKind.wrap, IntKind.bits, IntKind.signed]
  omega

theorem geti_nat {α : Type} (l : List α) (i : Nat) : geti l (i : Int) = l[i]? := by simp [geti]
theorem geti_neg {α : Type} {l : List α} {i : Int} (h : i < 0) : geti l i = none := by
  unfold geti
  rw [if_neg (by omega)]
theorem geti_of {α : Type} {l : List α} {i : Int} (h0 : 0 ≤ i) (h1 : i < (l.length : Int)) : geti l i = some (l[i.toNat]'(by omega)) := by
  unfold geti
  rw [if_pos h0, List.getElem?_eq_getElem]
theorem seti_nat {α : Type} (l : List α) (i : Nat) (x : α) (h : i < l.length) : seti l (i : Int) x = some (l.set i x) := by
  unfold seti
  rw [if_pos ⟨by omega, by simpa using h⟩]
  simp
theorem cut_nat {α : Type} (l : List α) (i j : Nat) (h : i ≤ j) (hj : j ≤ l.length) : cut l (i : Int) (j : Int) = some ((l.take j).drop i) := by
  unfold cut
  rw [if_pos ⟨by omega, by omega, by omega⟩]
  simp
theorem cut_zero {α : Type} (l : List α) (j : Nat) (hj : j ≤ l.length) : cut l 0 (j : Int) = some (l.take j) := by
  have := cut_nat l 0 j (Nat.zero_le _) hj
  simpa using this
theorem chk_ok {n : Nat} (h : n ≤ 4294967296) : chk n = some () := by unfold chk most; rw [if_pos h]
theorem chki_ok {n : Int} (h0 : 0 ≤ n) (h : n ≤ 4294967296) : chki n = some () := by
  unfold chki most
  rw [if_pos ⟨h0, by simpa using h⟩]

theorem part_false {α : Type} (m : Option α) (d : α) : part false m d = some d := rfl

section
variable {D Ks R : Type} {body : D → (D → Option R) → Ks → Option R} {ks : Ks}

/-- A loop, by a relation between what stands in the slots and the result, and a measure. -/
theorem loop_rule (I : D → Option R → Prop) (μ : D → Nat)
    (h : ∀ d r, I d r → ∀ again, (∀ d' r', I d' r' → μ d' < μ d → again d' = r') → body d again ks = r) :
    ∀ (n : Nat) (d : D) (r : Option R), I d r → μ d < n → loopG body n d ks = r := by
  intro n
  induction n with
  | zero => intro d r _ hn; omega
  | succ n ih =>
    intro d r hI hn
    exact h d r hI _ fun d' r' hI' hm => ih d' r' hI' (by omega)

/-- A loop over a list, with what is gathered. -/
theorem list_loop {α A : Type} {n : Nat} (l : List α) (F : Nat → A → D) (G : Nat → A → List α → Option R) (Inv : Nat → A → Prop) (hl : l.length ≤ maxLen)
    (hs : ∀ i acc x r, i < l.length → l[i]? = some x → l.drop i = x :: r → geti l (i : Int) = some x → decide ((i : Int) < (l.length : Int)) = true → IntKind.wrap .i64 ((i : Int) + 1) = ((i + 1 : Nat) : Int) → Inv i acc →
      ∀ again, (∀ acc', Inv (i + 1) acc' → again (F (i + 1) acc') = G (i + 1) acc' r) → body (F i acc) again ks = G i acc (x :: r))
    (he : ∀ acc, decide ((l.length : Int) < (l.length : Int)) = false → Inv l.length acc → ∀ again, body (F l.length acc) again ks = G l.length acc [])
    (acc : A) (h0 : Inv 0 acc) (hn : l.length < n) : loopG body n (F 0 acc) ks = G 0 acc l := by
  have key : ∀ (m i : Nat) (acc : A), i ≤ l.length → Inv i acc → l.length - i < m → loopG body m (F i acc) ks = G i acc (l.drop i) := by
    intro m
    induction m with
    | zero => intro i acc _ _ h; omega
    | succ m ih =>
      intro i acc hi hI hm
      rw [loopG]
      by_cases h : i = l.length
      · subst h
        rw [List.drop_length]
        exact he acc (by simp) hI _
      · have hlt : i < l.length := by omega
        have hd : l.drop i = l[i] :: l.drop (i + 1) := List.drop_eq_getElem_cons hlt
        rw [hd]
        refine hs i acc l[i] (l.drop (i + 1)) hlt (List.getElem?_eq_getElem hlt) hd (by rw [geti_nat, List.getElem?_eq_getElem hlt]) (by simpa using hlt) (by rw [wrap_id] <;> unfold maxLen at hl <;> omega) hI _ fun acc' hI' => ?_
        exact ih (i + 1) acc' (by omega) hI' (by omega)
  have := key n 0 acc (Nat.zero_le _) h0 (by omega)
  simpa using this

theorem list_loop0 {α : Type} {n : Nat} (l : List α) (F : Nat → D) (G : Nat → List α → Option R) (hl : l.length ≤ maxLen)
    (hs : ∀ i x r, i < l.length → l[i]? = some x → l.drop i = x :: r → geti l (i : Int) = some x → decide ((i : Int) < (l.length : Int)) = true → IntKind.wrap .i64 ((i : Int) + 1) = ((i + 1 : Nat) : Int) →
      ∀ again, again (F (i + 1)) = G (i + 1) r → body (F i) again ks = G i (x :: r))
    (he : decide ((l.length : Int) < (l.length : Int)) = false → ∀ again, body (F l.length) again ks = G l.length [])
    (hn : l.length < n) : loopG body n (F 0) ks = G 0 l :=
  list_loop (A := Unit) l (fun i _ => F i) (fun i _ r => G i r) (fun _ _ => True) hl (fun i _ x r h1 h2 h3 h4 h5 h6 _ again ih => hs i x r h1 h2 h3 h4 h5 h6 again (ih () trivial)) (fun _ h _ again => he h again) () trivial hn

/-- A loop over the numbers below one. -/
theorem count_loop {A : Type} {n : Nat} (len : Nat) (F : Nat → A → D) (G : Nat → A → Option R) (Inv : Nat → A → Prop) (hl : len ≤ maxLen)
    (hs : ∀ i acc, i < len → decide ((i : Int) < (len : Int)) = true → IntKind.wrap .i64 ((i : Int) + 1) = ((i + 1 : Nat) : Int) → Inv i acc →
      ∀ again, (∀ acc', Inv (i + 1) acc' → again (F (i + 1) acc') = G (i + 1) acc') → body (F i acc) again ks = G i acc)
    (he : ∀ acc, decide ((len : Int) < (len : Int)) = false → Inv len acc → ∀ again, body (F len acc) again ks = G len acc)
    (acc : A) (h0 : Inv 0 acc) (hn : len < n) : loopG body n (F 0 acc) ks = G 0 acc := by
  have key : ∀ (m i : Nat) (acc : A), i ≤ len → Inv i acc → len - i < m → loopG body m (F i acc) ks = G i acc := by
    intro m
    induction m with
    | zero => intro i acc _ _ h; omega
    | succ m ih =>
      intro i acc hi hI hm
      rw [loopG]
      by_cases h : i = len
      · subst h
        exact he acc (by simp) hI _
      · have hlt : i < len := by omega
        refine hs i acc hlt (by simpa using hlt) (by rw [wrap_id] <;> unfold maxLen at hl <;> omega) hI _ fun acc' hI' => ?_
        exact ih (i + 1) acc' (by omega) hI' (by omega)
  exact key n 0 acc (Nat.zero_le _) h0 (by omega)
end

theorem cast_pred {n : Nat} (h : 0 < n) (hm : n ≤ maxLen) : IntKind.wrap .i64 ((n : Int) - 1) = ((n - 1 : Nat) : Int) := by
  unfold maxLen at hm
  rw [wrap_id] <;> omega

theorem bif_eq {α : Type} (b : Bool) (x y : α) : (bif b then x else y) = if b = true then x else y := by cases b <;> rfl

end Go.Abs

set_option linter.unusedVariables false
namespace Go.Abs
open Go

def gT : List (Nat × TyE) := [(3, ⟨(.int .i64), 0, false⟩), (4, ⟨.bool, 0, false⟩), (5, ⟨(.int .u8), 0, false⟩), (9, ⟨.str, 0, false⟩), (22, ⟨(.slice .str), 0, false⟩), (23, ⟨(.slice (.pair .str (.pair (.slice (.int .i64)) (.slice .str)))), 0, false⟩), (25, ⟨(.pair (.slice .str) (.pair (.int .i64) (.slice (.pair .str (.pair (.slice (.int .i64)) (.slice .str)))))), 3, false⟩), (30, ⟨(.int .i64), 0, false⟩), (41, ⟨(.slice (.int .i64)), 0, false⟩), (43, ⟨(.pair .str (.slice (.int .i64))), 2, false⟩), (47, ⟨(.pair (.int .i64) (.int .i64)), 2, false⟩), (50, ⟨(.slice (.slice (.int .i64))), 0, false⟩), (52, ⟨(.pair (.int .i64) (.pair (.int .i64) (.pair (.slice (.int .i64)) (.slice (.slice (.int .i64)))))), 4, false⟩), (58, ⟨(.pair .str (.pair (.slice (.int .i64)) (.slice .str))), 3, false⟩), (63, ⟨(.slice (.slice (.pair .str .str))), 0, false⟩), (65, ⟨(.pair (.slice .str) (.pair .str (.pair (.slice .str) (.slice (.slice (.pair .str .str)))))), 4, false⟩), (71, ⟨(.slice (.slice .str)), 0, false⟩), (81, ⟨(.pair (.slice .str) (.pair (.int .i64) (.slice (.pair .str (.pair (.slice (.int .i64)) (.slice .str)))))), 1, false⟩), (88, ⟨(.seq (.pair (.int .i64) (.slice (.int .i64)))), 0, false⟩), (91, ⟨(.pair (.int .i64) (.slice (.int .i64))), 2, false⟩), (93, ⟨(.pair (.int .i64) (.pair (.int .i64) (.pair (.slice (.int .i64)) (.slice (.slice (.int .i64)))))), 1, false⟩), (101, ⟨(.fn1 (.int .i64) .bool), 0, false⟩), (104, ⟨(.fn1 .str .bool), 0, false⟩), (106, ⟨(.slice (.int .u8)), 0, false⟩), (116, ⟨(.ptr (.pair (.slice .str) (.pair .str (.pair (.slice .str) (.slice (.slice (.pair .str .str))))))), 0, false⟩), (118, ⟨(.slice (.pair .str .str)), 0, false⟩), (123, ⟨(.pair .str .str), 2, false⟩), (128, ⟨(.slice (.int .i64)), 0, false⟩), (130, ⟨(.fn2 (.int .i64) (.int .i64) (.int .i64)), 0, false⟩), (142, ⟨(.map (.int .i64) .bool), 0, false⟩), (143, ⟨(.slice (.pair (.int .i64) (.slice (.int .i64)))), 0, false⟩)]
def gQ : List (Nat × Ty) := [(47, (.pair (.int .i64) (.int .i64)))]
theorem q47 : EqOK Go.Proofs.Tryd.prog 47 (.pair (.int .i64) (.int .i64)) := eqOK_gen (d := 40) (by decide) (by kernel_rfl) rfl (by kernel_rfl)
def e0 (n : Nat) : Env := ⟨gT, [], gQ, [], [], [], [], [], [], []⟩
theorem hP : Go.Proofs.Tryd.prog.follows .mixedOrders = true := by kernel_rfl
theorem h0 (n : Nat) : EnvOK Go.Proofs.Tryd.prog (e0 n) := env_eq (env_nil (by kernel_rfl)) q47

/-- criadera/criaderalaw07.Rules -/
def s14 (n : Nat) : Option (((List (List UInt8)) × Int × (List ((List UInt8) × (List Int) × (List (List UInt8)))))) :=
  some ((([[114, 97, 121, 97], [112, 97, 108, 109, 97]] : List (List UInt8)), ((0 : Int), ([([109, 111, 115, 116, 111], (([(1 : Int), (2 : Int)] : List Int), ([[102, 97, 116], [116, 104, 105, 110]] : List (List UInt8)))), ([111, 108, 111, 114, 111, 115, 111], (([(1 : Int), (1 : Int)] : List Int), ([[107, 101, 101, 112], [107, 101, 101, 112]] : List (List UInt8)))), ([102, 105, 110, 111], (([(1 : Int), (2 : Int)] : List Int), ([[102, 97, 108, 108, 101, 110], [107, 101, 101, 112]] : List (List UInt8))))] : List ((List UInt8) × (List Int) × (List (List UInt8)))))))

def s14_c (n : Nat) : Con := ⟨[], [], [(.pair (.slice .str) (.pair (.int .i64) (.slice (.pair .str (.pair (.slice (.int .i64)) (.slice .str))))))], fun x y => s14 n, false⟩
theorem s14_eq (n : Nat) (x : denL []) (y : denL []) : funR (e0 n) Go.Proofs.Tryd.f14 [] [] [(.pair (.slice .str) (.pair (.int .i64) (.slice (.pair .str (.pair (.slice (.int .i64)) (.slice .str))))))] false [] x y = (s14_c n).fn x y := by kernel_rfl
theorem s14_ok (n : Nat) : ConOK Go.Proofs.Tryd.prog 14 (s14_c n) := func_ok (h0 n) hP Go.Proofs.Tryd.func14 (by kernel_rfl) (by kernel_rfl) (O := []) trivial (s14_eq n)
def e1 (n : Nat) : Env := ⟨gT, (14, s14_c n) :: (e0 n).C, gQ, (e0 n).I, (e0 n).M, (e0 n).S, (e0 n).D, [], (e0 n).O, []⟩
theorem h1 (n : Nat) : EnvOK Go.Proofs.Tryd.prog (e1 n) := env_add (h0 n) (s14_ok n)

/-- criadera/taste.unless -/
def s38 (n : Nat) (ok : Bool) (e : Int) : Option (Int) :=
  bif ok then
    some ((0 : Int))
  else
    some (e)

def s38_c (n : Nat) : Con := ⟨[.bool, (.int .i64)], [], [(.int .i64)], fun x y => s38 n x.1 x.2, false⟩
theorem s38_eq (n : Nat) (x : denL [.bool, (.int .i64)]) (y : denL []) : funR (e1 n) Go.Proofs.Tryd.f38 [.bool, (.int .i64)] [] [(.int .i64)] false [] x y = (s38_c n).fn x y := by kernel_rfl
theorem s38_ok (n : Nat) : ConOK Go.Proofs.Tryd.prog 38 (s38_c n) := func_ok (h1 n) hP Go.Proofs.Tryd.func38 (by kernel_rfl) (by kernel_rfl) (O := []) trivial (s38_eq n)
def e2 (n : Nat) : Env := ⟨gT, (38, s38_c n) :: (e1 n).C, gQ, (e1 n).I, (e1 n).M, (e1 n).S, (e1 n).D, [], (e1 n).O, []⟩
theorem h2 (n : Nat) : EnvOK Go.Proofs.Tryd.prog (e2 n) := env_add (h1 n) (s38_ok n)

def s37_l0 (n : Nat) (d : (List Int) × Int × Int × Unit) (again : ((List Int) × Int × Int × Unit) → Option (Int)) (ks : (Unit → Option (Int)) × (Int × Unit → Option (Int)) × Unit) : Option (Int) :=
  match d, ks with
  | (t5, t6, t7, _), (k0, k1, _) =>
  bif (decide (t7 < t6)) then
    (geti t5 t7).bind fun e =>
    bif (e != (0 : Int)) then
      k1 (e, ())
    else
      again (t5, t6, (IntKind.wrap .i64 (t7 + (1 : Int))), ())
  else
    k0 (())

/-- criadera/taste.first -/
def s37 (n : Nat) (l : List Int) : Option (Int) :=
  loopG (s37_l0 n) n (l, ((List.length l : Nat) : Int), (0 : Int), ())
    (fun (_) =>
      some ((0 : Int)),
    fun (t2, _) =>
      some (t2), ())

def s37_t0 : Templ := ⟨15, [(.slice (.int .i64)), (.int .i64), (.int .i64)], [(5, .v (.hole (.slice (.int .i64)))), (6, .v (.hole (.int .i64))), (7, .v (.hole (.int .i64)))], [], []⟩
def s37_x0 : List (Way × Templ) := [(.exit 0, ⟨15, [], [], [], []⟩), (.ret, ⟨15, [(.int .i64)], [(2, .v (.hole (.int .i64)))], [], []⟩)]
def s37_o0 (n : Nat) : Ev (denL [(.int .i64)]) := loopO n (e2 n) s37_t0 s37_x0 (s37_l0 n)
theorem s37_b0 (n : Nat) (d) (again) (ks) : codeR (R := (denL [(.int .i64)])) (e2 n) (Hdl.no (R := (denL [(.int .i64)]))) (inn (lp (bd Go.Proofs.Tryd.f37) 0)) [] (mk s37_t0 d) (turnR (e2 n) s37_t0 s37_x0 again ks) = s37_l0 n d again ks := by kernel_rfl
theorem s37_s0 (n : Nat) : Sound Go.Proofs.Tryd.prog (Hdl.no (R := (denL [(.int .i64)]))) false (lp (bd Go.Proofs.Tryd.f37) 0) (s37_o0 n) := loop_ok (h2 n) hP (by kernel_rfl) (O := []) trivial (s37_b0 n)
def s37_c (n : Nat) : Con := ⟨[(.slice (.int .i64))], [], [(.int .i64)], fun x y => s37 n x, false⟩
theorem s37_eq (n : Nat) (x : denL [(.slice (.int .i64))]) (y : denL []) : funR (e2 n) Go.Proofs.Tryd.f37 [(.slice (.int .i64))] [] [(.int .i64)] false [s37_o0 n] x y = (s37_c n).fn x y := by kernel_rfl
theorem s37_ok (n : Nat) : ConOK Go.Proofs.Tryd.prog 37 (s37_c n) := func_ok (h2 n) hP Go.Proofs.Tryd.func37 (by kernel_rfl) (by kernel_rfl) (O := [s37_o0 n]) ⟨s37_s0 n, trivial⟩ (s37_eq n)
def e3 (n : Nat) : Env := ⟨gT, (37, s37_c n) :: (e2 n).C, gQ, (e2 n).I, (e2 n).M, (e2 n).S, (e2 n).D, [], (e2 n).O, []⟩
theorem h3 (n : Nat) : EnvOK Go.Proofs.Tryd.prog (e3 n) := env_add (h2 n) (s37_ok n)

def s52_l0 (n : Nat) (d : (List UInt8) × (List Int) × Int × Int × Unit) (again : ((List UInt8) × (List Int) × Int × Int × Unit) → Option (Bool)) (ks : ((List UInt8) × Unit → Option (Bool)) × (Bool × Unit → Option (Bool)) × Unit) : Option (Bool) :=
  match d, ks with
  | (s, t7, t8, t9, _), (k0, k1, _) =>
  bif (decide (t9 < t8)) then
    (geti t7 t9).bind fun e =>
    bif ((!(((decide (e ≥ (97 : Int))) && (decide (e ≤ (122 : Int)))) || ((decide (e ≥ (65 : Int))) && (decide (e ≤ (90 : Int)))))) && ((t9 == (0 : Int)) || ((e != (45 : Int)) && ((decide (e < (48 : Int))) || (decide (e > (57 : Int))))))) then
      k1 (false, ())
    else
      again (s, t7, t8, (IntKind.wrap .i64 (t9 + (1 : Int))), ())
  else
    k0 (s, ())

/-- criadera/taste.isName -/
def s52 (n : Nat) (s : List UInt8) : Option (Bool) :=
  loopG (s52_l0 n) n (s, (bytesOf s), ((List.length (bytesOf s) : Nat) : Int), (0 : Int), ())
    (fun (s_2, _) =>
      some ((((s_2 : List UInt8) != []) && (decide (((List.length s_2 : Nat) : Int) ≤ (12 : Int))))),
    fun (t2, _) =>
      some (t2), ())

def s52_t0 : Templ := ⟨54, [.str, (.slice (.int .u8)), (.int .i64), (.int .i64)], [(0, .v (.hole .str)), (7, .v (.hole (.slice (.int .u8)))), (8, .v (.hole (.int .i64))), (9, .v (.hole (.int .i64)))], [], []⟩
def s52_x0 : List (Way × Templ) := [(.exit 0, ⟨54, [.str], [(0, .v (.hole .str))], [], []⟩), (.ret, ⟨54, [.bool], [(2, .v (.hole .bool))], [], []⟩)]
def s52_o0 (n : Nat) : Ev (denL [.bool]) := loopO n (e3 n) s52_t0 s52_x0 (s52_l0 n)
theorem s52_b0 (n : Nat) (d) (again) (ks) : codeR (R := (denL [.bool])) (e3 n) (Hdl.no (R := (denL [.bool]))) (inn (lp (bd Go.Proofs.Tryd.f52) 0)) [] (mk s52_t0 d) (turnR (e3 n) s52_t0 s52_x0 again ks) = s52_l0 n d again ks := by kernel_rfl
theorem s52_s0 (n : Nat) : Sound Go.Proofs.Tryd.prog (Hdl.no (R := (denL [.bool]))) false (lp (bd Go.Proofs.Tryd.f52) 0) (s52_o0 n) := loop_ok (h3 n) hP (by kernel_rfl) (O := []) trivial (s52_b0 n)
def s52_c (n : Nat) : Con := ⟨[.str], [], [.bool], fun x y => s52 n x, false⟩
theorem s52_eq (n : Nat) (x : denL [.str]) (y : denL []) : funR (e3 n) Go.Proofs.Tryd.f52 [.str] [] [.bool] false [s52_o0 n] x y = (s52_c n).fn x y := by kernel_rfl
theorem s52_ok (n : Nat) : ConOK Go.Proofs.Tryd.prog 52 (s52_c n) := func_ok (h3 n) hP Go.Proofs.Tryd.func52 (by kernel_rfl) (by kernel_rfl) (O := [s52_o0 n]) ⟨s52_s0 n, trivial⟩ (s52_eq n)
def e4 (n : Nat) : Env := ⟨gT, (52, s52_c n) :: (e3 n).C, gQ, (e3 n).I, (e3 n).M, (e3 n).S, (e3 n).D, [], (e3 n).O, []⟩
theorem h4 (n : Nat) : EnvOK Go.Proofs.Tryd.prog (e4 n) := env_add (h3 n) (s52_ok n)

def s61_l0 (n : Nat) (d : (List (List UInt8)) × (List UInt8) × Int × Int × Unit) (again : ((List (List UInt8)) × (List UInt8) × Int × Int × Unit) → Option (Int)) (ks : (Unit → Option (Int)) × (Int × Unit → Option (Int)) × Unit) : Option (Int) :=
  match d, ks with
  | (s, v, t7, t8, _), (k0, k1, _) =>
  bif (decide (t8 < t7)) then
    (geti s t8).bind fun e =>
    bif ((v : List UInt8) == e) then
      k1 (t8, ())
    else
      again (s, v, t7, (IntKind.wrap .i64 (t8 + (1 : Int))), ())
  else
    k0 (())

/-- slices.Index[[]string,string] -/
def s61 (n : Nat) (s : List (List UInt8)) (v : List UInt8) : Option (Int) :=
  loopG (s61_l0 n) n (s, v, ((List.length s : Nat) : Int), (0 : Int), ())
    (fun (_) =>
      some ((-1 : Int)),
    fun (t4, _) =>
      some (t4), ())

def s61_t0 : Templ := ⟨19, [(.slice .str), .str, (.int .i64), (.int .i64)], [(0, .v (.hole (.slice .str))), (1, .v (.hole .str)), (7, .v (.hole (.int .i64))), (8, .v (.hole (.int .i64)))], [], []⟩
def s61_x0 : List (Way × Templ) := [(.exit 0, ⟨19, [], [], [], []⟩), (.ret, ⟨19, [(.int .i64)], [(4, .v (.hole (.int .i64)))], [], []⟩)]
def s61_o0 (n : Nat) : Ev (denL [(.int .i64)]) := loopO n (e4 n) s61_t0 s61_x0 (s61_l0 n)
theorem s61_b0 (n : Nat) (d) (again) (ks) : codeR (R := (denL [(.int .i64)])) (e4 n) (Hdl.no (R := (denL [(.int .i64)]))) (inn (lp (bd Go.Proofs.Tryd.f61) 0)) [] (mk s61_t0 d) (turnR (e4 n) s61_t0 s61_x0 again ks) = s61_l0 n d again ks := by kernel_rfl
theorem s61_s0 (n : Nat) : Sound Go.Proofs.Tryd.prog (Hdl.no (R := (denL [(.int .i64)]))) false (lp (bd Go.Proofs.Tryd.f61) 0) (s61_o0 n) := loop_ok (h4 n) hP (by kernel_rfl) (O := []) trivial (s61_b0 n)
def s61_c (n : Nat) : Con := ⟨[(.slice .str), .str], [], [(.int .i64)], fun x y => s61 n x.1 x.2, false⟩
theorem s61_eq (n : Nat) (x : denL [(.slice .str), .str]) (y : denL []) : funR (e4 n) Go.Proofs.Tryd.f61 [(.slice .str), .str] [] [(.int .i64)] false [s61_o0 n] x y = (s61_c n).fn x y := by kernel_rfl
theorem s61_ok (n : Nat) : ConOK Go.Proofs.Tryd.prog 61 (s61_c n) := func_ok (h4 n) hP Go.Proofs.Tryd.func61 (by kernel_rfl) (by kernel_rfl) (O := [s61_o0 n]) ⟨s61_s0 n, trivial⟩ (s61_eq n)
def e5 (n : Nat) : Env := ⟨gT, (61, s61_c n) :: (e4 n).C, gQ, (e4 n).I, (e4 n).M, (e4 n).S, (e4 n).D, [], (e4 n).O, []⟩
theorem h5 (n : Nat) : EnvOK Go.Proofs.Tryd.prog (e5 n) := env_add (h4 n) (s61_ok n)

/-- slices.Contains[[]string,string] -/
def s57 (n : Nat) (s : List (List UInt8)) (v : List UInt8) : Option (Bool) :=
  (s61 n s v).bind fun x =>
  some ((decide (x ≥ (0 : Int))))

def s57_c (n : Nat) : Con := ⟨[(.slice .str), .str], [], [.bool], fun x y => s57 n x.1 x.2, false⟩
theorem s57_eq (n : Nat) (x : denL [(.slice .str), .str]) (y : denL []) : funR (e5 n) Go.Proofs.Tryd.f57 [(.slice .str), .str] [] [.bool] false [] x y = (s57_c n).fn x y := by kernel_rfl
theorem s57_ok (n : Nat) : ConOK Go.Proofs.Tryd.prog 57 (s57_c n) := func_ok (h5 n) hP Go.Proofs.Tryd.func57 (by kernel_rfl) (by kernel_rfl) (O := []) trivial (s57_eq n)
def e6 (n : Nat) : Env := ⟨gT, (57, s57_c n) :: (e5 n).C, gQ, (e5 n).I, (e5 n).M, (e5 n).S, (e5 n).D, [], (e5 n).O, []⟩
theorem h6 (n : Nat) : EnvOK Go.Proofs.Tryd.prog (e6 n) := env_add (h5 n) (s57_ok n)

/-- criadera/taste.nameErr -/
def s46 (n : Nat) (name : List UInt8) (others : List (List UInt8)) : Option (Int) :=
  (s52 n name).bind fun x =>
  (s38 n x (4 : Int)).bind fun x_1 =>
  (s57 n others name).bind fun x_2 =>
  (s38 n (!x_2) (5 : Int)).bind fun x_3 =>
  (s37 n ([x_1, x_3] : List Int)).bind fun x_4 =>
  some (x_4)

def s46_c (n : Nat) : Con := ⟨[.str, (.slice .str)], [], [(.int .i64)], fun x y => s46 n x.1 x.2, false⟩
theorem s46_eq (n : Nat) (x : denL [.str, (.slice .str)]) (y : denL []) : funR (e6 n) Go.Proofs.Tryd.f46 [.str, (.slice .str)] [] [(.int .i64)] false [] x y = (s46_c n).fn x y := by kernel_rfl
theorem s46_ok (n : Nat) : ConOK Go.Proofs.Tryd.prog 46 (s46_c n) := func_ok (h6 n) hP Go.Proofs.Tryd.func46 (by kernel_rfl) (by kernel_rfl) (O := []) trivial (s46_eq n)
def e7 (n : Nat) : Env := ⟨gT, (46, s46_c n) :: (e6 n).C, gQ, (e6 n).I, (e6 n).M, (e6 n).S, (e6 n).D, [], (e6 n).O, []⟩
theorem h7 (n : Nat) : EnvOK Go.Proofs.Tryd.prog (e7 n) := env_add (h6 n) (s46_ok n)

/-- criadera/taste.within -/
def s39 (n : Nat) (v_n : Int) (lo : Int) (hi : Int) : Option (Bool) :=
  some (((decide (lo ≤ v_n)) && (decide (v_n ≤ hi))))

def s39_c (n : Nat) : Con := ⟨[(.int .i64), (.int .i64), (.int .i64)], [], [.bool], fun x y => s39 n x.1 x.2.1 x.2.2, false⟩
theorem s39_eq (n : Nat) (x : denL [(.int .i64), (.int .i64), (.int .i64)]) (y : denL []) : funR (e7 n) Go.Proofs.Tryd.f39 [(.int .i64), (.int .i64), (.int .i64)] [] [.bool] false [] x y = (s39_c n).fn x y := by kernel_rfl
theorem s39_ok (n : Nat) : ConOK Go.Proofs.Tryd.prog 39 (s39_c n) := func_ok (h7 n) hP Go.Proofs.Tryd.func39 (by kernel_rfl) (by kernel_rfl) (O := []) trivial (s39_eq n)
def e8 (n : Nat) : Env := ⟨gT, (39, s39_c n) :: (e7 n).C, gQ, (e7 n).I, (e7 n).M, (e7 n).S, (e7 n).D, [], (e7 n).O, []⟩
theorem h8 (n : Nat) : EnvOK Go.Proofs.Tryd.prog (e8 n) := env_add (h7 n) (s39_ok n)

/-- criadera/taste.CheckBook$1 -/
def s47 (n : Nat) (v_n : Int) (c0 : Int) : Option (Bool) :=
  (s39 n v_n (0 : Int) (IntKind.wrap .i64 (c0 - (1 : Int)))).bind fun x =>
  some (x)

def s47_c (n : Nat) : Con := ⟨[(.int .i64)], [(.int .i64)], [.bool], fun x y => s47 n x y, false⟩
theorem s47_eq (n : Nat) (x : denL [(.int .i64)]) (y : denL [(.int .i64)]) : funR (e8 n) Go.Proofs.Tryd.f47 [(.int .i64)] [(.int .i64)] [.bool] false [] x y = (s47_c n).fn x y := by kernel_rfl
theorem s47_ok (n : Nat) : ConOK Go.Proofs.Tryd.prog 47 (s47_c n) := func_ok (h8 n) hP Go.Proofs.Tryd.func47 (by kernel_rfl) (by kernel_rfl) (O := []) trivial (s47_eq n)
def e9 (n : Nat) : Env := ⟨gT, (47, s47_c n) :: (e8 n).C, gQ, (e8 n).I, (e8 n).M, (e8 n).S, (e8 n).D, [], (e8 n).O, []⟩
theorem h9 (n : Nat) : EnvOK Go.Proofs.Tryd.prog (e9 n) := env_add (h8 n) (s47_ok n)

/-- criadera/taste.CheckBook$2 -/
def s49 (n : Nat) (v_n : Int) (c0 : Int → Option Bool) : Option (Bool) :=
  (c0 v_n).bind fun x =>
  some ((!x))

def s49_c (n : Nat) : Con := ⟨[(.int .i64)], [(.fn1 (.int .i64) .bool)], [.bool], fun x y => s49 n x y, false⟩
theorem s49_eq (n : Nat) (x : denL [(.int .i64)]) (y : denL [(.fn1 (.int .i64) .bool)]) : funR (e9 n) Go.Proofs.Tryd.f49 [(.int .i64)] [(.fn1 (.int .i64) .bool)] [.bool] false [] x y = (s49_c n).fn x y := by kernel_rfl
theorem s49_ok (n : Nat) : ConOK Go.Proofs.Tryd.prog 49 (s49_c n) := func_ok (h9 n) hP Go.Proofs.Tryd.func49 (by kernel_rfl) (by kernel_rfl) (O := []) trivial (s49_eq n)
def e10 (n : Nat) : Env := ⟨gT, (49, s49_c n) :: (e9 n).C, gQ, (e9 n).I, (e9 n).M, (e9 n).S, (e9 n).D, [], (e9 n).O, []⟩
theorem h10 (n : Nat) : EnvOK Go.Proofs.Tryd.prog (e10 n) := env_add (h9 n) (s49_ok n)

def s76_l0 (n : Nat) (d : (List Int) × (Int → Option Bool) × Int × Int × Unit) (again : ((List Int) × (Int → Option Bool) × Int × Int × Unit) → Option (Int)) (ks : (Unit → Option (Int)) × (Int × Unit → Option (Int)) × Unit) : Option (Int) :=
  match d, ks with
  | (s, f, t7, t8, _), (k0, k1, _) =>
  bif (decide (t8 < t7)) then
    (geti s t8).bind fun e =>
    (f e).bind fun x =>
    bif x then
      k1 (t8, ())
    else
      again (s, f, t7, (IntKind.wrap .i64 (t8 + (1 : Int))), ())
  else
    k0 (())

/-- slices.IndexFunc[[]int,int] -/
def s76 (n : Nat) (s : List Int) (f : Int → Option Bool) : Option (Int) :=
  loopG (s76_l0 n) n (s, f, ((List.length s : Nat) : Int), (0 : Int), ())
    (fun (_) =>
      some ((-1 : Int)),
    fun (t4, _) =>
      some (t4), ())

def s76_t0 : Templ := ⟨19, [(.slice (.int .i64)), (.fn1 (.int .i64) .bool), (.int .i64), (.int .i64)], [(0, .v (.hole (.slice (.int .i64)))), (1, .v (.hole (.fn1 (.int .i64) .bool))), (7, .v (.hole (.int .i64))), (8, .v (.hole (.int .i64)))], [], []⟩
def s76_x0 : List (Way × Templ) := [(.exit 0, ⟨19, [], [], [], []⟩), (.ret, ⟨19, [(.int .i64)], [(4, .v (.hole (.int .i64)))], [], []⟩)]
def s76_o0 (n : Nat) : Ev (denL [(.int .i64)]) := loopO n (e10 n) s76_t0 s76_x0 (s76_l0 n)
theorem s76_b0 (n : Nat) (d) (again) (ks) : codeR (R := (denL [(.int .i64)])) (e10 n) (Hdl.no (R := (denL [(.int .i64)]))) (inn (lp (bd Go.Proofs.Tryd.f76) 0)) [] (mk s76_t0 d) (turnR (e10 n) s76_t0 s76_x0 again ks) = s76_l0 n d again ks := by kernel_rfl
theorem s76_s0 (n : Nat) : Sound Go.Proofs.Tryd.prog (Hdl.no (R := (denL [(.int .i64)]))) false (lp (bd Go.Proofs.Tryd.f76) 0) (s76_o0 n) := loop_ok (h10 n) hP (by kernel_rfl) (O := []) trivial (s76_b0 n)
def s76_c (n : Nat) : Con := ⟨[(.slice (.int .i64)), (.fn1 (.int .i64) .bool)], [], [(.int .i64)], fun x y => s76 n x.1 x.2, false⟩
theorem s76_eq (n : Nat) (x : denL [(.slice (.int .i64)), (.fn1 (.int .i64) .bool)]) (y : denL []) : funR (e10 n) Go.Proofs.Tryd.f76 [(.slice (.int .i64)), (.fn1 (.int .i64) .bool)] [] [(.int .i64)] false [s76_o0 n] x y = (s76_c n).fn x y := by kernel_rfl
theorem s76_ok (n : Nat) : ConOK Go.Proofs.Tryd.prog 76 (s76_c n) := func_ok (h10 n) hP Go.Proofs.Tryd.func76 (by kernel_rfl) (by kernel_rfl) (O := [s76_o0 n]) ⟨s76_s0 n, trivial⟩ (s76_eq n)
def e11 (n : Nat) : Env := ⟨gT, (76, s76_c n) :: (e10 n).C, gQ, (e10 n).I, (e10 n).M, (e10 n).S, (e10 n).D, [], (e10 n).O, []⟩
theorem h11 (n : Nat) : EnvOK Go.Proofs.Tryd.prog (e11 n) := env_add (h10 n) (s76_ok n)

/-- slices.ContainsFunc[[]int,int] -/
def s48 (n : Nat) (s : List Int) (f : Int → Option Bool) : Option (Bool) :=
  (s76 n s f).bind fun x =>
  some ((decide (x ≥ (0 : Int))))

def s48_c (n : Nat) : Con := ⟨[(.slice (.int .i64)), (.fn1 (.int .i64) .bool)], [], [.bool], fun x y => s48 n x.1 x.2, false⟩
theorem s48_eq (n : Nat) (x : denL [(.slice (.int .i64)), (.fn1 (.int .i64) .bool)]) (y : denL []) : funR (e11 n) Go.Proofs.Tryd.f48 [(.slice (.int .i64)), (.fn1 (.int .i64) .bool)] [] [.bool] false [] x y = (s48_c n).fn x y := by kernel_rfl
theorem s48_ok (n : Nat) : ConOK Go.Proofs.Tryd.prog 48 (s48_c n) := func_ok (h11 n) hP Go.Proofs.Tryd.func48 (by kernel_rfl) (by kernel_rfl) (O := []) trivial (s48_eq n)
def e12 (n : Nat) : Env := ⟨gT, (48, s48_c n) :: (e11 n).C, gQ, (e11 n).I, (e11 n).M, (e11 n).S, (e11 n).D, [], (e11 n).O, []⟩
theorem h12 (n : Nat) : EnvOK Go.Proofs.Tryd.prog (e12 n) := env_add (h11 n) (s48_ok n)

def s77_l0 (n : Nat) (d : (List (List UInt8)) × ((List UInt8) → Option Bool) × Int × Int × Unit) (again : ((List (List UInt8)) × ((List UInt8) → Option Bool) × Int × Int × Unit) → Option (Int)) (ks : (Unit → Option (Int)) × (Int × Unit → Option (Int)) × Unit) : Option (Int) :=
  match d, ks with
  | (s, f, t7, t8, _), (k0, k1, _) =>
  bif (decide (t8 < t7)) then
    (geti s t8).bind fun e =>
    (f e).bind fun x =>
    bif x then
      k1 (t8, ())
    else
      again (s, f, t7, (IntKind.wrap .i64 (t8 + (1 : Int))), ())
  else
    k0 (())

/-- slices.IndexFunc[[]string,string] -/
def s77 (n : Nat) (s : List (List UInt8)) (f : (List UInt8) → Option Bool) : Option (Int) :=
  loopG (s77_l0 n) n (s, f, ((List.length s : Nat) : Int), (0 : Int), ())
    (fun (_) =>
      some ((-1 : Int)),
    fun (t4, _) =>
      some (t4), ())

def s77_t0 : Templ := ⟨19, [(.slice .str), (.fn1 .str .bool), (.int .i64), (.int .i64)], [(0, .v (.hole (.slice .str))), (1, .v (.hole (.fn1 .str .bool))), (7, .v (.hole (.int .i64))), (8, .v (.hole (.int .i64)))], [], []⟩
def s77_x0 : List (Way × Templ) := [(.exit 0, ⟨19, [], [], [], []⟩), (.ret, ⟨19, [(.int .i64)], [(4, .v (.hole (.int .i64)))], [], []⟩)]
def s77_o0 (n : Nat) : Ev (denL [(.int .i64)]) := loopO n (e12 n) s77_t0 s77_x0 (s77_l0 n)
theorem s77_b0 (n : Nat) (d) (again) (ks) : codeR (R := (denL [(.int .i64)])) (e12 n) (Hdl.no (R := (denL [(.int .i64)]))) (inn (lp (bd Go.Proofs.Tryd.f77) 0)) [] (mk s77_t0 d) (turnR (e12 n) s77_t0 s77_x0 again ks) = s77_l0 n d again ks := by kernel_rfl
theorem s77_s0 (n : Nat) : Sound Go.Proofs.Tryd.prog (Hdl.no (R := (denL [(.int .i64)]))) false (lp (bd Go.Proofs.Tryd.f77) 0) (s77_o0 n) := loop_ok (h12 n) hP (by kernel_rfl) (O := []) trivial (s77_b0 n)
def s77_c (n : Nat) : Con := ⟨[(.slice .str), (.fn1 .str .bool)], [], [(.int .i64)], fun x y => s77 n x.1 x.2, false⟩
theorem s77_eq (n : Nat) (x : denL [(.slice .str), (.fn1 .str .bool)]) (y : denL []) : funR (e12 n) Go.Proofs.Tryd.f77 [(.slice .str), (.fn1 .str .bool)] [] [(.int .i64)] false [s77_o0 n] x y = (s77_c n).fn x y := by kernel_rfl
theorem s77_ok (n : Nat) : ConOK Go.Proofs.Tryd.prog 77 (s77_c n) := func_ok (h12 n) hP Go.Proofs.Tryd.func77 (by kernel_rfl) (by kernel_rfl) (O := [s77_o0 n]) ⟨s77_s0 n, trivial⟩ (s77_eq n)
def e13 (n : Nat) : Env := ⟨gT, (77, s77_c n) :: (e12 n).C, gQ, (e12 n).I, (e12 n).M, (e12 n).S, (e12 n).D, [], (e12 n).O, []⟩
theorem h13 (n : Nat) : EnvOK Go.Proofs.Tryd.prog (e13 n) := env_add (h12 n) (s77_ok n)

/-- slices.ContainsFunc[[]string,string] -/
def s50 (n : Nat) (s : List (List UInt8)) (f : (List UInt8) → Option Bool) : Option (Bool) :=
  (s77 n s f).bind fun x =>
  some ((decide (x ≥ (0 : Int))))

def s50_c (n : Nat) : Con := ⟨[(.slice .str), (.fn1 .str .bool)], [], [.bool], fun x y => s50 n x.1 x.2, false⟩
theorem s50_eq (n : Nat) (x : denL [(.slice .str), (.fn1 .str .bool)]) (y : denL []) : funR (e13 n) Go.Proofs.Tryd.f50 [(.slice .str), (.fn1 .str .bool)] [] [.bool] false [] x y = (s50_c n).fn x y := by kernel_rfl
theorem s50_ok (n : Nat) : ConOK Go.Proofs.Tryd.prog 50 (s50_c n) := func_ok (h13 n) hP Go.Proofs.Tryd.func50 (by kernel_rfl) (by kernel_rfl) (O := []) trivial (s50_eq n)
def e14 (n : Nat) : Env := ⟨gT, (50, s50_c n) :: (e13 n).C, gQ, (e13 n).I, (e13 n).M, (e13 n).S, (e13 n).D, [], (e13 n).O, []⟩
theorem h14 (n : Nat) : EnvOK Go.Proofs.Tryd.prog (e14 n) := env_add (h13 n) (s50_ok n)

/-- criadera/taste.CheckBook$3 -/
def s51 (n : Nat) (s : List UInt8) : Option (Bool) :=
  (s52 n s).bind fun x =>
  some ((!x))

def s51_c (n : Nat) : Con := ⟨[.str], [], [.bool], fun x y => s51 n x, false⟩
theorem s51_eq (n : Nat) (x : denL [.str]) (y : denL []) : funR (e14 n) Go.Proofs.Tryd.f51 [.str] [] [.bool] false [] x y = (s51_c n).fn x y := by kernel_rfl
theorem s51_ok (n : Nat) : ConOK Go.Proofs.Tryd.prog 51 (s51_c n) := func_ok (h14 n) hP Go.Proofs.Tryd.func51 (by kernel_rfl) (by kernel_rfl) (O := []) trivial (s51_eq n)
def e15 (n : Nat) : Env := ⟨gT, (51, s51_c n) :: (e14 n).C, gQ, (e14 n).I, (e14 n).M, (e14 n).S, (e14 n).D, [], (e14 n).O, []⟩
theorem h15 (n : Nat) : EnvOK Go.Proofs.Tryd.prog (e15 n) := env_add (h14 n) (s51_ok n)

def s20_l0 (n : Nat) (d : Int × (List (List UInt8)) × Int × Int × (List (List UInt8)) × Int × (List ((List UInt8) × (List Int) × (List (List UInt8)))) × Int × Unit) (again : (Int × (List (List UInt8)) × Int × Int × (List (List UInt8)) × Int × (List ((List UInt8) × (List Int) × (List (List UInt8)))) × Int × Unit) → Option (Int × Int)) (ks : (Int × (List (List UInt8)) × Int × (List ((List UInt8) × (List Int) × (List (List UInt8)))) × Int × Unit → Option (Int × Int)) × (Int × Int × Unit → Option (Int × Int)) × Unit) : Option (Int × Int) :=
  match d, ks with
  | (marks, t43, t44, t45, b, b_1, b_2, classes, _), (k0, k1, _) =>
  bif (decide (t45 < t44)) then
    (geti t43 t45).bind fun e =>
    (cut b 0 t45).bind fun x =>
    (s46 n e x).bind fun x_1 =>
    bif (x_1 != (0 : Int)) then
      k1 ((0 : Int), x_1, ())
    else
      again (marks, t43, t44, (IntKind.wrap .i64 (t45 + (1 : Int))), b, b_1, b_2, classes, ())
  else
    k0 (marks, b, b_1, b_2, classes, ())

def s20_l1 (n : Nat) (d : Int × (Int → Option Bool) × (List ((List UInt8) × (List Int) × (List (List UInt8)))) × Int × Int × (List (List UInt8)) × Unit) (again : (Int × (Int → Option Bool) × (List ((List UInt8) × (List Int) × (List (List UInt8)))) × Int × Int × (List (List UInt8)) × Unit) → Option (Int × Int)) (ks : (Unit → Option (Int × Int)) × (Int × Int × Unit → Option (Int × Int)) × Unit) : Option (Int × Int) :=
  match d, ks with
  | (marks, isClass, t67, t68, t69, names, _), (k0, k1, _) =>
  bif (decide (t69 < t68)) then
    (geti t67 t69).bind fun e =>
    (s48 n e.2.1 (fun y0 => s49 n y0 isClass)).bind fun x =>
    (s50 n e.2.2 (fun x => s51 n x)).bind fun x_1 =>
    (s46 n e.1 names).bind fun x_2 =>
    (s38 n ((((List.length e.2.1 : Nat) : Int) == marks) && (((List.length e.2.2 : Nat) : Int) == marks)) (10 : Int)).bind fun x_3 =>
    (s38 n (!x) (6 : Int)).bind fun x_4 =>
    (s38 n (!x_1) (4 : Int)).bind fun x_5 =>
    (s37 n ([x_2, x_3, x_4, x_5] : List Int)).bind fun x_6 =>
    bif (x_6 != (0 : Int)) then
      k1 (t69, x_6, ())
    else
      (chk (List.length names + List.length ([e.1] : List (List UInt8)))).bind fun u =>
      again (marks, isClass, t67, t68, (IntKind.wrap .i64 (t69 + (1 : Int))), (names ++ ([e.1] : List (List UInt8))), ())
  else
    k0 (())

/-- criadera/taste.CheckBook -/
def s20 (n : Nat) (b : (List (List UInt8)) × Int × (List ((List UInt8) × (List Int) × (List (List UInt8))))) : Option (Int × Int) :=
  (s38 n ((decide (((List.length b.1 : Nat) : Int) > (0 : Int))) && (decide (((List.length b.2.2 : Nat) : Int) > (0 : Int)))) (10 : Int)).bind fun x =>
  (s38 n ((decide (((List.length b.1 : Nat) : Int) ≤ (6 : Int))) && (decide (((List.length b.2.2 : Nat) : Int) ≤ (8 : Int)))) (8 : Int)).bind fun x_1 =>
  (s37 n ([x, x_1] : List Int)).bind fun x_2 =>
  bif (x_2 != (0 : Int)) then
    some ((0 : Int), x_2)
  else
    loopG (s20_l0 n) n (((List.length b.1 : Nat) : Int), b.1, ((List.length b.1 : Nat) : Int), (0 : Int), b.1, b.2.1, b.2.2, ((List.length b.2.2 : Nat) : Int), ())
      (fun (marks_1, b_4, b_5, b_6, classes_1, _) =>
        ((fun y0 => s47 n y0 classes_1) b_5).bind fun x_5 =>
        bif (!x_5) then
          some ((0 : Int), (6 : Int))
        else
          loopG (s20_l1 n) n (marks_1, (fun y0 => s47 n y0 classes_1), b_6, ((List.length b_6 : Nat) : Int), (0 : Int), ([] : List (List UInt8)), ())
            (fun (_) =>
              some ((0 : Int), (0 : Int)),
            fun (t2, t3, _) =>
              some (t2, t3), ()),
      fun (t2_1, t3_1, _) =>
        some (t2_1, t3_1), ())

def s20_t0 : Templ := ⟨116, [(.int .i64), (.slice .str), (.int .i64), (.int .i64), (.slice .str), (.int .i64), (.slice (.pair .str (.pair (.slice (.int .i64)) (.slice .str)))), (.int .i64)], [(1, .v (.bptr 116 0)), (4, .v (.hole (.int .i64))), (5, .v (.bptr 117 0)), (43, .v (.hole (.slice .str))), (44, .v (.hole (.int .i64))), (45, .v (.hole (.int .i64)))], [(116, .box (.pair (.slice .str) (.pair (.int .i64) (.slice (.pair .str (.pair (.slice (.int .i64)) (.slice .str)))))) [.hole (.slice .str), .hole (.int .i64), .hole (.slice (.pair .str (.pair (.slice (.int .i64)) (.slice .str))))]), (117, .box (.int .i64) [.hole (.int .i64)])], []⟩
def s20_x0 : List (Way × Templ) := [(.exit 0, ⟨116, [(.int .i64), (.slice .str), (.int .i64), (.slice (.pair .str (.pair (.slice (.int .i64)) (.slice .str)))), (.int .i64)], [(1, .v (.bptr 116 0)), (4, .v (.hole (.int .i64))), (5, .v (.bptr 117 0))], [(116, .box (.pair (.slice .str) (.pair (.int .i64) (.slice (.pair .str (.pair (.slice (.int .i64)) (.slice .str)))))) [.hole (.slice .str), .hole (.int .i64), .hole (.slice (.pair .str (.pair (.slice (.int .i64)) (.slice .str))))]), (117, .box (.int .i64) [.hole (.int .i64)])], []⟩), (.ret, ⟨116, [(.int .i64), (.int .i64)], [(2, .v (.hole (.int .i64))), (3, .v (.hole (.int .i64)))], [], []⟩)]
def s20_o0 (n : Nat) : Ev (denL [(.int .i64), (.int .i64)]) := loopO n (e15 n) s20_t0 s20_x0 (s20_l0 n)
theorem s20_b0 (n : Nat) (d) (again) (ks) : codeR (R := (denL [(.int .i64), (.int .i64)])) (e15 n) (Hdl.no (R := (denL [(.int .i64), (.int .i64)]))) (inn (lp (bd Go.Proofs.Tryd.f20) 0)) [] (mk s20_t0 d) (turnR (e15 n) s20_t0 s20_x0 again ks) = s20_l0 n d again ks := by kernel_rfl
theorem s20_s0 (n : Nat) : Sound Go.Proofs.Tryd.prog (Hdl.no (R := (denL [(.int .i64), (.int .i64)]))) false (lp (bd Go.Proofs.Tryd.f20) 0) (s20_o0 n) := loop_ok (h15 n) hP (by kernel_rfl) (O := []) trivial (s20_b0 n)
def s20_t1 : Templ := ⟨116, [(.int .i64), (.fn1 (.int .i64) .bool), (.slice (.pair .str (.pair (.slice (.int .i64)) (.slice .str)))), (.int .i64), (.int .i64), (.slice .str)], [(4, .v (.hole (.int .i64))), (10, .v (.pp (.fn1 (.int .i64) .bool))), (11, .v (.hand 116)), (67, .v (.hole (.slice (.pair .str (.pair (.slice (.int .i64)) (.slice .str)))))), (68, .v (.hole (.int .i64))), (69, .v (.hole (.int .i64)))], [(116, .buf .str)], []⟩
def s20_x1 : List (Way × Templ) := [(.exit 2, ⟨116, [], [], [], []⟩), (.ret, ⟨116, [(.int .i64), (.int .i64)], [(2, .v (.hole (.int .i64))), (3, .v (.hole (.int .i64)))], [], []⟩)]
def s20_o1 (n : Nat) : Ev (denL [(.int .i64), (.int .i64)]) := loopO n (e15 n) s20_t1 s20_x1 (s20_l1 n)
theorem s20_b1 (n : Nat) (d) (again) (ks) : codeR (R := (denL [(.int .i64), (.int .i64)])) (e15 n) (Hdl.no (R := (denL [(.int .i64), (.int .i64)]))) (inn (lp (bd Go.Proofs.Tryd.f20) 1)) [] (mk s20_t1 d) (turnR (e15 n) s20_t1 s20_x1 again ks) = s20_l1 n d again ks := by kernel_rfl
theorem s20_s1 (n : Nat) : Sound Go.Proofs.Tryd.prog (Hdl.no (R := (denL [(.int .i64), (.int .i64)]))) false (lp (bd Go.Proofs.Tryd.f20) 1) (s20_o1 n) := loop_ok (h15 n) hP (by kernel_rfl) (O := []) trivial (s20_b1 n)
def s20_c (n : Nat) : Con := ⟨[(.pair (.slice .str) (.pair (.int .i64) (.slice (.pair .str (.pair (.slice (.int .i64)) (.slice .str))))))], [], [(.int .i64), (.int .i64)], fun x y => s20 n x, false⟩
theorem s20_eq (n : Nat) (x : denL [(.pair (.slice .str) (.pair (.int .i64) (.slice (.pair .str (.pair (.slice (.int .i64)) (.slice .str))))))]) (y : denL []) : funR (e15 n) Go.Proofs.Tryd.f20 [(.pair (.slice .str) (.pair (.int .i64) (.slice (.pair .str (.pair (.slice (.int .i64)) (.slice .str))))))] [] [(.int .i64), (.int .i64)] false [s20_o0 n, s20_o1 n] x y = (s20_c n).fn x y := by kernel_rfl
theorem s20_ok (n : Nat) : ConOK Go.Proofs.Tryd.prog 20 (s20_c n) := func_ok (h15 n) hP Go.Proofs.Tryd.func20 (by kernel_rfl) (by kernel_rfl) (O := [s20_o0 n, s20_o1 n]) ⟨s20_s0 n, s20_s1 n, trivial⟩ (s20_eq n)
def e16 (n : Nat) : Env := ⟨gT, (20, s20_c n) :: (e15 n).C, gQ, (e15 n).I, (e15 n).M, (e15 n).S, (e15 n).D, [], (e15 n).O, []⟩
theorem h16 (n : Nat) : EnvOK Go.Proofs.Tryd.prog (e16 n) := env_add (h15 n) (s20_ok n)

/-- criadera/taste.open -/
def s36 (n : Nat) (b : (List (List UInt8)) × Int × (List ((List UInt8) × (List Int) × (List (List UInt8))))) : Option (((List (List UInt8)) × Int × (List ((List UInt8) × (List Int) × (List (List UInt8))))) × Int) :=
  (s20 n (b.1, (b.2.1, b.2.2))).bind fun x =>
  some ((b.1, (b.2.1, b.2.2)), x.2)

def s36_c (n : Nat) : Con := ⟨[(.pair (.slice .str) (.pair (.int .i64) (.slice (.pair .str (.pair (.slice (.int .i64)) (.slice .str))))))], [], [(.pair (.slice .str) (.pair (.int .i64) (.slice (.pair .str (.pair (.slice (.int .i64)) (.slice .str)))))), (.int .i64)], fun x y => s36 n x, false⟩
theorem s36_eq (n : Nat) (x : denL [(.pair (.slice .str) (.pair (.int .i64) (.slice (.pair .str (.pair (.slice (.int .i64)) (.slice .str))))))]) (y : denL []) : funR (e16 n) Go.Proofs.Tryd.f36 [(.pair (.slice .str) (.pair (.int .i64) (.slice (.pair .str (.pair (.slice (.int .i64)) (.slice .str))))))] [] [(.pair (.slice .str) (.pair (.int .i64) (.slice (.pair .str (.pair (.slice (.int .i64)) (.slice .str)))))), (.int .i64)] false [] x y = (s36_c n).fn x y := by kernel_rfl
theorem s36_ok (n : Nat) : ConOK Go.Proofs.Tryd.prog 36 (s36_c n) := func_ok (h16 n) hP Go.Proofs.Tryd.func36 (by kernel_rfl) (by kernel_rfl) (O := []) trivial (s36_eq n)
def e17 (n : Nat) : Env := ⟨gT, (36, s36_c n) :: (e16 n).C, gQ, (e16 n).I, (e16 n).M, (e16 n).S, (e16 n).D, [], (e16 n).O, []⟩
theorem h17 (n : Nat) : EnvOK Go.Proofs.Tryd.prog (e17 n) := env_add (h16 n) (s36_ok n)

/-- (criadera/taste.book).marksErr$1 -/
def s85 (n : Nat) (v_n : Int) (c0 : (List (List UInt8)) × Int × (List ((List UInt8) × (List Int) × (List (List UInt8))))) : Option (Bool) :=
  (s39 n v_n (0 : Int) (IntKind.wrap .i64 (((List.length c0.1 : Nat) : Int) - (1 : Int)))).bind fun x =>
  some ((!x))

def s85_c (n : Nat) : Con := ⟨[(.int .i64)], [(.pair (.slice .str) (.pair (.int .i64) (.slice (.pair .str (.pair (.slice (.int .i64)) (.slice .str))))))], [.bool], fun x y => s85 n x y, false⟩
theorem s85_eq (n : Nat) (x : denL [(.int .i64)]) (y : denL [(.pair (.slice .str) (.pair (.int .i64) (.slice (.pair .str (.pair (.slice (.int .i64)) (.slice .str))))))]) : funR (e17 n) Go.Proofs.Tryd.f85 [(.int .i64)] [(.pair (.slice .str) (.pair (.int .i64) (.slice (.pair .str (.pair (.slice (.int .i64)) (.slice .str))))))] [.bool] false [] x y = (s85_c n).fn x y := by kernel_rfl
theorem s85_ok (n : Nat) : ConOK Go.Proofs.Tryd.prog 85 (s85_c n) := func_ok (h17 n) hP Go.Proofs.Tryd.func85 (by kernel_rfl) (by kernel_rfl) (O := []) trivial (s85_eq n)
def e18 (n : Nat) : Env := ⟨gT, (85, s85_c n) :: (e17 n).C, gQ, (e17 n).I, (e17 n).M, (e17 n).S, (e17 n).D, [], (e17 n).O, []⟩
theorem h18 (n : Nat) : EnvOK Go.Proofs.Tryd.prog (e18 n) := env_add (h17 n) (s85_ok n)

/-- (criadera/taste.book).marksErr -/
def s66 (n : Nat) (b : (List (List UInt8)) × Int × (List ((List UInt8) × (List Int) × (List (List UInt8))))) (l : List Int) : Option (Int) :=
  (s48 n l (fun y0 => s85 n y0 (b.1, (b.2.1, b.2.2)))).bind fun x =>
  (s38 n (decide (((List.length l : Nat) : Int) ≤ (40 : Int))) (8 : Int)).bind fun x_1 =>
  (s38 n (!x) (6 : Int)).bind fun x_2 =>
  (s37 n ([x_1, x_2] : List Int)).bind fun x_3 =>
  some (x_3)

def s66_c (n : Nat) : Con := ⟨[(.pair (.slice .str) (.pair (.int .i64) (.slice (.pair .str (.pair (.slice (.int .i64)) (.slice .str)))))), (.slice (.int .i64))], [], [(.int .i64)], fun x y => s66 n x.1 x.2, false⟩
theorem s66_eq (n : Nat) (x : denL [(.pair (.slice .str) (.pair (.int .i64) (.slice (.pair .str (.pair (.slice (.int .i64)) (.slice .str)))))), (.slice (.int .i64))]) (y : denL []) : funR (e18 n) Go.Proofs.Tryd.f66 [(.pair (.slice .str) (.pair (.int .i64) (.slice (.pair .str (.pair (.slice (.int .i64)) (.slice .str)))))), (.slice (.int .i64))] [] [(.int .i64)] false [] x y = (s66_c n).fn x y := by kernel_rfl
theorem s66_ok (n : Nat) : ConOK Go.Proofs.Tryd.prog 66 (s66_c n) := func_ok (h18 n) hP Go.Proofs.Tryd.func66 (by kernel_rfl) (by kernel_rfl) (O := []) trivial (s66_eq n)
def e19 (n : Nat) : Env := ⟨gT, (66, s66_c n) :: (e18 n).C, gQ, (e18 n).I, (e18 n).M, (e18 n).S, (e18 n).D, [], (e18 n).O, []⟩
theorem h19 (n : Nat) : EnvOK Go.Proofs.Tryd.prog (e19 n) := env_add (h18 n) (s66_ok n)

/-- criadera/taste.openSheet -/
def s34 (n : Nat) (b : (List (List UInt8)) × Int × (List ((List UInt8) × (List Int) × (List (List UInt8))))) (s : (List UInt8) × (List Int)) : Option (((List (List UInt8)) × Int × (List ((List UInt8) × (List Int) × (List (List UInt8))))) × Int) :=
  (s36 n (b.1, (b.2.1, b.2.2))).bind fun x =>
  bif (x.2 != (0 : Int)) then
    some ((x.1.1, (x.1.2.1, x.1.2.2)), x.2)
  else
    (s52 n s.1).bind fun x_1 =>
    (s38 n x_1 (4 : Int)).bind fun x_2 =>
    (s66 n (x.1.1, (x.1.2.1, x.1.2.2)) s.2).bind fun x_3 =>
    (s37 n ([x_2, x_3] : List Int)).bind fun x_4 =>
    some ((x.1.1, (x.1.2.1, x.1.2.2)), x_4)

def s34_c (n : Nat) : Con := ⟨[(.pair (.slice .str) (.pair (.int .i64) (.slice (.pair .str (.pair (.slice (.int .i64)) (.slice .str)))))), (.pair .str (.slice (.int .i64)))], [], [(.pair (.slice .str) (.pair (.int .i64) (.slice (.pair .str (.pair (.slice (.int .i64)) (.slice .str)))))), (.int .i64)], fun x y => s34 n x.1 x.2, false⟩
theorem s34_eq (n : Nat) (x : denL [(.pair (.slice .str) (.pair (.int .i64) (.slice (.pair .str (.pair (.slice (.int .i64)) (.slice .str)))))), (.pair .str (.slice (.int .i64)))]) (y : denL []) : funR (e19 n) Go.Proofs.Tryd.f34 [(.pair (.slice .str) (.pair (.int .i64) (.slice (.pair .str (.pair (.slice (.int .i64)) (.slice .str)))))), (.pair .str (.slice (.int .i64)))] [] [(.pair (.slice .str) (.pair (.int .i64) (.slice (.pair .str (.pair (.slice (.int .i64)) (.slice .str)))))), (.int .i64)] false [] x y = (s34_c n).fn x y := by kernel_rfl
theorem s34_ok (n : Nat) : ConOK Go.Proofs.Tryd.prog 34 (s34_c n) := func_ok (h19 n) hP Go.Proofs.Tryd.func34 (by kernel_rfl) (by kernel_rfl) (O := []) trivial (s34_eq n)
def e20 (n : Nat) : Env := ⟨gT, (34, s34_c n) :: (e19 n).C, gQ, (e19 n).I, (e19 n).M, (e19 n).S, (e19 n).D, [], (e19 n).O, []⟩
theorem h20 (n : Nat) : EnvOK Go.Proofs.Tryd.prog (e20 n) := env_add (h19 n) (s34_ok n)

def s35_l0 (n : Nat) (d : (List Int) × Int × Int × (List (List UInt8)) × Int × (List ((List UInt8) × (List Int) × (List (List UInt8)))) × (List Int) × Unit) (again : ((List Int) × Int × Int × (List (List UInt8)) × Int × (List ((List UInt8) × (List Int) × (List (List UInt8)))) × (List Int) × Unit) → Option ((List Int))) (ks : ((List Int) × Unit → Option ((List Int))) × Unit) : Option ((List Int)) :=
  match d, ks with
  | (t12, t13, t14, b, b_1, b_2, out, _), (k0, _) =>
  bif (decide (t14 < t13)) then
    (geti t12 t14).bind fun e =>
    (geti out (IntKind.wrap .i64 (((List.length out : Nat) : Int) - (1 : Int)))).bind fun e_1 =>
    (geti out (IntKind.wrap .i64 (((List.length out : Nat) : Int) - (1 : Int)))).bind fun x =>
    (geti b_2 x).bind fun e_2 =>
    (geti e_2.2.1 e).bind fun e_3 =>
    (chk (List.length out + List.length ([e_3] : List Int))).bind fun u =>
    again (t12, t13, (IntKind.wrap .i64 (t14 + (1 : Int))), b, b_1, b_2, (out ++ ([e_3] : List Int)), ())
  else
    k0 (out, ())

/-- (criadera/taste.book).walk -/
def s35 (n : Nat) (b : (List (List UInt8)) × Int × (List ((List UInt8) × (List Int) × (List (List UInt8))))) (marks : List Int) : Option ((List Int)) :=
  loopG (s35_l0 n) n (marks, ((List.length marks : Nat) : Int), (0 : Int), b.1, b.2.1, b.2.2, ([b.2.1] : List Int), ())
    (fun (out_1, _) =>
      some (out_1), ())

def s35_t0 : Templ := ⟨38, [(.slice (.int .i64)), (.int .i64), (.int .i64), (.slice .str), (.int .i64), (.slice (.pair .str (.pair (.slice (.int .i64)) (.slice .str)))), (.slice (.int .i64))], [(2, .v (.bptr 38 0)), (5, .v (.hand 39)), (12, .v (.hole (.slice (.int .i64)))), (13, .v (.hole (.int .i64))), (14, .v (.hole (.int .i64)))], [(38, .box (.pair (.slice .str) (.pair (.int .i64) (.slice (.pair .str (.pair (.slice (.int .i64)) (.slice .str)))))) [.hole (.slice .str), .hole (.int .i64), .hole (.slice (.pair .str (.pair (.slice (.int .i64)) (.slice .str))))]), (39, .buf (.int .i64))], []⟩
def s35_x0 : List (Way × Templ) := [(.exit 0, ⟨38, [(.slice (.int .i64))], [(5, .v (.hand 38))], [(38, .buf (.int .i64))], []⟩)]
def s35_o0 (n : Nat) : Ev (denL [(.slice (.int .i64))]) := loopO n (e20 n) s35_t0 s35_x0 (s35_l0 n)
theorem s35_b0 (n : Nat) (d) (again) (ks) : codeR (R := (denL [(.slice (.int .i64))])) (e20 n) (Hdl.no (R := (denL [(.slice (.int .i64))]))) (inn (lp (bd Go.Proofs.Tryd.f35) 0)) [] (mk s35_t0 d) (turnR (e20 n) s35_t0 s35_x0 again ks) = s35_l0 n d again ks := by kernel_rfl
theorem s35_s0 (n : Nat) : Sound Go.Proofs.Tryd.prog (Hdl.no (R := (denL [(.slice (.int .i64))]))) false (lp (bd Go.Proofs.Tryd.f35) 0) (s35_o0 n) := loop_ok (h20 n) hP (by kernel_rfl) (O := []) trivial (s35_b0 n)
def s35_c (n : Nat) : Con := ⟨[(.pair (.slice .str) (.pair (.int .i64) (.slice (.pair .str (.pair (.slice (.int .i64)) (.slice .str)))))), (.slice (.int .i64))], [], [(.slice (.int .i64))], fun x y => s35 n x.1 x.2, false⟩
theorem s35_eq (n : Nat) (x : denL [(.pair (.slice .str) (.pair (.int .i64) (.slice (.pair .str (.pair (.slice (.int .i64)) (.slice .str)))))), (.slice (.int .i64))]) (y : denL []) : funR (e20 n) Go.Proofs.Tryd.f35 [(.pair (.slice .str) (.pair (.int .i64) (.slice (.pair .str (.pair (.slice (.int .i64)) (.slice .str)))))), (.slice (.int .i64))] [] [(.slice (.int .i64))] false [s35_o0 n] x y = (s35_c n).fn x y := by kernel_rfl
theorem s35_ok (n : Nat) : ConOK Go.Proofs.Tryd.prog 35 (s35_c n) := func_ok (h20 n) hP Go.Proofs.Tryd.func35 (by kernel_rfl) (by kernel_rfl) (O := [s35_o0 n]) ⟨s35_s0 n, trivial⟩ (s35_eq n)
def e21 (n : Nat) : Env := ⟨gT, (35, s35_c n) :: (e20 n).C, gQ, (e20 n).I, (e20 n).M, (e20 n).S, (e20 n).D, [], (e20 n).O, []⟩
theorem h21 (n : Nat) : EnvOK Go.Proofs.Tryd.prog (e21 n) := env_add (h20 n) (s35_ok n)

/-- criadera/taste.ClassOf -/
def s13 (n : Nat) (b : (List (List UInt8)) × Int × (List ((List UInt8) × (List Int) × (List (List UInt8))))) (s : (List UInt8) × (List Int)) : Option ((List UInt8) × Int) :=
  (s34 n (b.1, (b.2.1, b.2.2)) (s.1, s.2)).bind fun x =>
  bif (x.2 != (0 : Int)) then
    some ([], x.2)
  else
    (s35 n (x.1.1, (x.1.2.1, x.1.2.2)) s.2).bind fun x_1 =>
    (geti x_1 (IntKind.wrap .i64 (((List.length x_1 : Nat) : Int) - (1 : Int)))).bind fun e =>
    (geti x.1.2.2 e).bind fun e_1 =>
    some (e_1.1, (0 : Int))

def s13_c (n : Nat) : Con := ⟨[(.pair (.slice .str) (.pair (.int .i64) (.slice (.pair .str (.pair (.slice (.int .i64)) (.slice .str)))))), (.pair .str (.slice (.int .i64)))], [], [.str, (.int .i64)], fun x y => s13 n x.1 x.2, false⟩
theorem s13_eq (n : Nat) (x : denL [(.pair (.slice .str) (.pair (.int .i64) (.slice (.pair .str (.pair (.slice (.int .i64)) (.slice .str)))))), (.pair .str (.slice (.int .i64)))]) (y : denL []) : funR (e21 n) Go.Proofs.Tryd.f13 [(.pair (.slice .str) (.pair (.int .i64) (.slice (.pair .str (.pair (.slice (.int .i64)) (.slice .str)))))), (.pair .str (.slice (.int .i64)))] [] [.str, (.int .i64)] false [] x y = (s13_c n).fn x y := by kernel_rfl
theorem s13_ok (n : Nat) : ConOK Go.Proofs.Tryd.prog 13 (s13_c n) := func_ok (h21 n) hP Go.Proofs.Tryd.func13 (by kernel_rfl) (by kernel_rfl) (O := []) trivial (s13_eq n)
def e22 (n : Nat) : Env := ⟨gT, (13, s13_c n) :: (e21 n).C, gQ, (e21 n).I, (e21 n).M, (e21 n).S, (e21 n).D, [], (e21 n).O, []⟩
theorem h22 (n : Nat) : EnvOK Go.Proofs.Tryd.prog (e22 n) := env_add (h21 n) (s13_ok n)

/-- (criadera/taste.book).next -/
def s68 (n : Nat) (b : (List (List UInt8)) × Int × (List ((List UInt8) × (List Int) × (List (List UInt8))))) (v_class : Int) (mark : Int) : Option (Int) :=
  (geti b.2.2 v_class).bind fun e =>
  (geti e.2.1 mark).bind fun e_1 =>
  some (e_1)

def s68_c (n : Nat) : Con := ⟨[(.pair (.slice .str) (.pair (.int .i64) (.slice (.pair .str (.pair (.slice (.int .i64)) (.slice .str)))))), (.int .i64), (.int .i64)], [], [(.int .i64)], fun x y => s68 n x.1 x.2.1 x.2.2, false⟩
theorem s68_eq (n : Nat) (x : denL [(.pair (.slice .str) (.pair (.int .i64) (.slice (.pair .str (.pair (.slice (.int .i64)) (.slice .str)))))), (.int .i64), (.int .i64)]) (y : denL []) : funR (e22 n) Go.Proofs.Tryd.f68 [(.pair (.slice .str) (.pair (.int .i64) (.slice (.pair .str (.pair (.slice (.int .i64)) (.slice .str)))))), (.int .i64), (.int .i64)] [] [(.int .i64)] false [] x y = (s68_c n).fn x y := by kernel_rfl
theorem s68_ok (n : Nat) : ConOK Go.Proofs.Tryd.prog 68 (s68_c n) := func_ok (h22 n) hP Go.Proofs.Tryd.func68 (by kernel_rfl) (by kernel_rfl) (O := []) trivial (s68_eq n)
def e23 (n : Nat) : Env := ⟨gT, (68, s68_c n) :: (e22 n).C, gQ, (e22 n).I, (e22 n).M, (e22 n).S, (e22 n).D, [], (e22 n).O, []⟩
theorem h23 (n : Nat) : EnvOK Go.Proofs.Tryd.prog (e23 n) := env_add (h22 n) (s68_ok n)

def e24 (n : Nat) : Env := ⟨gT, (87, s87_c n) :: (e23 n).C, gQ, (e23 n).I, (e23 n).M, (e23 n).S, (e23 n).D, [], (e23 n).O, []⟩
theorem h24 (n : Nat) : EnvOK Go.Proofs.Tryd.prog (e24 n) := env_add (h23 n) (s87_ok n)

def s86_l0_0 (n : Nat) (d : Int × (Int → Int → Option Int) × Int × Int × (List (Int × Bool)) × (List (Int × (List Int))) × Int × (List Int) × Unit) (again : (Int × (Int → Int → Option Int) × Int × Int × (List (Int × Bool)) × (List (Int × (List Int))) × Int × (List Int) × Unit) → Option (List ((Int × (List Int))))) (ks : (Int × (Int → Int → Option Int) × (List (Int × Bool)) × (List (Int × (List Int))) × Unit → Option (List ((Int × (List Int))))) × Unit) : Option (List ((Int × (List Int)))) :=
  match d, ks with
  | (t2, t3, t28, t29, seen, queue, t7, t7_1, _), (k0, _) =>
  bif (decide (t29 < t28)) then
    (t3 t7 t29).bind fun x =>
    bif (!(Option.getD (mget seen x) false)) then
      (s87 n t7_1).bind fun x_1 =>
      (chk (List.length x_1 + List.length ([t29] : List Int))).bind fun u =>
      (chk (List.length queue + List.length ([(x, (x_1 ++ ([t29] : List Int)))] : List (Int × (List Int))))).bind fun u_1 =>
      again (t2, t3, t28, (IntKind.wrap .i64 (t29 + (1 : Int))), (mput seen x true), (queue ++ ([(x, (x_1 ++ ([t29] : List Int)))] : List (Int × (List Int)))), t7, t7_1, ())
    else
      again (t2, t3, t28, (IntKind.wrap .i64 (t29 + (1 : Int))), seen, queue, t7, t7_1, ())
  else
    k0 (t2, t3, seen, queue, ())

def s86_l0 (n : Nat) (d : Int × (Int → Int → Option Int) × (List (Int × Bool)) × (List (Int × (List Int))) × Unit) (again : (Int × (Int → Int → Option Int) × (List (Int × Bool)) × (List (Int × (List Int))) × Unit) → Option (List ((Int × (List Int))))) (ks : (Unit → Option (List ((Int × (List Int))))) × (Unit → Option (List ((Int × (List Int))))) × Unit) : Option (List ((Int × (List Int)))) :=
  match d, ks with
  | (t2, t3, seen, queue, _), (k0, k1, _) =>
  bif (decide (((List.length queue : Nat) : Int) > (0 : Int))) then
    (geti queue (0 : Int)).bind fun e =>
    (geti queue (0 : Int)).bind fun x =>
    (cut queue (1 : Int) ((List.length queue : Nat) : Int)).bind fun x_1 =>
    emitL (α := (Int × (List Int))) (x.1, x.2) (
        loopG (s86_l0_0 n) n (t2, t3, t2, (0 : Int), seen, x_1, x.1, x.2, ())
          (fun (t2_2, t3_2, seen_2, queue_2, _) =>
            again (t2_2, t3_2, seen_2, queue_2, ()), ())
      ) (
        k1 (())
      )
  else
    k0 (())

/-- criadera/taste.search[int]$1 -/
def s86 (n : Nat) (c0 : Int) (c1 : Int) (c2 : Int → Int → Option Int) : Option (List ((Int × (List Int)))) :=
  loopG (s86_l0 n) n (c1, c2, (mput ([] : List (Int × Bool)) c0 true), ([(c0, ([] : List Int))] : List (Int × (List Int))), ())
    (fun (_) =>
      some [],
    fun (_) =>
      some [], ())

def s86_t0_0 : Templ := ⟨55, [(.int .i64), (.fn2 (.int .i64) (.int .i64) (.int .i64)), (.int .i64), (.int .i64), (.map (.int .i64) .bool), (.slice (.pair (.int .i64) (.slice (.int .i64)))), (.int .i64), (.slice (.int .i64))], [(0, .v (.yld)), (2, .v (.pp (.int .i64))), (3, .v (.pp (.fn2 (.int .i64) (.int .i64) (.int .i64)))), (5, .v (.hand 55)), (6, .v (.hand 56)), (7, .v (.bptr 57 0)), (28, .v (.hole (.int .i64))), (29, .v (.hole (.int .i64)))], [(55, .map (.int .i64) .bool), (56, .buf (.pair (.int .i64) (.slice (.int .i64)))), (57, .box (.pair (.int .i64) (.slice (.int .i64))) [.hole (.int .i64), .hole (.slice (.int .i64))])], []⟩
def s86_x0_0 : List (Way × Templ) := [(.exit 2, ⟨55, [(.int .i64), (.fn2 (.int .i64) (.int .i64) (.int .i64)), (.map (.int .i64) .bool), (.slice (.pair (.int .i64) (.slice (.int .i64))))], [(0, .v (.yld)), (2, .v (.pp (.int .i64))), (3, .v (.pp (.fn2 (.int .i64) (.int .i64) (.int .i64)))), (5, .v (.hand 55)), (6, .v (.hand 56))], [(55, .map (.int .i64) .bool), (56, .buf (.pair (.int .i64) (.slice (.int .i64))))], []⟩)]
def s86_o0_0 (n : Nat) : Ev (List (denL [(.pair (.int .i64) (.slice (.int .i64)))])) := loopO n (e24 n) s86_t0_0 s86_x0_0 (s86_l0_0 n)
theorem s86_b0_0 (n : Nat) (d) (again) (ks) : codeR (R := (List (denL [(.pair (.int .i64) (.slice (.int .i64)))]))) (e24 n) (hdlL [(.pair (.int .i64) (.slice (.int .i64)))]) (inn (lp (inn (lp (bd Go.Proofs.Tryd.f86) 0)) 0)) [] (mk s86_t0_0 d) (turnR (e24 n) s86_t0_0 s86_x0_0 again ks) = s86_l0_0 n d again ks := by kernel_rfl
theorem s86_s0_0 (n : Nat) : Sound Go.Proofs.Tryd.prog (hdlL [(.pair (.int .i64) (.slice (.int .i64)))]) false (lp (inn (lp (bd Go.Proofs.Tryd.f86) 0)) 0) (s86_o0_0 n) := loop_ok (h24 n) hP (by kernel_rfl) (O := []) trivial (s86_b0_0 n)
def s86_t0 : Templ := ⟨55, [(.int .i64), (.fn2 (.int .i64) (.int .i64) (.int .i64)), (.map (.int .i64) .bool), (.slice (.pair (.int .i64) (.slice (.int .i64))))], [(0, .v (.yld)), (2, .v (.pp (.int .i64))), (3, .v (.pp (.fn2 (.int .i64) (.int .i64) (.int .i64)))), (5, .v (.hand 55)), (6, .v (.hand 56))], [(55, .map (.int .i64) .bool), (56, .buf (.pair (.int .i64) (.slice (.int .i64))))], []⟩
def s86_x0 : List (Way × Templ) := [(.exit 0, ⟨55, [], [], [], []⟩), (.ret, ⟨55, [], [], [], []⟩)]
def s86_o0 (n : Nat) : Ev (List (denL [(.pair (.int .i64) (.slice (.int .i64)))])) := loopO n (e24 n) s86_t0 s86_x0 (s86_l0 n)
theorem s86_b0 (n : Nat) (d) (again) (ks) : codeR (R := (List (denL [(.pair (.int .i64) (.slice (.int .i64)))]))) (e24 n) (hdlL [(.pair (.int .i64) (.slice (.int .i64)))]) (inn (lp (bd Go.Proofs.Tryd.f86) 0)) [s86_o0_0 n] (mk s86_t0 d) (turnR (e24 n) s86_t0 s86_x0 again ks) = s86_l0 n d again ks := by kernel_rfl
theorem s86_s0 (n : Nat) : Sound Go.Proofs.Tryd.prog (hdlL [(.pair (.int .i64) (.slice (.int .i64)))]) false (lp (bd Go.Proofs.Tryd.f86) 0) (s86_o0 n) := loop_ok (h24 n) hP (by kernel_rfl) (O := [s86_o0_0 n]) ⟨s86_s0_0 n, trivial⟩ (s86_b0 n)
def s86_i (n : Nat) : ICon := ⟨[(.int .i64), (.int .i64), (.fn2 (.int .i64) (.int .i64) (.int .i64))], (.seq (.pair (.int .i64) (.slice (.int .i64)))), fun y => s86 n y.1 y.2.1 y.2.2⟩
theorem s86_eq (n : Nat) (y : denL [(.int .i64), (.int .i64), (.fn2 (.int .i64) (.int .i64) (.int .i64))]) : iterR (e24 n) Go.Proofs.Tryd.f86 [(.pair (.int .i64) (.slice (.int .i64)))] [(.int .i64), (.int .i64), (.fn2 (.int .i64) (.int .i64) (.int .i64))] [s86_o0 n] y = (s86_i n).fn y := by kernel_rfl
theorem s86_ok (n : Nat) : IConOK Go.Proofs.Tryd.prog 86 (s86_i n) := itf1_ok (h24 n) hP Go.Proofs.Tryd.func86 (by kernel_rfl) (by kernel_rfl) (O := [s86_o0 n]) ⟨s86_s0 n, trivial⟩ (s86_eq n)
def e25 (n : Nat) : Env := ⟨gT, (e24 n).C, gQ, (86, s86_i n) :: (e24 n).I, (e24 n).M, (e24 n).S, (e24 n).D, [], (e24 n).O, []⟩
theorem h25 (n : Nat) : EnvOK Go.Proofs.Tryd.prog (e25 n) := env_it (h24 n) (s86_ok n)

/-- criadera/taste.search[int] -/
def s67 (n : Nat) (v_begin : Int) (marks : Int) (next : Int → Int → Option Int) : Option ((List (Int × (List Int)))) :=
  (s86 n v_begin marks next).bind fun x =>
  some (x)

def s67_c (n : Nat) : Con := ⟨[(.int .i64), (.int .i64), (.fn2 (.int .i64) (.int .i64) (.int .i64))], [], [(.seq (.pair (.int .i64) (.slice (.int .i64))))], fun x y => s67 n x.1 x.2.1 x.2.2, false⟩
theorem s67_eq (n : Nat) (x : denL [(.int .i64), (.int .i64), (.fn2 (.int .i64) (.int .i64) (.int .i64))]) (y : denL []) : funR (e25 n) Go.Proofs.Tryd.f67 [(.int .i64), (.int .i64), (.fn2 (.int .i64) (.int .i64) (.int .i64))] [] [(.seq (.pair (.int .i64) (.slice (.int .i64))))] false [] x y = (s67_c n).fn x y := by kernel_rfl
theorem s67_ok (n : Nat) : ConOK Go.Proofs.Tryd.prog 67 (s67_c n) := func_ok (h25 n) hP Go.Proofs.Tryd.func67 (by kernel_rfl) (by kernel_rfl) (O := []) trivial (s67_eq n)
def e26 (n : Nat) : Env := ⟨gT, (67, s67_c n) :: (e25 n).C, gQ, (e25 n).I, (e25 n).M, (e25 n).S, (e25 n).D, [], (e25 n).O, []⟩
theorem h26 (n : Nat) : EnvOK Go.Proofs.Tryd.prog (e26 n) := env_add (h25 n) (s67_ok n)

/-- (criadera/taste.book).from -/
def s40 (n : Nat) (b : (List (List UInt8)) × Int × (List ((List UInt8) × (List Int) × (List (List UInt8))))) (v_class : Int) : Option ((List (Int × (List Int)))) :=
  (s67 n v_class ((List.length b.1 : Nat) : Int) (fun y0 y1 => s68 n (b.1, (b.2.1, b.2.2)) y0 y1)).bind fun x =>
  some (x)

def s40_c (n : Nat) : Con := ⟨[(.pair (.slice .str) (.pair (.int .i64) (.slice (.pair .str (.pair (.slice (.int .i64)) (.slice .str)))))), (.int .i64)], [], [(.seq (.pair (.int .i64) (.slice (.int .i64))))], fun x y => s40 n x.1 x.2, false⟩
theorem s40_eq (n : Nat) (x : denL [(.pair (.slice .str) (.pair (.int .i64) (.slice (.pair .str (.pair (.slice (.int .i64)) (.slice .str)))))), (.int .i64)]) (y : denL []) : funR (e26 n) Go.Proofs.Tryd.f40 [(.pair (.slice .str) (.pair (.int .i64) (.slice (.pair .str (.pair (.slice (.int .i64)) (.slice .str)))))), (.int .i64)] [] [(.seq (.pair (.int .i64) (.slice (.int .i64))))] false [] x y = (s40_c n).fn x y := by kernel_rfl
theorem s40_ok (n : Nat) : ConOK Go.Proofs.Tryd.prog 40 (s40_c n) := func_ok (h26 n) hP Go.Proofs.Tryd.func40 (by kernel_rfl) (by kernel_rfl) (O := []) trivial (s40_eq n)
def e27 (n : Nat) : Env := ⟨gT, (40, s40_c n) :: (e26 n).C, gQ, (e26 n).I, (e26 n).M, (e26 n).S, (e26 n).D, [], (e26 n).O, []⟩
theorem h27 (n : Nat) : EnvOK Go.Proofs.Tryd.prog (e27 n) := env_add (h26 n) (s40_ok n)

def s15_l0 (n : Nat) (d : (List (Int × (List Int))) × Int × Int × Unit) (y : Int × (List Int)) (again : ((List (Int × (List Int))) × Int × Int × Unit) → Option ((List Int) × Int)) (ks : ((List Int) × Int × Unit → Option ((List Int) × Int)) × Unit) : Option ((List Int) × Int) :=
  match d, ks with
  | (t30, v_class, t5, _), (k0, _) =>
  bif (y.1 == v_class) then
    k0 (y.2, (0 : Int), ())
  else
    again (t30, v_class, t5, ())

/-- criadera/taste.SheetTo -/
def s15 (n : Nat) (b : (List (List UInt8)) × Int × (List ((List UInt8) × (List Int) × (List (List UInt8))))) (v_class : Int) : Option ((List Int) × Int) :=
  (s36 n (b.1, (b.2.1, b.2.2))).bind fun x =>
  (s39 n v_class (0 : Int) (IntKind.wrap .i64 (((List.length b.2.2 : Nat) : Int) - (1 : Int)))).bind fun x_1 =>
  (s38 n x_1 (6 : Int)).bind fun x_2 =>
  (s37 n ([x.2, x_2] : List Int)).bind fun x_3 =>
  bif (x_3 != (0 : Int)) then
    some (([] : List Int), x_3)
  else
    (s40 n (x.1.1, (x.1.2.1, x.1.2.2)) b.2.1).bind fun x_4 =>
    rangeG (s15_l0 n) (fun (t4, t5_2, _) =>
        some (t4, t5_2), ()) (fun (t30_1, v_class_2, t5_1, _) =>
        some (([] : List Int), (12 : Int))) x_4 (x_4, v_class, (0 : Int), ())

def s15_t0 : Templ := ⟨38, [(.seq (.pair (.int .i64) (.slice (.int .i64)))), (.int .i64), (.int .i64)], [(3, .v (.bptr 38 0)), (4, .v (.bptr 39 0)), (5, .v (.bptr 40 0)), (30, .v (.hole (.seq (.pair (.int .i64) (.slice (.int .i64))))))], [(38, .box (.int .i64) [.hole (.int .i64)]), (39, .box (.slice (.int .i64)) [.nils]), (40, .box (.int .i64) [.hole (.int .i64)])], []⟩
def s15_x0 : List (Way × Templ) := [(.ret, ⟨38, [(.slice (.int .i64)), (.int .i64)], [(4, .v (.bptr 38 0)), (5, .v (.bptr 39 0))], [(38, .box (.slice (.int .i64)) [.hole (.slice (.int .i64))]), (39, .box (.int .i64) [.hole (.int .i64)])], []⟩)]
theorem s15_b0 (n : Nat) (d) (x) (again) (ks) : codeR (R := (denL [(.slice (.int .i64)), (.int .i64)])) (e27 n) (Hdl.no (R := (denL [(.slice (.int .i64)), (.int .i64)]))) (rgA (lp (bd Go.Proofs.Tryd.f15) 0)) [] (mkB s15_t0 [3, 4, 5, 30] 31 (.pair (.int .i64) (.slice (.int .i64))) d x) (thenB fun st => codeR (R := (denL [(.slice (.int .i64)), (.int .i64)])) (e27 n) (Hdl.no (R := (denL [(.slice (.int .i64)), (.int .i64)]))) (rgB (lp (bd Go.Proofs.Tryd.f15) 0)) [] st (turnB (e27 n) s15_t0 [3, 4, 5, 30] s15_x0 again ks)) = s15_l0 n d x again ks := by kernel_rfl
theorem s15_s0 (n : Nat) : Sound Go.Proofs.Tryd.prog (Hdl.no (R := (denL [(.slice (.int .i64)), (.int .i64)]))) false (lp (bd Go.Proofs.Tryd.f15) 0) ((fun n => rangeO (R := (denL [(.slice (.int .i64)), (.int .i64)])) (e27 n) (.pair (.int .i64) (.slice (.int .i64))) (rgG (lp (bd Go.Proofs.Tryd.f15) 0)) s15_t0 s15_x0 (s15_l0 n)) n) := range_ok (h27 n) hP (p := 31) (F := [3, 4, 5, 30]) (Oa := []) (Ob := []) (by kernel_rfl) rfl (by decide) (by decide) rfl trivial trivial (s15_b0 n)
def s15_c (n : Nat) : Con := ⟨[(.pair (.slice .str) (.pair (.int .i64) (.slice (.pair .str (.pair (.slice (.int .i64)) (.slice .str)))))), (.int .i64)], [], [(.slice (.int .i64)), (.int .i64)], fun x y => s15 n x.1 x.2, false⟩
theorem s15_eq (n : Nat) (x : denL [(.pair (.slice .str) (.pair (.int .i64) (.slice (.pair .str (.pair (.slice (.int .i64)) (.slice .str)))))), (.int .i64)]) (y : denL []) : funR (e27 n) Go.Proofs.Tryd.f15 [(.pair (.slice .str) (.pair (.int .i64) (.slice (.pair .str (.pair (.slice (.int .i64)) (.slice .str)))))), (.int .i64)] [] [(.slice (.int .i64)), (.int .i64)] false [(fun n => rangeO (R := (denL [(.slice (.int .i64)), (.int .i64)])) (e27 n) (.pair (.int .i64) (.slice (.int .i64))) (rgG (lp (bd Go.Proofs.Tryd.f15) 0)) s15_t0 s15_x0 (s15_l0 n)) n] x y = (s15_c n).fn x y := by kernel_rfl
theorem s15_ok (n : Nat) : ConOK Go.Proofs.Tryd.prog 15 (s15_c n) := func_ok (h27 n) hP Go.Proofs.Tryd.func15 (by kernel_rfl) (by kernel_rfl) (O := [(fun n => rangeO (R := (denL [(.slice (.int .i64)), (.int .i64)])) (e27 n) (.pair (.int .i64) (.slice (.int .i64))) (rgG (lp (bd Go.Proofs.Tryd.f15) 0)) s15_t0 s15_x0 (s15_l0 n)) n]) ⟨s15_s0 n, trivial⟩ (s15_eq n)
def e28 (n : Nat) : Env := ⟨gT, (15, s15_c n) :: (e27 n).C, gQ, (e27 n).I, (e27 n).M, (e27 n).S, (e27 n).D, [], (e27 n).O, []⟩
theorem h28 (n : Nat) : EnvOK Go.Proofs.Tryd.prog (e28 n) := env_add (h27 n) (s15_ok n)

/-- criadera/criaderalaw07.Panel -/
def s17 (n : Nat) : Option ((Int × Int × (List Int) × (List (List Int)))) :=
  some (((2 : Int), ((2 : Int), (([(0 : Int), (1 : Int), (0 : Int), (1 : Int), (0 : Int)] : List Int), ([([(0 : Int), (1 : Int), (0 : Int), (0 : Int), (1 : Int)] : List Int), ([(0 : Int), (1 : Int), (0 : Int), (1 : Int), (0 : Int)] : List Int)] : List (List Int))))))

def s17_c (n : Nat) : Con := ⟨[], [], [(.pair (.int .i64) (.pair (.int .i64) (.pair (.slice (.int .i64)) (.slice (.slice (.int .i64))))))], fun x y => s17 n, false⟩
theorem s17_eq (n : Nat) (x : denL []) (y : denL []) : funR (e28 n) Go.Proofs.Tryd.f17 [] [] [(.pair (.int .i64) (.pair (.int .i64) (.pair (.slice (.int .i64)) (.slice (.slice (.int .i64))))))] false [] x y = (s17_c n).fn x y := by kernel_rfl
theorem s17_ok (n : Nat) : ConOK Go.Proofs.Tryd.prog 17 (s17_c n) := func_ok (h28 n) hP Go.Proofs.Tryd.func17 (by kernel_rfl) (by kernel_rfl) (O := []) trivial (s17_eq n)
def e29 (n : Nat) : Env := ⟨gT, (17, s17_c n) :: (e28 n).C, gQ, (e28 n).I, (e28 n).M, (e28 n).S, (e28 n).D, [], (e28 n).O, []⟩
theorem h29 (n : Nat) : EnvOK Go.Proofs.Tryd.prog (e29 n) := env_add (h28 n) (s17_ok n)

/-- criadera/taste.CheckPanel$1 -/
def s88 (n : Nat) (v_n : Int) (c0 : Int × Int × (List Int) × (List (List Int))) : Option (Bool) :=
  (s39 n v_n (0 : Int) (IntKind.wrap .i64 (c0.1 - (1 : Int)))).bind fun x =>
  some ((!x))

def s88_c (n : Nat) : Con := ⟨[(.int .i64)], [(.pair (.int .i64) (.pair (.int .i64) (.pair (.slice (.int .i64)) (.slice (.slice (.int .i64))))))], [.bool], fun x y => s88 n x y, false⟩
theorem s88_eq (n : Nat) (x : denL [(.int .i64)]) (y : denL [(.pair (.int .i64) (.pair (.int .i64) (.pair (.slice (.int .i64)) (.slice (.slice (.int .i64))))))]) : funR (e29 n) Go.Proofs.Tryd.f88 [(.int .i64)] [(.pair (.int .i64) (.pair (.int .i64) (.pair (.slice (.int .i64)) (.slice (.slice (.int .i64))))))] [.bool] false [] x y = (s88_c n).fn x y := by kernel_rfl
theorem s88_ok (n : Nat) : ConOK Go.Proofs.Tryd.prog 88 (s88_c n) := func_ok (h29 n) hP Go.Proofs.Tryd.func88 (by kernel_rfl) (by kernel_rfl) (O := []) trivial (s88_eq n)
def e30 (n : Nat) : Env := ⟨gT, (88, s88_c n) :: (e29 n).C, gQ, (e29 n).I, (e29 n).M, (e29 n).S, (e29 n).D, [], (e29 n).O, []⟩
theorem h30 (n : Nat) : EnvOK Go.Proofs.Tryd.prog (e30 n) := env_add (h29 n) (s88_ok n)

/-- criadera/taste.CheckPanel$2 -/
def s89 (n : Nat) (v_n : Int) (c0 : Int × Int × (List Int) × (List (List Int))) : Option (Bool) :=
  (s39 n v_n (0 : Int) (IntKind.wrap .i64 (c0.2.1 - (1 : Int)))).bind fun x =>
  some ((!x))

def s89_c (n : Nat) : Con := ⟨[(.int .i64)], [(.pair (.int .i64) (.pair (.int .i64) (.pair (.slice (.int .i64)) (.slice (.slice (.int .i64))))))], [.bool], fun x y => s89 n x y, false⟩
theorem s89_eq (n : Nat) (x : denL [(.int .i64)]) (y : denL [(.pair (.int .i64) (.pair (.int .i64) (.pair (.slice (.int .i64)) (.slice (.slice (.int .i64))))))]) : funR (e30 n) Go.Proofs.Tryd.f89 [(.int .i64)] [(.pair (.int .i64) (.pair (.int .i64) (.pair (.slice (.int .i64)) (.slice (.slice (.int .i64))))))] [.bool] false [] x y = (s89_c n).fn x y := by kernel_rfl
theorem s89_ok (n : Nat) : ConOK Go.Proofs.Tryd.prog 89 (s89_c n) := func_ok (h30 n) hP Go.Proofs.Tryd.func89 (by kernel_rfl) (by kernel_rfl) (O := []) trivial (s89_eq n)
def e31 (n : Nat) : Env := ⟨gT, (89, s89_c n) :: (e30 n).C, gQ, (e30 n).I, (e30 n).M, (e30 n).S, (e30 n).D, [], (e30 n).O, []⟩
theorem h31 (n : Nat) : EnvOK Go.Proofs.Tryd.prog (e31 n) := env_add (h30 n) (s89_ok n)

def s69_l0 (n : Nat) (d : (Int × Int × (List Int) × (List (List Int))) × (List (List Int)) × Int × Int × Unit) (again : ((Int × Int × (List Int) × (List (List Int))) × (List (List Int)) × Int × Int × Unit) → Option (Int × Int)) (ks : (Unit → Option (Int × Int)) × (Int × Int × Unit → Option (Int × Int)) × Unit) : Option (Int × Int) :=
  match d, ks with
  | (p, t58, t59, t60, _), (k0, k1, _) =>
  bif (decide (t60 < t59)) then
    (geti t58 t60).bind fun e =>
    (s48 n e (fun y0 => s89 n y0 p)).bind fun x =>
    (s38 n (((List.length e : Nat) : Int) == ((List.length p.2.2.1 : Nat) : Int)) (10 : Int)).bind fun x_1 =>
    (s38 n (!x) (6 : Int)).bind fun x_2 =>
    (s37 n ([x_1, x_2] : List Int)).bind fun x_3 =>
    bif (x_3 != (0 : Int)) then
      k1 (t60, x_3, ())
    else
      again (p, t58, t59, (IntKind.wrap .i64 (t60 + (1 : Int))), ())
  else
    k0 (())

/-- criadera/taste.CheckPanel -/
def s69 (n : Nat) (p : Int × Int × (List Int) × (List (List Int))) : Option (Int × Int) :=
  (s39 n p.1 (1 : Int) (30 : Int)).bind fun x =>
  (part x (s39 n p.2.1 (1 : Int) (6 : Int)) false).bind fun x_1 =>
  (s48 n p.2.2.1 (fun y0 => s88 n y0 (p.1, (p.2.1, (p.2.2.1, p.2.2.2))))).bind fun x_2 =>
  (s38 n (x && x_1) (2 : Int)).bind fun x_3 =>
  (s38 n ((decide (((List.length p.2.2.1 : Nat) : Int) > (0 : Int))) && (decide (((List.length p.2.2.2 : Nat) : Int) > (0 : Int)))) (10 : Int)).bind fun x_4 =>
  (s38 n ((decide (((List.length p.2.2.1 : Nat) : Int) ≤ (30 : Int))) && (decide (((List.length p.2.2.2 : Nat) : Int) ≤ (8 : Int)))) (8 : Int)).bind fun x_5 =>
  (s38 n (!x_2) (6 : Int)).bind fun x_6 =>
  (s37 n ([x_3, x_4, x_5, x_6] : List Int)).bind fun x_7 =>
  bif (x_7 != (0 : Int)) then
    some ((0 : Int), x_7)
  else
    loopG (s69_l0 n) n ((p.1, (p.2.1, (p.2.2.1, p.2.2.2))), p.2.2.2, ((List.length p.2.2.2 : Nat) : Int), (0 : Int), ())
      (fun (_) =>
        some ((0 : Int), (0 : Int)),
      fun (t2, t3, _) =>
        some (t2, t3), ())

def s69_t0 : Templ := ⟨85, [(.pair (.int .i64) (.pair (.int .i64) (.pair (.slice (.int .i64)) (.slice (.slice (.int .i64)))))), (.slice (.slice (.int .i64))), (.int .i64), (.int .i64)], [(1, .v (.pp (.pair (.int .i64) (.pair (.int .i64) (.pair (.slice (.int .i64)) (.slice (.slice (.int .i64)))))))), (58, .v (.hole (.slice (.slice (.int .i64))))), (59, .v (.hole (.int .i64))), (60, .v (.hole (.int .i64)))], [], []⟩
def s69_x0 : List (Way × Templ) := [(.exit 0, ⟨85, [], [], [], []⟩), (.ret, ⟨85, [(.int .i64), (.int .i64)], [(2, .v (.hole (.int .i64))), (3, .v (.hole (.int .i64)))], [], []⟩)]
def s69_o0 (n : Nat) : Ev (denL [(.int .i64), (.int .i64)]) := loopO n (e31 n) s69_t0 s69_x0 (s69_l0 n)
theorem s69_b0 (n : Nat) (d) (again) (ks) : codeR (R := (denL [(.int .i64), (.int .i64)])) (e31 n) (Hdl.no (R := (denL [(.int .i64), (.int .i64)]))) (inn (lp (bd Go.Proofs.Tryd.f69) 0)) [] (mk s69_t0 d) (turnR (e31 n) s69_t0 s69_x0 again ks) = s69_l0 n d again ks := by kernel_rfl
theorem s69_s0 (n : Nat) : Sound Go.Proofs.Tryd.prog (Hdl.no (R := (denL [(.int .i64), (.int .i64)]))) false (lp (bd Go.Proofs.Tryd.f69) 0) (s69_o0 n) := loop_ok (h31 n) hP (by kernel_rfl) (O := []) trivial (s69_b0 n)
def s69_c (n : Nat) : Con := ⟨[(.pair (.int .i64) (.pair (.int .i64) (.pair (.slice (.int .i64)) (.slice (.slice (.int .i64))))))], [], [(.int .i64), (.int .i64)], fun x y => s69 n x, false⟩
theorem s69_eq (n : Nat) (x : denL [(.pair (.int .i64) (.pair (.int .i64) (.pair (.slice (.int .i64)) (.slice (.slice (.int .i64))))))]) (y : denL []) : funR (e31 n) Go.Proofs.Tryd.f69 [(.pair (.int .i64) (.pair (.int .i64) (.pair (.slice (.int .i64)) (.slice (.slice (.int .i64))))))] [] [(.int .i64), (.int .i64)] false [s69_o0 n] x y = (s69_c n).fn x y := by kernel_rfl
theorem s69_ok (n : Nat) : ConOK Go.Proofs.Tryd.prog 69 (s69_c n) := func_ok (h31 n) hP Go.Proofs.Tryd.func69 (by kernel_rfl) (by kernel_rfl) (O := [s69_o0 n]) ⟨s69_s0 n, trivial⟩ (s69_eq n)
def e32 (n : Nat) : Env := ⟨gT, (69, s69_c n) :: (e31 n).C, gQ, (e31 n).I, (e31 n).M, (e31 n).S, (e31 n).D, [], (e31 n).O, []⟩
theorem h32 (n : Nat) : EnvOK Go.Proofs.Tryd.prog (e32 n) := env_add (h31 n) (s69_ok n)

/-- criadera/taste.openPanel -/
def s41 (n : Nat) (p : Int × Int × (List Int) × (List (List Int))) : Option ((Int × Int × (List Int) × (List (List Int))) × Int) :=
  (s69 n (p.1, (p.2.1, (p.2.2.1, p.2.2.2)))).bind fun x =>
  some ((p.1, (p.2.1, (p.2.2.1, p.2.2.2))), x.2)

def s41_c (n : Nat) : Con := ⟨[(.pair (.int .i64) (.pair (.int .i64) (.pair (.slice (.int .i64)) (.slice (.slice (.int .i64))))))], [], [(.pair (.int .i64) (.pair (.int .i64) (.pair (.slice (.int .i64)) (.slice (.slice (.int .i64)))))), (.int .i64)], fun x y => s41 n x, false⟩
theorem s41_eq (n : Nat) (x : denL [(.pair (.int .i64) (.pair (.int .i64) (.pair (.slice (.int .i64)) (.slice (.slice (.int .i64))))))]) (y : denL []) : funR (e32 n) Go.Proofs.Tryd.f41 [(.pair (.int .i64) (.pair (.int .i64) (.pair (.slice (.int .i64)) (.slice (.slice (.int .i64))))))] [] [(.pair (.int .i64) (.pair (.int .i64) (.pair (.slice (.int .i64)) (.slice (.slice (.int .i64)))))), (.int .i64)] false [] x y = (s41_c n).fn x y := by kernel_rfl
theorem s41_ok (n : Nat) : ConOK Go.Proofs.Tryd.prog 41 (s41_c n) := func_ok (h32 n) hP Go.Proofs.Tryd.func41 (by kernel_rfl) (by kernel_rfl) (O := []) trivial (s41_eq n)
def e33 (n : Nat) : Env := ⟨gT, (41, s41_c n) :: (e32 n).C, gQ, (e32 n).I, (e32 n).M, (e32 n).S, (e32 n).D, [], (e32 n).O, []⟩
theorem h33 (n : Nat) : EnvOK Go.Proofs.Tryd.prog (e33 n) := env_add (h32 n) (s41_ok n)

/-- (criadera/taste.panel).tasterErr -/
def s42 (n : Nat) (p : Int × Int × (List Int) × (List (List Int))) (v_n : Int) : Option (Int) :=
  (s39 n v_n (0 : Int) (IntKind.wrap .i64 (((List.length p.2.2.2 : Nat) : Int) - (1 : Int)))).bind fun x =>
  (s38 n x (6 : Int)).bind fun x_1 =>
  some (x_1)

def s42_c (n : Nat) : Con := ⟨[(.pair (.int .i64) (.pair (.int .i64) (.pair (.slice (.int .i64)) (.slice (.slice (.int .i64)))))), (.int .i64)], [], [(.int .i64)], fun x y => s42 n x.1 x.2, false⟩
theorem s42_eq (n : Nat) (x : denL [(.pair (.int .i64) (.pair (.int .i64) (.pair (.slice (.int .i64)) (.slice (.slice (.int .i64)))))), (.int .i64)]) (y : denL []) : funR (e33 n) Go.Proofs.Tryd.f42 [(.pair (.int .i64) (.pair (.int .i64) (.pair (.slice (.int .i64)) (.slice (.slice (.int .i64)))))), (.int .i64)] [] [(.int .i64)] false [] x y = (s42_c n).fn x y := by kernel_rfl
theorem s42_ok (n : Nat) : ConOK Go.Proofs.Tryd.prog 42 (s42_c n) := func_ok (h33 n) hP Go.Proofs.Tryd.func42 (by kernel_rfl) (by kernel_rfl) (O := []) trivial (s42_eq n)
def e34 (n : Nat) : Env := ⟨gT, (42, s42_c n) :: (e33 n).C, gQ, (e33 n).I, (e33 n).M, (e33 n).S, (e33 n).D, [], (e33 n).O, []⟩
theorem h34 (n : Nat) : EnvOK Go.Proofs.Tryd.prog (e34 n) := env_add (h33 n) (s42_ok n)

def s43_l0_0 (n : Nat) (d : (List Int) × Int × Int × (List Int) × Int × Int × Int × Int × Int × Int × (List Int) × (List (List Int)) × Int × Int × Int × Int × Unit) (again : ((List Int) × Int × Int × (List Int) × Int × Int × Int × Int × Int × Int × (List Int) × (List (List Int)) × Int × Int × Int × Int × Unit) → Option ((Int × Int))) (ks : ((List Int) × (List Int) × Int × Int × Int × Int × (List Int) × (List (List Int)) × Int × Int × Int × Int × Unit → Option ((Int × Int))) × Unit) : Option ((Int × Int)) :=
  match d, ks with
  | (l, i, cask, t18, t19, t20, t25, t26, p, p_1, p_2, p_3, t4, t4_1, out, out_1, _), (k0, _) =>
  bif (decide (t26 < t25)) then
    (geti p_2 t26).bind fun e =>
    bif (e != cask) then
      again (l, i, cask, t18, t19, t20, t25, (IntKind.wrap .i64 (t26 + (1 : Int))), p, p_1, p_2, p_3, t4, t4_1, out, out_1, ())
    else
      (geti l i).bind fun e_1 =>
      (geti l t26).bind fun e_2 =>
      bif (e_1 == e_2) then
        again (l, i, cask, t18, t19, t20, t25, (IntKind.wrap .i64 (t26 + (1 : Int))), p, p_1, p_2, p_3, t4, t4_1, (IntKind.wrap .i64 (out + (1 : Int))), (IntKind.wrap .i64 (out_1 + (1 : Int))), ())
      else
        again (l, i, cask, t18, t19, t20, t25, (IntKind.wrap .i64 (t26 + (1 : Int))), p, p_1, p_2, p_3, t4, t4_1, out, (IntKind.wrap .i64 (out_1 + (1 : Int))), ())
  else
    k0 (l, t18, t19, t20, p, p_1, p_2, p_3, t4, t4_1, out, out_1, ())

def s43_l0 (n : Nat) (d : (List Int) × (List Int) × Int × Int × Int × Int × (List Int) × (List (List Int)) × Int × Int × Int × Int × Unit) (again : ((List Int) × (List Int) × Int × Int × Int × Int × (List Int) × (List (List Int)) × Int × Int × Int × Int × Unit) → Option ((Int × Int))) (ks : (Int × Int × Int × Int × Unit → Option ((Int × Int))) × Unit) : Option ((Int × Int)) :=
  match d, ks with
  | (l, t18, t19, t20, p, p_1, p_2, p_3, t4, t4_1, out, out_1, _), (k0, _) =>
  bif (decide (t20 < t19)) then
    (geti t18 t20).bind fun e =>
    loopG (s43_l0_0 n) n (l, t20, e, t18, t19, t20, t20, (0 : Int), p, p_1, p_2, p_3, t4, t4_1, out, out_1, ())
      (fun (l_2, t18_2, t19_2, t20_2, p_8, p_9, p_10, p_11, t4_4, t4_5, out_4, out_5, _) =>
        again (l_2, t18_2, t19_2, (IntKind.wrap .i64 (t20_2 + (1 : Int))), p_8, p_9, p_10, p_11, t4_4, t4_5, out_4, out_5, ()), ())
  else
    k0 (t4, t4_1, out, out_1, ())

/-- (criadera/taste.panel).steadiness -/
def s43 (n : Nat) (p : Int × Int × (List Int) × (List (List Int))) (taster : Int) : Option ((Int × Int)) :=
  (geti p.2.2.2 taster).bind fun e =>
  loopG (s43_l0 n) n (e, p.2.2.1, ((List.length p.2.2.1 : Nat) : Int), (0 : Int), p.1, p.2.1, p.2.2.1, p.2.2.2, (0 : Int), (0 : Int), (0 : Int), (0 : Int), ())
    (fun (t4_6, t4_7, out_6, out_7, _) =>
      some ((out_6, out_7)), ())

def s43_t0_0 : Templ := ⟨57, [(.slice (.int .i64)), (.int .i64), (.int .i64), (.slice (.int .i64)), (.int .i64), (.int .i64), (.int .i64), (.int .i64), (.int .i64), (.int .i64), (.slice (.int .i64)), (.slice (.slice (.int .i64))), (.int .i64), (.int .i64), (.int .i64), (.int .i64)], [(2, .v (.bptr 57 0)), (4, .v (.bptr 58 0)), (5, .v (.bptr 59 0)), (6, .v (.hole (.slice (.int .i64)))), (7, .v (.hole (.int .i64))), (8, .v (.hole (.int .i64))), (18, .v (.hole (.slice (.int .i64)))), (19, .v (.hole (.int .i64))), (20, .v (.hole (.int .i64))), (25, .v (.hole (.int .i64))), (26, .v (.hole (.int .i64)))], [(57, .box (.pair (.int .i64) (.pair (.int .i64) (.pair (.slice (.int .i64)) (.slice (.slice (.int .i64)))))) [.hole (.int .i64), .hole (.int .i64), .hole (.slice (.int .i64)), .hole (.slice (.slice (.int .i64)))]), (58, .box (.pair (.int .i64) (.int .i64)) [.hole (.int .i64), .hole (.int .i64)]), (59, .box (.pair (.int .i64) (.int .i64)) [.hole (.int .i64), .hole (.int .i64)])], []⟩
def s43_x0_0 : List (Way × Templ) := [(.exit 2, ⟨57, [(.slice (.int .i64)), (.slice (.int .i64)), (.int .i64), (.int .i64), (.int .i64), (.int .i64), (.slice (.int .i64)), (.slice (.slice (.int .i64))), (.int .i64), (.int .i64), (.int .i64), (.int .i64)], [(2, .v (.bptr 57 0)), (4, .v (.bptr 58 0)), (5, .v (.bptr 59 0)), (6, .v (.hole (.slice (.int .i64)))), (18, .v (.hole (.slice (.int .i64)))), (19, .v (.hole (.int .i64))), (20, .v (.hole (.int .i64)))], [(57, .box (.pair (.int .i64) (.pair (.int .i64) (.pair (.slice (.int .i64)) (.slice (.slice (.int .i64)))))) [.hole (.int .i64), .hole (.int .i64), .hole (.slice (.int .i64)), .hole (.slice (.slice (.int .i64)))]), (58, .box (.pair (.int .i64) (.int .i64)) [.hole (.int .i64), .hole (.int .i64)]), (59, .box (.pair (.int .i64) (.int .i64)) [.hole (.int .i64), .hole (.int .i64)])], []⟩)]
def s43_o0_0 (n : Nat) : Ev (denL [(.pair (.int .i64) (.int .i64))]) := loopO n (e34 n) s43_t0_0 s43_x0_0 (s43_l0_0 n)
theorem s43_b0_0 (n : Nat) (d) (again) (ks) : codeR (R := (denL [(.pair (.int .i64) (.int .i64))])) (e34 n) (Hdl.no (R := (denL [(.pair (.int .i64) (.int .i64))]))) (inn (lp (inn (lp (bd Go.Proofs.Tryd.f43) 0)) 0)) [] (mk s43_t0_0 d) (turnR (e34 n) s43_t0_0 s43_x0_0 again ks) = s43_l0_0 n d again ks := by kernel_rfl
theorem s43_s0_0 (n : Nat) : Sound Go.Proofs.Tryd.prog (Hdl.no (R := (denL [(.pair (.int .i64) (.int .i64))]))) false (lp (inn (lp (bd Go.Proofs.Tryd.f43) 0)) 0) (s43_o0_0 n) := loop_ok (h34 n) hP (by kernel_rfl) (O := []) trivial (s43_b0_0 n)
def s43_t0 : Templ := ⟨57, [(.slice (.int .i64)), (.slice (.int .i64)), (.int .i64), (.int .i64), (.int .i64), (.int .i64), (.slice (.int .i64)), (.slice (.slice (.int .i64))), (.int .i64), (.int .i64), (.int .i64), (.int .i64)], [(2, .v (.bptr 57 0)), (4, .v (.bptr 58 0)), (5, .v (.bptr 59 0)), (6, .v (.hole (.slice (.int .i64)))), (18, .v (.hole (.slice (.int .i64)))), (19, .v (.hole (.int .i64))), (20, .v (.hole (.int .i64)))], [(57, .box (.pair (.int .i64) (.pair (.int .i64) (.pair (.slice (.int .i64)) (.slice (.slice (.int .i64)))))) [.hole (.int .i64), .hole (.int .i64), .hole (.slice (.int .i64)), .hole (.slice (.slice (.int .i64)))]), (58, .box (.pair (.int .i64) (.int .i64)) [.hole (.int .i64), .hole (.int .i64)]), (59, .box (.pair (.int .i64) (.int .i64)) [.hole (.int .i64), .hole (.int .i64)])], []⟩
def s43_x0 : List (Way × Templ) := [(.exit 0, ⟨57, [(.int .i64), (.int .i64), (.int .i64), (.int .i64)], [(4, .v (.bptr 57 0)), (5, .v (.bptr 58 0))], [(57, .box (.pair (.int .i64) (.int .i64)) [.hole (.int .i64), .hole (.int .i64)]), (58, .box (.pair (.int .i64) (.int .i64)) [.hole (.int .i64), .hole (.int .i64)])], []⟩)]
def s43_o0 (n : Nat) : Ev (denL [(.pair (.int .i64) (.int .i64))]) := loopO n (e34 n) s43_t0 s43_x0 (s43_l0 n)
theorem s43_b0 (n : Nat) (d) (again) (ks) : codeR (R := (denL [(.pair (.int .i64) (.int .i64))])) (e34 n) (Hdl.no (R := (denL [(.pair (.int .i64) (.int .i64))]))) (inn (lp (bd Go.Proofs.Tryd.f43) 0)) [s43_o0_0 n] (mk s43_t0 d) (turnR (e34 n) s43_t0 s43_x0 again ks) = s43_l0 n d again ks := by kernel_rfl
theorem s43_s0 (n : Nat) : Sound Go.Proofs.Tryd.prog (Hdl.no (R := (denL [(.pair (.int .i64) (.int .i64))]))) false (lp (bd Go.Proofs.Tryd.f43) 0) (s43_o0 n) := loop_ok (h34 n) hP (by kernel_rfl) (O := [s43_o0_0 n]) ⟨s43_s0_0 n, trivial⟩ (s43_b0 n)
def s43_c (n : Nat) : Con := ⟨[(.pair (.int .i64) (.pair (.int .i64) (.pair (.slice (.int .i64)) (.slice (.slice (.int .i64)))))), (.int .i64)], [], [(.pair (.int .i64) (.int .i64))], fun x y => s43 n x.1 x.2, false⟩
theorem s43_eq (n : Nat) (x : denL [(.pair (.int .i64) (.pair (.int .i64) (.pair (.slice (.int .i64)) (.slice (.slice (.int .i64)))))), (.int .i64)]) (y : denL []) : funR (e34 n) Go.Proofs.Tryd.f43 [(.pair (.int .i64) (.pair (.int .i64) (.pair (.slice (.int .i64)) (.slice (.slice (.int .i64)))))), (.int .i64)] [] [(.pair (.int .i64) (.int .i64))] false [s43_o0 n] x y = (s43_c n).fn x y := by kernel_rfl
theorem s43_ok (n : Nat) : ConOK Go.Proofs.Tryd.prog 43 (s43_c n) := func_ok (h34 n) hP Go.Proofs.Tryd.func43 (by kernel_rfl) (by kernel_rfl) (O := [s43_o0 n]) ⟨s43_s0 n, trivial⟩ (s43_eq n)
def e35 (n : Nat) : Env := ⟨gT, (43, s43_c n) :: (e34 n).C, gQ, (e34 n).I, (e34 n).M, (e34 n).S, (e34 n).D, [], (e34 n).O, []⟩
theorem h35 (n : Nat) : EnvOK Go.Proofs.Tryd.prog (e35 n) := env_add (h34 n) (s43_ok n)

/-- criadera/taste.SteadyOf -/
def s16 (n : Nat) (p : Int × Int × (List Int) × (List (List Int))) (taster : Int) : Option ((Int × Int) × Int) :=
  (s41 n (p.1, (p.2.1, (p.2.2.1, p.2.2.2)))).bind fun x =>
  (s42 n (x.1.1, (x.1.2.1, (x.1.2.2.1, x.1.2.2.2))) taster).bind fun x_1 =>
  (s37 n ([x.2, x_1] : List Int)).bind fun x_2 =>
  bif (x_2 != (0 : Int)) then
    some (((0 : Int), (0 : Int)), x_2)
  else
    (s43 n (x.1.1, (x.1.2.1, (x.1.2.2.1, x.1.2.2.2))) taster).bind fun x_3 =>
    some ((x_3.1, x_3.2), (0 : Int))

def s16_c (n : Nat) : Con := ⟨[(.pair (.int .i64) (.pair (.int .i64) (.pair (.slice (.int .i64)) (.slice (.slice (.int .i64)))))), (.int .i64)], [], [(.pair (.int .i64) (.int .i64)), (.int .i64)], fun x y => s16 n x.1 x.2, false⟩
theorem s16_eq (n : Nat) (x : denL [(.pair (.int .i64) (.pair (.int .i64) (.pair (.slice (.int .i64)) (.slice (.slice (.int .i64)))))), (.int .i64)]) (y : denL []) : funR (e35 n) Go.Proofs.Tryd.f16 [(.pair (.int .i64) (.pair (.int .i64) (.pair (.slice (.int .i64)) (.slice (.slice (.int .i64)))))), (.int .i64)] [] [(.pair (.int .i64) (.int .i64)), (.int .i64)] false [] x y = (s16_c n).fn x y := by kernel_rfl
theorem s16_ok (n : Nat) : ConOK Go.Proofs.Tryd.prog 16 (s16_c n) := func_ok (h35 n) hP Go.Proofs.Tryd.func16 (by kernel_rfl) (by kernel_rfl) (O := []) trivial (s16_eq n)
def e36 (n : Nat) : Env := ⟨gT, (16, s16_c n) :: (e35 n).C, gQ, (e35 n).I, (e35 n).M, (e35 n).S, (e35 n).D, [], (e35 n).O, []⟩
theorem h36 (n : Nat) : EnvOK Go.Proofs.Tryd.prog (e36 n) := env_add (h35 n) (s16_ok n)

/-- (criadera/taste.panel).caskErr -/
def s70 (n : Nat) (p : Int × Int × (List Int) × (List (List Int))) (v_n : Int) : Option (Int) :=
  (s39 n v_n (0 : Int) (IntKind.wrap .i64 (p.1 - (1 : Int)))).bind fun x =>
  (s38 n x (6 : Int)).bind fun x_1 =>
  some (x_1)

def s70_c (n : Nat) : Con := ⟨[(.pair (.int .i64) (.pair (.int .i64) (.pair (.slice (.int .i64)) (.slice (.slice (.int .i64)))))), (.int .i64)], [], [(.int .i64)], fun x y => s70 n x.1 x.2, false⟩
theorem s70_eq (n : Nat) (x : denL [(.pair (.int .i64) (.pair (.int .i64) (.pair (.slice (.int .i64)) (.slice (.slice (.int .i64)))))), (.int .i64)]) (y : denL []) : funR (e36 n) Go.Proofs.Tryd.f70 [(.pair (.int .i64) (.pair (.int .i64) (.pair (.slice (.int .i64)) (.slice (.slice (.int .i64)))))), (.int .i64)] [] [(.int .i64)] false [] x y = (s70_c n).fn x y := by kernel_rfl
theorem s70_ok (n : Nat) : ConOK Go.Proofs.Tryd.prog 70 (s70_c n) := func_ok (h36 n) hP Go.Proofs.Tryd.func70 (by kernel_rfl) (by kernel_rfl) (O := []) trivial (s70_eq n)
def e37 (n : Nat) : Env := ⟨gT, (70, s70_c n) :: (e36 n).C, gQ, (e36 n).I, (e36 n).M, (e36 n).S, (e36 n).D, [], (e36 n).O, []⟩
theorem h37 (n : Nat) : EnvOK Go.Proofs.Tryd.prog (e37 n) := env_add (h36 n) (s70_ok n)

def s71_l0 (n : Nat) (d : (List Int) × (List Int) × Int × Int × Int × Int × (List Int) × (List (List Int)) × Unit) (again : ((List Int) × (List Int) × Int × Int × Int × Int × (List Int) × (List (List Int)) × Unit) → Option (Int)) (ks : (Unit → Option (Int)) × (Int × Unit → Option (Int)) × Unit) : Option (Int) :=
  match d, ks with
  | (l, t8, t9, t10, p, p_1, p_2, p_3, _), (k0, k1, _) =>
  bif (decide (t10 < t9)) then
    (geti t8 t10).bind fun e =>
    (s42 n (p, (p_1, (p_2, p_3))) e).bind fun x =>
    (part (!(t10 == (0 : Int))) (geti l (imax (0 : Int) (IntKind.wrap .i64 (t10 - (1 : Int))))) (0 : Int)).bind fun e_1 =>
    (s38 n ((t10 == (0 : Int)) || (decide (e > e_1))) (9 : Int)).bind fun x_1 =>
    (s37 n ([x, x_1] : List Int)).bind fun x_2 =>
    bif (x_2 != (0 : Int)) then
      k1 (x_2, ())
    else
      again (l, t8, t9, (IntKind.wrap .i64 (t10 + (1 : Int))), p, p_1, p_2, p_3, ())
  else
    k0 (())

/-- (criadera/taste.panel).tastersErr -/
def s71 (n : Nat) (p : Int × Int × (List Int) × (List (List Int))) (l : List Int) : Option (Int) :=
  loopG (s71_l0 n) n (l, l, ((List.length l : Nat) : Int), (0 : Int), p.1, p.2.1, p.2.2.1, p.2.2.2, ())
    (fun (_) =>
      some ((0 : Int)),
    fun (t4, _) =>
      some (t4), ())

def s71_t0 : Templ := ⟨37, [(.slice (.int .i64)), (.slice (.int .i64)), (.int .i64), (.int .i64), (.int .i64), (.int .i64), (.slice (.int .i64)), (.slice (.slice (.int .i64)))], [(1, .v (.hole (.slice (.int .i64)))), (2, .v (.bptr 37 0)), (8, .v (.hole (.slice (.int .i64)))), (9, .v (.hole (.int .i64))), (10, .v (.hole (.int .i64)))], [(37, .box (.pair (.int .i64) (.pair (.int .i64) (.pair (.slice (.int .i64)) (.slice (.slice (.int .i64)))))) [.hole (.int .i64), .hole (.int .i64), .hole (.slice (.int .i64)), .hole (.slice (.slice (.int .i64)))])], []⟩
def s71_x0 : List (Way × Templ) := [(.exit 0, ⟨37, [], [], [], []⟩), (.ret, ⟨37, [(.int .i64)], [(4, .v (.hole (.int .i64)))], [], []⟩)]
def s71_o0 (n : Nat) : Ev (denL [(.int .i64)]) := loopO n (e37 n) s71_t0 s71_x0 (s71_l0 n)
theorem s71_b0 (n : Nat) (d) (again) (ks) : codeR (R := (denL [(.int .i64)])) (e37 n) (Hdl.no (R := (denL [(.int .i64)]))) (inn (lp (bd Go.Proofs.Tryd.f71) 0)) [] (mk s71_t0 d) (turnR (e37 n) s71_t0 s71_x0 again ks) = s71_l0 n d again ks := by kernel_rfl
theorem s71_s0 (n : Nat) : Sound Go.Proofs.Tryd.prog (Hdl.no (R := (denL [(.int .i64)]))) false (lp (bd Go.Proofs.Tryd.f71) 0) (s71_o0 n) := loop_ok (h37 n) hP (by kernel_rfl) (O := []) trivial (s71_b0 n)
def s71_c (n : Nat) : Con := ⟨[(.pair (.int .i64) (.pair (.int .i64) (.pair (.slice (.int .i64)) (.slice (.slice (.int .i64)))))), (.slice (.int .i64))], [], [(.int .i64)], fun x y => s71 n x.1 x.2, false⟩
theorem s71_eq (n : Nat) (x : denL [(.pair (.int .i64) (.pair (.int .i64) (.pair (.slice (.int .i64)) (.slice (.slice (.int .i64)))))), (.slice (.int .i64))]) (y : denL []) : funR (e37 n) Go.Proofs.Tryd.f71 [(.pair (.int .i64) (.pair (.int .i64) (.pair (.slice (.int .i64)) (.slice (.slice (.int .i64)))))), (.slice (.int .i64))] [] [(.int .i64)] false [s71_o0 n] x y = (s71_c n).fn x y := by kernel_rfl
theorem s71_ok (n : Nat) : ConOK Go.Proofs.Tryd.prog 71 (s71_c n) := func_ok (h37 n) hP Go.Proofs.Tryd.func71 (by kernel_rfl) (by kernel_rfl) (O := [s71_o0 n]) ⟨s71_s0 n, trivial⟩ (s71_eq n)
def e38 (n : Nat) : Env := ⟨gT, (71, s71_c n) :: (e37 n).C, gQ, (e37 n).I, (e37 n).M, (e37 n).S, (e37 n).D, [], (e37 n).O, []⟩
theorem h38 (n : Nat) : EnvOK Go.Proofs.Tryd.prog (e38 n) := env_add (h37 n) (s71_ok n)

/-- criadera/taste.openTasters -/
def s44 (n : Nat) (p : Int × Int × (List Int) × (List (List Int))) (cask : Int) (tasters : List Int) : Option ((Int × Int × (List Int) × (List (List Int))) × Int) :=
  (s41 n (p.1, (p.2.1, (p.2.2.1, p.2.2.2)))).bind fun x =>
  (s70 n (x.1.1, (x.1.2.1, (x.1.2.2.1, x.1.2.2.2))) cask).bind fun x_1 =>
  (s71 n (x.1.1, (x.1.2.1, (x.1.2.2.1, x.1.2.2.2))) tasters).bind fun x_2 =>
  (s37 n ([x.2, x_1, x_2] : List Int)).bind fun x_3 =>
  some ((x.1.1, (x.1.2.1, (x.1.2.2.1, x.1.2.2.2))), x_3)

def s44_c (n : Nat) : Con := ⟨[(.pair (.int .i64) (.pair (.int .i64) (.pair (.slice (.int .i64)) (.slice (.slice (.int .i64)))))), (.int .i64), (.slice (.int .i64))], [], [(.pair (.int .i64) (.pair (.int .i64) (.pair (.slice (.int .i64)) (.slice (.slice (.int .i64)))))), (.int .i64)], fun x y => s44 n x.1 x.2.1 x.2.2, false⟩
theorem s44_eq (n : Nat) (x : denL [(.pair (.int .i64) (.pair (.int .i64) (.pair (.slice (.int .i64)) (.slice (.slice (.int .i64)))))), (.int .i64), (.slice (.int .i64))]) (y : denL []) : funR (e38 n) Go.Proofs.Tryd.f44 [(.pair (.int .i64) (.pair (.int .i64) (.pair (.slice (.int .i64)) (.slice (.slice (.int .i64)))))), (.int .i64), (.slice (.int .i64))] [] [(.pair (.int .i64) (.pair (.int .i64) (.pair (.slice (.int .i64)) (.slice (.slice (.int .i64)))))), (.int .i64)] false [] x y = (s44_c n).fn x y := by kernel_rfl
theorem s44_ok (n : Nat) : ConOK Go.Proofs.Tryd.prog 44 (s44_c n) := func_ok (h38 n) hP Go.Proofs.Tryd.func44 (by kernel_rfl) (by kernel_rfl) (O := []) trivial (s44_eq n)
def e39 (n : Nat) : Env := ⟨gT, (44, s44_c n) :: (e38 n).C, gQ, (e38 n).I, (e38 n).M, (e38 n).S, (e38 n).D, [], (e38 n).O, []⟩
theorem h39 (n : Nat) : EnvOK Go.Proofs.Tryd.prog (e39 n) := env_add (h38 n) (s44_ok n)

def s72_l0_0 (n : Nat) (d : Int × (List Int) × Int × Int × (List Int) × Int × Int × Int × Int × (List Int) × (List (List Int)) × (List Int) × Unit) (again : (Int × (List Int) × Int × Int × (List Int) × Int × Int × Int × Int × (List Int) × (List (List Int)) × (List Int) × Unit) → Option ((List Int))) (ks : (Int × (List Int) × Int × Int × Int × Int × (List Int) × (List (List Int)) × (List Int) × Unit → Option ((List Int))) × Unit) : Option ((List Int)) :=
  match d, ks with
  | (cask, t16, t17, t18, t27, t28, t29, p, p_1, p_2, p_3, out, _), (k0, _) =>
  bif (decide (t29 < t28)) then
    (geti t27 t29).bind fun e =>
    (geti p_2 t29).bind fun e_1 =>
    bif (e_1 == cask) then
      (geti out e).bind fun e_2 =>
      (geti out e).bind fun x =>
      (geti out e).bind fun e_3 =>
      (seti out e (IntKind.wrap .i64 (x + (1 : Int)))).bind fun l =>
      again (cask, t16, t17, t18, t27, t28, (IntKind.wrap .i64 (t29 + (1 : Int))), p, p_1, p_2, p_3, l, ())
    else
      again (cask, t16, t17, t18, t27, t28, (IntKind.wrap .i64 (t29 + (1 : Int))), p, p_1, p_2, p_3, out, ())
  else
    k0 (cask, t16, t17, t18, p, p_1, p_2, p_3, out, ())

def s72_l0 (n : Nat) (d : Int × (List Int) × Int × Int × Int × Int × (List Int) × (List (List Int)) × (List Int) × Unit) (again : (Int × (List Int) × Int × Int × Int × Int × (List Int) × (List (List Int)) × (List Int) × Unit) → Option ((List Int))) (ks : ((List Int) × Unit → Option ((List Int))) × Unit) : Option ((List Int)) :=
  match d, ks with
  | (cask, t16, t17, t18, p, p_1, p_2, p_3, out, _), (k0, _) =>
  bif (decide (t18 < t17)) then
    (geti t16 t18).bind fun e =>
    (geti p_3 e).bind fun e_1 =>
    loopG (s72_l0_0 n) n (cask, t16, t17, t18, e_1, ((List.length e_1 : Nat) : Int), (0 : Int), p, p_1, p_2, p_3, out, ())
      (fun (cask_2, t16_2, t17_2, t18_2, p_8, p_9, p_10, p_11, out_2, _) =>
        again (cask_2, t16_2, t17_2, (IntKind.wrap .i64 (t18_2 + (1 : Int))), p_8, p_9, p_10, p_11, out_2, ()), ())
  else
    k0 (out, ())

/-- (criadera/taste.panel).counts -/
def s72 (n : Nat) (p : Int × Int × (List Int) × (List (List Int))) (cask : Int) (tasters : List Int) : Option ((List Int)) :=
  (chki p.2.1).bind fun u =>
  loopG (s72_l0 n) n (cask, tasters, ((List.length tasters : Nat) : Int), (0 : Int), p.1, p.2.1, p.2.2.1, p.2.2.2, (List.replicate (Int.toNat p.2.1) (0 : Int)), ())
    (fun (out_3, _) =>
      some (out_3), ())

def s72_t0_0 : Templ := ⟨51, [(.int .i64), (.slice (.int .i64)), (.int .i64), (.int .i64), (.slice (.int .i64)), (.int .i64), (.int .i64), (.int .i64), (.int .i64), (.slice (.int .i64)), (.slice (.slice (.int .i64))), (.slice (.int .i64))], [(1, .v (.hole (.int .i64))), (3, .v (.bptr 51 0)), (7, .v (.hand 52)), (16, .v (.hole (.slice (.int .i64)))), (17, .v (.hole (.int .i64))), (18, .v (.hole (.int .i64))), (27, .v (.hole (.slice (.int .i64)))), (28, .v (.hole (.int .i64))), (29, .v (.hole (.int .i64)))], [(51, .box (.pair (.int .i64) (.pair (.int .i64) (.pair (.slice (.int .i64)) (.slice (.slice (.int .i64)))))) [.hole (.int .i64), .hole (.int .i64), .hole (.slice (.int .i64)), .hole (.slice (.slice (.int .i64)))]), (52, .buf (.int .i64))], []⟩
def s72_x0_0 : List (Way × Templ) := [(.exit 2, ⟨51, [(.int .i64), (.slice (.int .i64)), (.int .i64), (.int .i64), (.int .i64), (.int .i64), (.slice (.int .i64)), (.slice (.slice (.int .i64))), (.slice (.int .i64))], [(1, .v (.hole (.int .i64))), (3, .v (.bptr 51 0)), (7, .v (.hand 52)), (16, .v (.hole (.slice (.int .i64)))), (17, .v (.hole (.int .i64))), (18, .v (.hole (.int .i64)))], [(51, .box (.pair (.int .i64) (.pair (.int .i64) (.pair (.slice (.int .i64)) (.slice (.slice (.int .i64)))))) [.hole (.int .i64), .hole (.int .i64), .hole (.slice (.int .i64)), .hole (.slice (.slice (.int .i64)))]), (52, .buf (.int .i64))], []⟩)]
def s72_o0_0 (n : Nat) : Ev (denL [(.slice (.int .i64))]) := loopO n (e39 n) s72_t0_0 s72_x0_0 (s72_l0_0 n)
theorem s72_b0_0 (n : Nat) (d) (again) (ks) : codeR (R := (denL [(.slice (.int .i64))])) (e39 n) (Hdl.no (R := (denL [(.slice (.int .i64))]))) (inn (lp (inn (lp (bd Go.Proofs.Tryd.f72) 0)) 0)) [] (mk s72_t0_0 d) (turnR (e39 n) s72_t0_0 s72_x0_0 again ks) = s72_l0_0 n d again ks := by kernel_rfl
theorem s72_s0_0 (n : Nat) : Sound Go.Proofs.Tryd.prog (Hdl.no (R := (denL [(.slice (.int .i64))]))) false (lp (inn (lp (bd Go.Proofs.Tryd.f72) 0)) 0) (s72_o0_0 n) := loop_ok (h39 n) hP (by kernel_rfl) (O := []) trivial (s72_b0_0 n)
def s72_t0 : Templ := ⟨51, [(.int .i64), (.slice (.int .i64)), (.int .i64), (.int .i64), (.int .i64), (.int .i64), (.slice (.int .i64)), (.slice (.slice (.int .i64))), (.slice (.int .i64))], [(1, .v (.hole (.int .i64))), (3, .v (.bptr 51 0)), (7, .v (.hand 52)), (16, .v (.hole (.slice (.int .i64)))), (17, .v (.hole (.int .i64))), (18, .v (.hole (.int .i64)))], [(51, .box (.pair (.int .i64) (.pair (.int .i64) (.pair (.slice (.int .i64)) (.slice (.slice (.int .i64)))))) [.hole (.int .i64), .hole (.int .i64), .hole (.slice (.int .i64)), .hole (.slice (.slice (.int .i64)))]), (52, .buf (.int .i64))], []⟩
def s72_x0 : List (Way × Templ) := [(.exit 0, ⟨51, [(.slice (.int .i64))], [(7, .v (.hand 51))], [(51, .buf (.int .i64))], []⟩)]
def s72_o0 (n : Nat) : Ev (denL [(.slice (.int .i64))]) := loopO n (e39 n) s72_t0 s72_x0 (s72_l0 n)
theorem s72_b0 (n : Nat) (d) (again) (ks) : codeR (R := (denL [(.slice (.int .i64))])) (e39 n) (Hdl.no (R := (denL [(.slice (.int .i64))]))) (inn (lp (bd Go.Proofs.Tryd.f72) 0)) [s72_o0_0 n] (mk s72_t0 d) (turnR (e39 n) s72_t0 s72_x0 again ks) = s72_l0 n d again ks := by kernel_rfl
theorem s72_s0 (n : Nat) : Sound Go.Proofs.Tryd.prog (Hdl.no (R := (denL [(.slice (.int .i64))]))) false (lp (bd Go.Proofs.Tryd.f72) 0) (s72_o0 n) := loop_ok (h39 n) hP (by kernel_rfl) (O := [s72_o0_0 n]) ⟨s72_s0_0 n, trivial⟩ (s72_b0 n)
def s72_c (n : Nat) : Con := ⟨[(.pair (.int .i64) (.pair (.int .i64) (.pair (.slice (.int .i64)) (.slice (.slice (.int .i64)))))), (.int .i64), (.slice (.int .i64))], [], [(.slice (.int .i64))], fun x y => s72 n x.1 x.2.1 x.2.2, false⟩
theorem s72_eq (n : Nat) (x : denL [(.pair (.int .i64) (.pair (.int .i64) (.pair (.slice (.int .i64)) (.slice (.slice (.int .i64)))))), (.int .i64), (.slice (.int .i64))]) (y : denL []) : funR (e39 n) Go.Proofs.Tryd.f72 [(.pair (.int .i64) (.pair (.int .i64) (.pair (.slice (.int .i64)) (.slice (.slice (.int .i64)))))), (.int .i64), (.slice (.int .i64))] [] [(.slice (.int .i64))] false [s72_o0 n] x y = (s72_c n).fn x y := by kernel_rfl
theorem s72_ok (n : Nat) : ConOK Go.Proofs.Tryd.prog 72 (s72_c n) := func_ok (h39 n) hP Go.Proofs.Tryd.func72 (by kernel_rfl) (by kernel_rfl) (O := [s72_o0 n]) ⟨s72_s0 n, trivial⟩ (s72_eq n)
def e40 (n : Nat) : Env := ⟨gT, (72, s72_c n) :: (e39 n).C, gQ, (e39 n).I, (e39 n).M, (e39 n).S, (e39 n).D, [], (e39 n).O, []⟩
theorem h40 (n : Nat) : EnvOK Go.Proofs.Tryd.prog (e40 n) := env_add (h39 n) (s72_ok n)

def s73_l0 (n : Nat) (d : (List Int) × Int × Int × Unit) (again : ((List Int) × Int × Int × Unit) → Option (Int)) (ks : (Int × Unit → Option (Int)) × Unit) : Option (Int) :=
  match d, ks with
  | (t0, m, i, _), (k0, _) =>
  bif (decide (i < ((List.length t0 : Nat) : Int))) then
    (geti t0 i).bind fun e =>
    again (t0, (imax m e), (IntKind.wrap .i64 (i + (1 : Int))), ())
  else
    k0 (m, ())

/-- slices.Max[[]int,int] -/
def s73 (n : Nat) (x : List Int) : Option (Int) :=
  bif (decide (((List.length x : Nat) : Int) < (1 : Int))) then
    none
  else
    (geti x (0 : Int)).bind fun e =>
    loopG (s73_l0 n) n (x, e, (1 : Int), ())
      (fun (m_1, _) =>
        some (m_1), ())

def s73_t0 : Templ := ⟨25, [(.slice (.int .i64)), (.int .i64), (.int .i64)], [(0, .v (.hole (.slice (.int .i64)))), (3, .v (.hole (.int .i64))), (4, .v (.hole (.int .i64)))], [], []⟩
def s73_x0 : List (Way × Templ) := [(.exit 0, ⟨25, [(.int .i64)], [(3, .v (.hole (.int .i64)))], [], []⟩)]
def s73_o0 (n : Nat) : Ev (denL [(.int .i64)]) := loopO n (e40 n) s73_t0 s73_x0 (s73_l0 n)
theorem s73_b0 (n : Nat) (d) (again) (ks) : codeR (R := (denL [(.int .i64)])) (e40 n) (Hdl.no (R := (denL [(.int .i64)]))) (inn (lp (bd Go.Proofs.Tryd.f73) 0)) [] (mk s73_t0 d) (turnR (e40 n) s73_t0 s73_x0 again ks) = s73_l0 n d again ks := by kernel_rfl
theorem s73_s0 (n : Nat) : Sound Go.Proofs.Tryd.prog (Hdl.no (R := (denL [(.int .i64)]))) false (lp (bd Go.Proofs.Tryd.f73) 0) (s73_o0 n) := loop_ok (h40 n) hP (by kernel_rfl) (O := []) trivial (s73_b0 n)
def s73_c (n : Nat) : Con := ⟨[(.slice (.int .i64))], [], [(.int .i64)], fun x y => s73 n x, false⟩
theorem s73_eq (n : Nat) (x : denL [(.slice (.int .i64))]) (y : denL []) : funR (e40 n) Go.Proofs.Tryd.f73 [(.slice (.int .i64))] [] [(.int .i64)] false [s73_o0 n] x y = (s73_c n).fn x y := by kernel_rfl
theorem s73_ok (n : Nat) : ConOK Go.Proofs.Tryd.prog 73 (s73_c n) := func_ok (h40 n) hP Go.Proofs.Tryd.func73 (by kernel_rfl) (by kernel_rfl) (O := [s73_o0 n]) ⟨s73_s0 n, trivial⟩ (s73_eq n)
def e41 (n : Nat) : Env := ⟨gT, (73, s73_c n) :: (e40 n).C, gQ, (e40 n).I, (e40 n).M, (e40 n).S, (e40 n).D, [], (e40 n).O, []⟩
theorem h41 (n : Nat) : EnvOK Go.Proofs.Tryd.prog (e41 n) := env_add (h40 n) (s73_ok n)

def s74_l0 (n : Nat) (d : (List Int) × Int × Int × Int × Unit) (again : ((List Int) × Int × Int × Int × Unit) → Option (Int)) (ks : (Unit → Option (Int)) × (Int × Unit → Option (Int)) × Unit) : Option (Int) :=
  match d, ks with
  | (s, v, t7, t8, _), (k0, k1, _) =>
  bif (decide (t8 < t7)) then
    (geti s t8).bind fun e =>
    bif (v == e) then
      k1 (t8, ())
    else
      again (s, v, t7, (IntKind.wrap .i64 (t8 + (1 : Int))), ())
  else
    k0 (())

/-- slices.Index[[]int,int] -/
def s74 (n : Nat) (s : List Int) (v : Int) : Option (Int) :=
  loopG (s74_l0 n) n (s, v, ((List.length s : Nat) : Int), (0 : Int), ())
    (fun (_) =>
      some ((-1 : Int)),
    fun (t4, _) =>
      some (t4), ())

def s74_t0 : Templ := ⟨19, [(.slice (.int .i64)), (.int .i64), (.int .i64), (.int .i64)], [(0, .v (.hole (.slice (.int .i64)))), (1, .v (.hole (.int .i64))), (7, .v (.hole (.int .i64))), (8, .v (.hole (.int .i64)))], [], []⟩
def s74_x0 : List (Way × Templ) := [(.exit 0, ⟨19, [], [], [], []⟩), (.ret, ⟨19, [(.int .i64)], [(4, .v (.hole (.int .i64)))], [], []⟩)]
def s74_o0 (n : Nat) : Ev (denL [(.int .i64)]) := loopO n (e41 n) s74_t0 s74_x0 (s74_l0 n)
theorem s74_b0 (n : Nat) (d) (again) (ks) : codeR (R := (denL [(.int .i64)])) (e41 n) (Hdl.no (R := (denL [(.int .i64)]))) (inn (lp (bd Go.Proofs.Tryd.f74) 0)) [] (mk s74_t0 d) (turnR (e41 n) s74_t0 s74_x0 again ks) = s74_l0 n d again ks := by kernel_rfl
theorem s74_s0 (n : Nat) : Sound Go.Proofs.Tryd.prog (Hdl.no (R := (denL [(.int .i64)]))) false (lp (bd Go.Proofs.Tryd.f74) 0) (s74_o0 n) := loop_ok (h41 n) hP (by kernel_rfl) (O := []) trivial (s74_b0 n)
def s74_c (n : Nat) : Con := ⟨[(.slice (.int .i64)), (.int .i64)], [], [(.int .i64)], fun x y => s74 n x.1 x.2, false⟩
theorem s74_eq (n : Nat) (x : denL [(.slice (.int .i64)), (.int .i64)]) (y : denL []) : funR (e41 n) Go.Proofs.Tryd.f74 [(.slice (.int .i64)), (.int .i64)] [] [(.int .i64)] false [s74_o0 n] x y = (s74_c n).fn x y := by kernel_rfl
theorem s74_ok (n : Nat) : ConOK Go.Proofs.Tryd.prog 74 (s74_c n) := func_ok (h41 n) hP Go.Proofs.Tryd.func74 (by kernel_rfl) (by kernel_rfl) (O := [s74_o0 n]) ⟨s74_s0 n, trivial⟩ (s74_eq n)
def e42 (n : Nat) : Env := ⟨gT, (74, s74_c n) :: (e41 n).C, gQ, (e41 n).I, (e41 n).M, (e41 n).S, (e41 n).D, [], (e41 n).O, []⟩
theorem h42 (n : Nat) : EnvOK Go.Proofs.Tryd.prog (e42 n) := env_add (h41 n) (s74_ok n)

/-- slices.Contains[[]int,int] -/
def s75 (n : Nat) (s : List Int) (v : Int) : Option (Bool) :=
  (s74 n s v).bind fun x =>
  some ((decide (x ≥ (0 : Int))))

def s75_c (n : Nat) : Con := ⟨[(.slice (.int .i64)), (.int .i64)], [], [.bool], fun x y => s75 n x.1 x.2, false⟩
theorem s75_eq (n : Nat) (x : denL [(.slice (.int .i64)), (.int .i64)]) (y : denL []) : funR (e42 n) Go.Proofs.Tryd.f75 [(.slice (.int .i64)), (.int .i64)] [] [.bool] false [] x y = (s75_c n).fn x y := by kernel_rfl
theorem s75_ok (n : Nat) : ConOK Go.Proofs.Tryd.prog 75 (s75_c n) := func_ok (h42 n) hP Go.Proofs.Tryd.func75 (by kernel_rfl) (by kernel_rfl) (O := []) trivial (s75_eq n)
def e43 (n : Nat) : Env := ⟨gT, (75, s75_c n) :: (e42 n).C, gQ, (e42 n).I, (e42 n).M, (e42 n).S, (e42 n).D, [], (e42 n).O, []⟩
theorem h43 (n : Nat) : EnvOK Go.Proofs.Tryd.prog (e43 n) := env_add (h42 n) (s75_ok n)

/-- (criadera/taste.panel).mark -/
def s45 (n : Nat) (p : Int × Int × (List Int) × (List (List Int))) (cask : Int) (tasters : List Int) : Option (Int) :=
  (s72 n (p.1, (p.2.1, (p.2.2.1, p.2.2.2))) cask tasters).bind fun x =>
  (s73 n x).bind fun x_1 =>
  (s74 n x x_1).bind fun x_2 =>
  (part (!(x_1 == (0 : Int))) (cut x (IntKind.wrap .i64 (x_2 + (1 : Int))) ((List.length x : Nat) : Int)) []).bind fun x_3 =>
  (part (!(x_1 == (0 : Int))) (s75 n x_3 x_1) false).bind fun x_4 =>
  bif ((x_1 == (0 : Int)) || x_4) then
    some ((-1 : Int))
  else
    some (x_2)

def s45_c (n : Nat) : Con := ⟨[(.pair (.int .i64) (.pair (.int .i64) (.pair (.slice (.int .i64)) (.slice (.slice (.int .i64)))))), (.int .i64), (.slice (.int .i64))], [], [(.int .i64)], fun x y => s45 n x.1 x.2.1 x.2.2, false⟩
theorem s45_eq (n : Nat) (x : denL [(.pair (.int .i64) (.pair (.int .i64) (.pair (.slice (.int .i64)) (.slice (.slice (.int .i64)))))), (.int .i64), (.slice (.int .i64))]) (y : denL []) : funR (e43 n) Go.Proofs.Tryd.f45 [(.pair (.int .i64) (.pair (.int .i64) (.pair (.slice (.int .i64)) (.slice (.slice (.int .i64)))))), (.int .i64), (.slice (.int .i64))] [] [(.int .i64)] false [] x y = (s45_c n).fn x y := by kernel_rfl
theorem s45_ok (n : Nat) : ConOK Go.Proofs.Tryd.prog 45 (s45_c n) := func_ok (h43 n) hP Go.Proofs.Tryd.func45 (by kernel_rfl) (by kernel_rfl) (O := []) trivial (s45_eq n)
def e44 (n : Nat) : Env := ⟨gT, (45, s45_c n) :: (e43 n).C, gQ, (e43 n).I, (e43 n).M, (e43 n).S, (e43 n).D, [], (e43 n).O, []⟩
theorem h44 (n : Nat) : EnvOK Go.Proofs.Tryd.prog (e44 n) := env_add (h43 n) (s45_ok n)

/-- criadera/taste.MarkOf -/
def s18 (n : Nat) (p : Int × Int × (List Int) × (List (List Int))) (cask : Int) (tasters : List Int) : Option (Int × Int) :=
  (s44 n (p.1, (p.2.1, (p.2.2.1, p.2.2.2))) cask tasters).bind fun x =>
  bif (x.2 != (0 : Int)) then
    some ((0 : Int), x.2)
  else
    (s45 n (x.1.1, (x.1.2.1, (x.1.2.2.1, x.1.2.2.2))) cask tasters).bind fun x_1 =>
    bif (decide (x_1 < (0 : Int))) then
      some ((0 : Int), (12 : Int))
    else
      some (x_1, (0 : Int))

def s18_c (n : Nat) : Con := ⟨[(.pair (.int .i64) (.pair (.int .i64) (.pair (.slice (.int .i64)) (.slice (.slice (.int .i64)))))), (.int .i64), (.slice (.int .i64))], [], [(.int .i64), (.int .i64)], fun x y => s18 n x.1 x.2.1 x.2.2, false⟩
theorem s18_eq (n : Nat) (x : denL [(.pair (.int .i64) (.pair (.int .i64) (.pair (.slice (.int .i64)) (.slice (.slice (.int .i64)))))), (.int .i64), (.slice (.int .i64))]) (y : denL []) : funR (e44 n) Go.Proofs.Tryd.f18 [(.pair (.int .i64) (.pair (.int .i64) (.pair (.slice (.int .i64)) (.slice (.slice (.int .i64)))))), (.int .i64), (.slice (.int .i64))] [] [(.int .i64), (.int .i64)] false [] x y = (s18_c n).fn x y := by kernel_rfl
theorem s18_ok (n : Nat) : ConOK Go.Proofs.Tryd.prog 18 (s18_c n) := func_ok (h44 n) hP Go.Proofs.Tryd.func18 (by kernel_rfl) (by kernel_rfl) (O := []) trivial (s18_eq n)
def e45 (n : Nat) : Env := ⟨gT, (18, s18_c n) :: (e44 n).C, gQ, (e44 n).I, (e44 n).M, (e44 n).S, (e44 n).D, [], (e44 n).O, []⟩
theorem h45 (n : Nat) : EnvOK Go.Proofs.Tryd.prog (e45 n) := env_add (h44 n) (s18_ok n)

def s19_l0 (n : Nat) (d : (List Int) × (List Int) × Int × Unit) (again : ((List Int) × (List Int) × Int × Unit) → Option (Bool)) (ks : (Unit → Option (Bool)) × (Bool × Unit → Option (Bool)) × Unit) : Option (Bool) :=
  match d, ks with
  | (a, b, i, _), (k0, k1, _) =>
  bif (decide (i < ((List.length a : Nat) : Int))) then
    (geti a i).bind fun e =>
    (geti b i).bind fun e_1 =>
    bif (e != e_1) then
      k1 (false, ())
    else
      again (a, b, (IntKind.wrap .i64 (i + (1 : Int))), ())
  else
    k0 (())

/-- criadera/criaderabase.Ints -/
def s19 (n : Nat) (a : List Int) (b : List Int) : Option (Bool) :=
  bif (((List.length a : Nat) : Int) != ((List.length b : Nat) : Int)) then
    some (false)
  else
    loopG (s19_l0 n) n (a, b, (0 : Int), ())
      (fun (_) =>
        some (true),
      fun (t4, _) =>
        some (t4), ())

def s19_t0 : Templ := ⟨26, [(.slice (.int .i64)), (.slice (.int .i64)), (.int .i64)], [(0, .v (.hole (.slice (.int .i64)))), (1, .v (.hole (.slice (.int .i64)))), (5, .v (.hole (.int .i64)))], [], []⟩
def s19_x0 : List (Way × Templ) := [(.exit 0, ⟨26, [], [], [], []⟩), (.ret, ⟨26, [.bool], [(4, .v (.hole .bool))], [], []⟩)]
def s19_o0 (n : Nat) : Ev (denL [.bool]) := loopO n (e45 n) s19_t0 s19_x0 (s19_l0 n)
theorem s19_b0 (n : Nat) (d) (again) (ks) : codeR (R := (denL [.bool])) (e45 n) (Hdl.no (R := (denL [.bool]))) (inn (lp (bd Go.Proofs.Tryd.f19) 0)) [] (mk s19_t0 d) (turnR (e45 n) s19_t0 s19_x0 again ks) = s19_l0 n d again ks := by kernel_rfl
theorem s19_s0 (n : Nat) : Sound Go.Proofs.Tryd.prog (Hdl.no (R := (denL [.bool]))) false (lp (bd Go.Proofs.Tryd.f19) 0) (s19_o0 n) := loop_ok (h45 n) hP (by kernel_rfl) (O := []) trivial (s19_b0 n)
def s19_c (n : Nat) : Con := ⟨[(.slice (.int .i64)), (.slice (.int .i64))], [], [.bool], fun x y => s19 n x.1 x.2, false⟩
theorem s19_eq (n : Nat) (x : denL [(.slice (.int .i64)), (.slice (.int .i64))]) (y : denL []) : funR (e45 n) Go.Proofs.Tryd.f19 [(.slice (.int .i64)), (.slice (.int .i64))] [] [.bool] false [s19_o0 n] x y = (s19_c n).fn x y := by kernel_rfl
theorem s19_ok (n : Nat) : ConOK Go.Proofs.Tryd.prog 19 (s19_c n) := func_ok (h45 n) hP Go.Proofs.Tryd.func19 (by kernel_rfl) (by kernel_rfl) (O := [s19_o0 n]) ⟨s19_s0 n, trivial⟩ (s19_eq n)
def e46 (n : Nat) : Env := ⟨gT, (19, s19_c n) :: (e45 n).C, gQ, (e45 n).I, (e45 n).M, (e45 n).S, (e45 n).D, [], (e45 n).O, []⟩
theorem h46 (n : Nat) : EnvOK Go.Proofs.Tryd.prog (e46 n) := env_add (h45 n) (s19_ok n)

/-- criadera/criaderalaw07.awake -/
def s4 (n : Nat) : Option (Bool) :=
  (s14 n).bind fun x =>
  (s13 n x ([98, 117, 116, 116], ([(1 : Int), (1 : Int), (0 : Int)] : List Int))).bind fun x_1 =>
  (s14 n).bind fun x_2 =>
  (s15 n x_2 (2 : Int)).bind fun x_3 =>
  (s17 n).bind fun x_4 =>
  (s16 n x_4 (0 : Int)).bind fun x_5 =>
  (s17 n).bind fun x_6 =>
  (s18 n x_6 (1 : Int) ([(0 : Int), (1 : Int)] : List Int)).bind fun x_7 =>
  (part (((x_1.2 == (0 : Int)) && ((x_1.1 : List UInt8) == [111, 108, 111, 114, 111, 115, 111])) && (x_3.2 == (0 : Int))) (s19 n x_3.1 ([(1 : Int)] : List Int)) false).bind fun x_8 =>
  some (((((((((x_1.2 == (0 : Int)) && ((x_1.1 : List UInt8) == [111, 108, 111, 114, 111, 115, 111])) && (x_3.2 == (0 : Int))) && x_8) && (x_5.2 == (0 : Int))) && ((x_5.1.1 == (1 : Int)) && (x_5.1.2 == (4 : Int)))) && (x_7.2 == (0 : Int))) && (x_7.1 == (1 : Int))))

def s4_c (n : Nat) : Con := ⟨[], [], [.bool], fun x y => s4 n, false⟩
theorem s4_eq (n : Nat) (x : denL []) (y : denL []) : funR (e46 n) Go.Proofs.Tryd.f4 [] [] [.bool] false [] x y = (s4_c n).fn x y := by kernel_rfl
theorem s4_ok (n : Nat) : ConOK Go.Proofs.Tryd.prog 4 (s4_c n) := func_ok (h46 n) hP Go.Proofs.Tryd.func4 (by kernel_rfl) (by kernel_rfl) (O := []) trivial (s4_eq n)
def e47 (n : Nat) : Env := ⟨gT, (4, s4_c n) :: (e46 n).C, gQ, (e46 n).I, (e46 n).M, (e46 n).S, (e46 n).D, [], (e46 n).O, []⟩
theorem h47 (n : Nat) : EnvOK Go.Proofs.Tryd.prog (e47 n) := env_add (h46 n) (s4_ok n)

def s5_l0 (n : Nat) (d : Int × (List (List UInt8)) × Int × (List ((List UInt8) × (List Int) × (List (List UInt8)))) × Unit) (again : (Int × (List (List UInt8)) × Int × (List ((List UInt8) × (List Int) × (List (List UInt8)))) × Unit) → Option (Bool)) (ks : ((List (List UInt8)) × Int × (List ((List UInt8) × (List Int) × (List (List UInt8)))) × Unit → Option (Bool)) × (Bool × Unit → Option (Bool)) × Unit) : Option (Bool) :=
  match d, ks with
  | (i, b, b_1, b_2, _), (k0, k1, _) =>
  bif (decide (i < ((List.length b : Nat) : Int))) then
    (geti b i).bind fun e =>
    bif (decide (((List.length e : Nat) : Int) > (20 : Int))) then
      k1 (false, ())
    else
      again ((IntKind.wrap .i64 (i + (1 : Int))), b, b_1, b_2, ())
  else
    k0 (b, b_1, b_2, ())

def s5_l1_0 (n : Nat) (d : Int × Int × (List (List UInt8)) × Int × (List ((List UInt8) × (List Int) × (List (List UInt8)))) × (List UInt8) × (List Int) × (List (List UInt8)) × Unit) (again : (Int × Int × (List (List UInt8)) × Int × (List ((List UInt8) × (List Int) × (List (List UInt8)))) × (List UInt8) × (List Int) × (List (List UInt8)) × Unit) → Option (Bool)) (ks : (Int × (List (List UInt8)) × Int × (List ((List UInt8) × (List Int) × (List (List UInt8)))) × Unit → Option (Bool)) × (Bool × Unit → Option (Bool)) × Unit) : Option (Bool) :=
  match d, ks with
  | (i, v_k, b, b_1, b_2, c, c_1, c_2, _), (k0, k1, _) =>
  bif (decide (v_k < ((List.length c_2 : Nat) : Int))) then
    (geti c_2 v_k).bind fun e =>
    bif (decide (((List.length e : Nat) : Int) > (20 : Int))) then
      k1 (false, ())
    else
      again (i, (IntKind.wrap .i64 (v_k + (1 : Int))), b, b_1, b_2, c, c_1, c_2, ())
  else
    k0 (i, b, b_1, b_2, ())

def s5_l1 (n : Nat) (d : Int × (List (List UInt8)) × Int × (List ((List UInt8) × (List Int) × (List (List UInt8)))) × Unit) (again : (Int × (List (List UInt8)) × Int × (List ((List UInt8) × (List Int) × (List (List UInt8)))) × Unit) → Option (Bool)) (ks : (Unit → Option (Bool)) × (Bool × Unit → Option (Bool)) × Unit) : Option (Bool) :=
  match d, ks with
  | (i, b, b_1, b_2, _), (k0, k1, _) =>
  bif (decide (i < ((List.length b_2 : Nat) : Int))) then
    (geti b_2 i).bind fun e =>
    bif (((decide (((List.length e.1 : Nat) : Int) > (20 : Int))) || (decide (((List.length e.2.1 : Nat) : Int) > (8 : Int)))) || (decide (((List.length e.2.2 : Nat) : Int) > (8 : Int)))) then
      k1 (false, ())
    else
      loopG (s5_l1_0 n) n (i, (0 : Int), b, b_1, b_2, e.1, e.2.1, e.2.2, ())
        (fun (i_2, b_6, b_7, b_8, _) =>
          again ((IntKind.wrap .i64 (i_2 + (1 : Int))), b_6, b_7, b_8, ()),
        fun (t2, _) =>
          k1 (t2, ()), ())
  else
    k0 (())

/-- criadera/criaderalaw07.Few -/
def s5 (n : Nat) (b : (List (List UInt8)) × Int × (List ((List UInt8) × (List Int) × (List (List UInt8))))) : Option (Bool) :=
  bif ((decide (((List.length b.1 : Nat) : Int) > (8 : Int))) || (decide (((List.length b.2.2 : Nat) : Int) > (10 : Int)))) then
    some (false)
  else
    loopG (s5_l0 n) n ((0 : Int), b.1, b.2.1, b.2.2, ())
      (fun (b_4, b_5, b_6, _) =>
        loopG (s5_l1 n) n ((0 : Int), b_4, b_5, b_6, ())
          (fun (_) =>
            some (true),
          fun (t2_1, _) =>
            some (t2_1), ()),
      fun (t2_2, _) =>
        some (t2_2), ())

def s5_t1_0 : Templ := ⟨73, [(.int .i64), (.int .i64), (.slice .str), (.int .i64), (.slice (.pair .str (.pair (.slice (.int .i64)) (.slice .str)))), .str, (.slice (.int .i64)), (.slice .str)], [(1, .v (.bptr 73 0)), (4, .v (.hole (.int .i64))), (5, .v (.bptr 74 0)), (6, .v (.hole (.int .i64)))], [(73, .box (.pair (.slice .str) (.pair (.int .i64) (.slice (.pair .str (.pair (.slice (.int .i64)) (.slice .str)))))) [.hole (.slice .str), .hole (.int .i64), .hole (.slice (.pair .str (.pair (.slice (.int .i64)) (.slice .str))))]), (74, .box (.pair .str (.pair (.slice (.int .i64)) (.slice .str))) [.hole .str, .hole (.slice (.int .i64)), .hole (.slice .str)])], []⟩
def s5_x1_0 : List (Way × Templ) := [(.exit 4, ⟨73, [(.int .i64), (.slice .str), (.int .i64), (.slice (.pair .str (.pair (.slice (.int .i64)) (.slice .str))))], [(1, .v (.bptr 73 0)), (4, .v (.hole (.int .i64)))], [(73, .box (.pair (.slice .str) (.pair (.int .i64) (.slice (.pair .str (.pair (.slice (.int .i64)) (.slice .str)))))) [.hole (.slice .str), .hole (.int .i64), .hole (.slice (.pair .str (.pair (.slice (.int .i64)) (.slice .str))))])], []⟩), (.ret, ⟨73, [.bool], [(2, .v (.hole .bool))], [], []⟩)]
def s5_o1_0 (n : Nat) : Ev (denL [.bool]) := loopO n (e47 n) s5_t1_0 s5_x1_0 (s5_l1_0 n)
theorem s5_b1_0 (n : Nat) (d) (again) (ks) : codeR (R := (denL [.bool])) (e47 n) (Hdl.no (R := (denL [.bool]))) (inn (lp (inn (lp (bd Go.Proofs.Tryd.f5) 1)) 0)) [] (mk s5_t1_0 d) (turnR (e47 n) s5_t1_0 s5_x1_0 again ks) = s5_l1_0 n d again ks := by kernel_rfl
theorem s5_s1_0 (n : Nat) : Sound Go.Proofs.Tryd.prog (Hdl.no (R := (denL [.bool]))) false (lp (inn (lp (bd Go.Proofs.Tryd.f5) 1)) 0) (s5_o1_0 n) := loop_ok (h47 n) hP (by kernel_rfl) (O := []) trivial (s5_b1_0 n)
def s5_t0 : Templ := ⟨73, [(.int .i64), (.slice .str), (.int .i64), (.slice (.pair .str (.pair (.slice (.int .i64)) (.slice .str))))], [(1, .v (.bptr 73 0)), (3, .v (.hole (.int .i64)))], [(73, .box (.pair (.slice .str) (.pair (.int .i64) (.slice (.pair .str (.pair (.slice (.int .i64)) (.slice .str)))))) [.hole (.slice .str), .hole (.int .i64), .hole (.slice (.pair .str (.pair (.slice (.int .i64)) (.slice .str))))])], []⟩
def s5_x0 : List (Way × Templ) := [(.exit 0, ⟨73, [(.slice .str), (.int .i64), (.slice (.pair .str (.pair (.slice (.int .i64)) (.slice .str))))], [(1, .v (.bptr 73 0))], [(73, .box (.pair (.slice .str) (.pair (.int .i64) (.slice (.pair .str (.pair (.slice (.int .i64)) (.slice .str)))))) [.hole (.slice .str), .hole (.int .i64), .hole (.slice (.pair .str (.pair (.slice (.int .i64)) (.slice .str))))])], []⟩), (.ret, ⟨73, [.bool], [(2, .v (.hole .bool))], [], []⟩)]
def s5_o0 (n : Nat) : Ev (denL [.bool]) := loopO n (e47 n) s5_t0 s5_x0 (s5_l0 n)
theorem s5_b0 (n : Nat) (d) (again) (ks) : codeR (R := (denL [.bool])) (e47 n) (Hdl.no (R := (denL [.bool]))) (inn (lp (bd Go.Proofs.Tryd.f5) 0)) [] (mk s5_t0 d) (turnR (e47 n) s5_t0 s5_x0 again ks) = s5_l0 n d again ks := by kernel_rfl
theorem s5_s0 (n : Nat) : Sound Go.Proofs.Tryd.prog (Hdl.no (R := (denL [.bool]))) false (lp (bd Go.Proofs.Tryd.f5) 0) (s5_o0 n) := loop_ok (h47 n) hP (by kernel_rfl) (O := []) trivial (s5_b0 n)
def s5_t1 : Templ := ⟨73, [(.int .i64), (.slice .str), (.int .i64), (.slice (.pair .str (.pair (.slice (.int .i64)) (.slice .str))))], [(1, .v (.bptr 73 0)), (4, .v (.hole (.int .i64)))], [(73, .box (.pair (.slice .str) (.pair (.int .i64) (.slice (.pair .str (.pair (.slice (.int .i64)) (.slice .str)))))) [.hole (.slice .str), .hole (.int .i64), .hole (.slice (.pair .str (.pair (.slice (.int .i64)) (.slice .str))))])], []⟩
def s5_x1 : List (Way × Templ) := [(.exit 2, ⟨73, [], [], [], []⟩), (.ret, ⟨73, [.bool], [(2, .v (.hole .bool))], [], []⟩)]
def s5_o1 (n : Nat) : Ev (denL [.bool]) := loopO n (e47 n) s5_t1 s5_x1 (s5_l1 n)
theorem s5_b1 (n : Nat) (d) (again) (ks) : codeR (R := (denL [.bool])) (e47 n) (Hdl.no (R := (denL [.bool]))) (inn (lp (bd Go.Proofs.Tryd.f5) 1)) [s5_o1_0 n] (mk s5_t1 d) (turnR (e47 n) s5_t1 s5_x1 again ks) = s5_l1 n d again ks := by kernel_rfl
theorem s5_s1 (n : Nat) : Sound Go.Proofs.Tryd.prog (Hdl.no (R := (denL [.bool]))) false (lp (bd Go.Proofs.Tryd.f5) 1) (s5_o1 n) := loop_ok (h47 n) hP (by kernel_rfl) (O := [s5_o1_0 n]) ⟨s5_s1_0 n, trivial⟩ (s5_b1 n)
def s5_c (n : Nat) : Con := ⟨[(.pair (.slice .str) (.pair (.int .i64) (.slice (.pair .str (.pair (.slice (.int .i64)) (.slice .str))))))], [], [.bool], fun x y => s5 n x, false⟩
theorem s5_eq (n : Nat) (x : denL [(.pair (.slice .str) (.pair (.int .i64) (.slice (.pair .str (.pair (.slice (.int .i64)) (.slice .str))))))]) (y : denL []) : funR (e47 n) Go.Proofs.Tryd.f5 [(.pair (.slice .str) (.pair (.int .i64) (.slice (.pair .str (.pair (.slice (.int .i64)) (.slice .str))))))] [] [.bool] false [s5_o0 n, s5_o1 n] x y = (s5_c n).fn x y := by kernel_rfl
theorem s5_ok (n : Nat) : ConOK Go.Proofs.Tryd.prog 5 (s5_c n) := func_ok (h47 n) hP Go.Proofs.Tryd.func5 (by kernel_rfl) (by kernel_rfl) (O := [s5_o0 n, s5_o1 n]) ⟨s5_s0 n, s5_s1 n, trivial⟩ (s5_eq n)
def e48 (n : Nat) : Env := ⟨gT, (5, s5_c n) :: (e47 n).C, gQ, (e47 n).I, (e47 n).M, (e47 n).S, (e47 n).D, [], (e47 n).O, []⟩
theorem h48 (n : Nat) : EnvOK Go.Proofs.Tryd.prog (e48 n) := env_add (h47 n) (s5_ok n)

/-- criadera/criaderabase.CopyTexts -/
def s22 (n : Nat) (l : List (List UInt8)) : Option ((List (List UInt8))) :=
  (chk (List.length ([] : List (List UInt8)) + List.length l)).bind fun u =>
  some ((([] : List (List UInt8)) ++ l))

def s22_c (n : Nat) : Con := ⟨[(.slice .str)], [], [(.slice .str)], fun x y => s22 n x, false⟩
theorem s22_eq (n : Nat) (x : denL [(.slice .str)]) (y : denL []) : funR (e48 n) Go.Proofs.Tryd.f22 [(.slice .str)] [] [(.slice .str)] false [] x y = (s22_c n).fn x y := by kernel_rfl
theorem s22_ok (n : Nat) : ConOK Go.Proofs.Tryd.prog 22 (s22_c n) := func_ok (h48 n) hP Go.Proofs.Tryd.func22 (by kernel_rfl) (by kernel_rfl) (O := []) trivial (s22_eq n)
def e49 (n : Nat) : Env := ⟨gT, (22, s22_c n) :: (e48 n).C, gQ, (e48 n).I, (e48 n).M, (e48 n).S, (e48 n).D, [], (e48 n).O, []⟩
theorem h49 (n : Nat) : EnvOK Go.Proofs.Tryd.prog (e49 n) := env_add (h48 n) (s22_ok n)

/-- criadera/criaderabase.CopyInts -/
def s23 (n : Nat) (l : List Int) : Option ((List Int)) :=
  (chk (List.length ([] : List Int) + List.length l)).bind fun u =>
  some (([] : List Int) ++ l)

def s23_c (n : Nat) : Con := ⟨[(.slice (.int .i64))], [], [(.slice (.int .i64))], fun x y => s23 n x, true⟩
theorem s23_eq (n : Nat) (x : denL [(.slice (.int .i64))]) (y : denL []) : funR (e49 n) Go.Proofs.Tryd.f23 [(.slice (.int .i64))] [] [(.slice (.int .i64))] true [] x y = (s23_c n).fn x y := by kernel_rfl
theorem s23_ok (n : Nat) : ConOK Go.Proofs.Tryd.prog 23 (s23_c n) := func_ok (h49 n) hP Go.Proofs.Tryd.func23 (by kernel_rfl) (by kernel_rfl) (O := []) trivial (s23_eq n)
def e50 (n : Nat) : Env := ⟨gT, (23, s23_c n) :: (e49 n).C, gQ, (e49 n).I, (e49 n).M, (e49 n).S, (e49 n).D, [], (e49 n).O, []⟩
theorem h50 (n : Nat) : EnvOK Go.Proofs.Tryd.prog (e50 n) := env_add (h49 n) (s23_ok n)

def s7_l0 (n : Nat) (d : Int × (List (List UInt8)) × Int × (List ((List UInt8) × (List Int) × (List (List UInt8)))) × Int × (List (List UInt8)) × Int × (List ((List UInt8) × (List Int) × (List (List UInt8)))) × Unit) (again : (Int × (List (List UInt8)) × Int × (List ((List UInt8) × (List Int) × (List (List UInt8)))) × Int × (List (List UInt8)) × Int × (List ((List UInt8) × (List Int) × (List (List UInt8)))) × Unit) → Option (((List (List UInt8)) × Int × (List ((List UInt8) × (List Int) × (List (List UInt8))))))) (ks : (Int × (List (List UInt8)) × Int × (List ((List UInt8) × (List Int) × (List (List UInt8)))) × Unit → Option (((List (List UInt8)) × Int × (List ((List UInt8) × (List Int) × (List (List UInt8))))))) × Unit) : Option (((List (List UInt8)) × Int × (List ((List UInt8) × (List Int) × (List (List UInt8)))))) :=
  match d, ks with
  | (i, b, b_1, b_2, t2, out, out_1, out_2, _), (k0, _) =>
  bif (decide (i < ((List.length b_2 : Nat) : Int))) then
    (geti b_2 i).bind fun e =>
    (s23 n e.2.1).bind fun x =>
    (s22 n e.2.2).bind fun x_1 =>
    (chk (List.length out_2 + List.length ([(e.1, (x, x_1))] : List ((List UInt8) × (List Int) × (List (List UInt8)))))).bind fun u =>
    again ((IntKind.wrap .i64 (i + (1 : Int))), b, b_1, b_2, t2, out, out_1, (out_2 ++ ([(e.1, (x, x_1))] : List ((List UInt8) × (List Int) × (List (List UInt8))))), ())
  else
    k0 (t2, out, out_1, out_2, ())

/-- criadera/criaderaref07.Copy -/
def s7 (n : Nat) (b : (List (List UInt8)) × Int × (List ((List UInt8) × (List Int) × (List (List UInt8))))) : Option (((List (List UInt8)) × Int × (List ((List UInt8) × (List Int) × (List (List UInt8)))))) :=
  (s22 n b.1).bind fun x =>
  loopG (s7_l0 n) n ((0 : Int), b.1, b.2.1, b.2.2, (0 : Int), x, b.2.1, ([] : List ((List UInt8) × (List Int) × (List (List UInt8)))), ())
    (fun (t2_1, out_3, out_4, out_5, _) =>
      some ((out_3, (out_4, out_5))), ())

def s7_t0 : Templ := ⟨39, [(.int .i64), (.slice .str), (.int .i64), (.slice (.pair .str (.pair (.slice (.int .i64)) (.slice .str)))), (.int .i64), (.slice .str), (.int .i64), (.slice (.pair .str (.pair (.slice (.int .i64)) (.slice .str))))], [(1, .v (.bptr 39 0)), (2, .v (.bptr 40 0)), (3, .v (.bptr 41 0)), (4, .v (.hole (.int .i64)))], [(39, .box (.pair (.slice .str) (.pair (.int .i64) (.slice (.pair .str (.pair (.slice (.int .i64)) (.slice .str)))))) [.hole (.slice .str), .hole (.int .i64), .hole (.slice (.pair .str (.pair (.slice (.int .i64)) (.slice .str))))]), (40, .box (.pair (.slice .str) (.pair (.int .i64) (.slice (.pair .str (.pair (.slice (.int .i64)) (.slice .str)))))) [.nils, .hole (.int .i64), .nils]), (41, .box (.pair (.slice .str) (.pair (.int .i64) (.slice (.pair .str (.pair (.slice (.int .i64)) (.slice .str)))))) [.hole (.slice .str), .hole (.int .i64), .hand 42]), (42, .buf (.pair .str (.pair (.slice (.int .i64)) (.slice .str))))], []⟩
def s7_x0 : List (Way × Templ) := [(.exit 0, ⟨39, [(.int .i64), (.slice .str), (.int .i64), (.slice (.pair .str (.pair (.slice (.int .i64)) (.slice .str))))], [(2, .v (.bptr 39 0)), (3, .v (.bptr 40 0))], [(39, .box (.pair (.slice .str) (.pair (.int .i64) (.slice (.pair .str (.pair (.slice (.int .i64)) (.slice .str)))))) [.nils, .hole (.int .i64), .nils]), (40, .box (.pair (.slice .str) (.pair (.int .i64) (.slice (.pair .str (.pair (.slice (.int .i64)) (.slice .str)))))) [.hole (.slice .str), .hole (.int .i64), .hand 41]), (41, .buf (.pair .str (.pair (.slice (.int .i64)) (.slice .str))))], []⟩)]
def s7_o0 (n : Nat) : Ev (denL [(.pair (.slice .str) (.pair (.int .i64) (.slice (.pair .str (.pair (.slice (.int .i64)) (.slice .str))))))]) := loopO n (e50 n) s7_t0 s7_x0 (s7_l0 n)
theorem s7_b0 (n : Nat) (d) (again) (ks) : codeR (R := (denL [(.pair (.slice .str) (.pair (.int .i64) (.slice (.pair .str (.pair (.slice (.int .i64)) (.slice .str))))))])) (e50 n) (Hdl.no (R := (denL [(.pair (.slice .str) (.pair (.int .i64) (.slice (.pair .str (.pair (.slice (.int .i64)) (.slice .str))))))]))) (inn (lp (bd Go.Proofs.Tryd.f7) 0)) [] (mk s7_t0 d) (turnR (e50 n) s7_t0 s7_x0 again ks) = s7_l0 n d again ks := by kernel_rfl
theorem s7_s0 (n : Nat) : Sound Go.Proofs.Tryd.prog (Hdl.no (R := (denL [(.pair (.slice .str) (.pair (.int .i64) (.slice (.pair .str (.pair (.slice (.int .i64)) (.slice .str))))))]))) false (lp (bd Go.Proofs.Tryd.f7) 0) (s7_o0 n) := loop_ok (h50 n) hP (by kernel_rfl) (O := []) trivial (s7_b0 n)
def s7_c (n : Nat) : Con := ⟨[(.pair (.slice .str) (.pair (.int .i64) (.slice (.pair .str (.pair (.slice (.int .i64)) (.slice .str))))))], [], [(.pair (.slice .str) (.pair (.int .i64) (.slice (.pair .str (.pair (.slice (.int .i64)) (.slice .str))))))], fun x y => s7 n x, false⟩
theorem s7_eq (n : Nat) (x : denL [(.pair (.slice .str) (.pair (.int .i64) (.slice (.pair .str (.pair (.slice (.int .i64)) (.slice .str))))))]) (y : denL []) : funR (e50 n) Go.Proofs.Tryd.f7 [(.pair (.slice .str) (.pair (.int .i64) (.slice (.pair .str (.pair (.slice (.int .i64)) (.slice .str))))))] [] [(.pair (.slice .str) (.pair (.int .i64) (.slice (.pair .str (.pair (.slice (.int .i64)) (.slice .str))))))] false [s7_o0 n] x y = (s7_c n).fn x y := by kernel_rfl
theorem s7_ok (n : Nat) : ConOK Go.Proofs.Tryd.prog 7 (s7_c n) := func_ok (h50 n) hP Go.Proofs.Tryd.func7 (by kernel_rfl) (by kernel_rfl) (O := [s7_o0 n]) ⟨s7_s0 n, trivial⟩ (s7_eq n)
def e51 (n : Nat) : Env := ⟨gT, (7, s7_c n) :: (e50 n).C, gQ, (e50 n).I, (e50 n).M, (e50 n).S, (e50 n).D, [], (e50 n).O, []⟩
theorem h51 (n : Nat) : EnvOK Go.Proofs.Tryd.prog (e51 n) := env_add (h50 n) (s7_ok n)

def e52 (n : Nat) : Env := ⟨gT, (21, s21_c n) :: (e51 n).C, gQ, (e51 n).I, (e51 n).M, (e51 n).S, (e51 n).D, [], (e51 n).O, []⟩
theorem h52 (n : Nat) : EnvOK Go.Proofs.Tryd.prog (e52 n) := env_add (h51 n) (s21_ok n)

def s6_l0_0 (n : Nat) (d : (List ((List UInt8) × (List Int) × (List (List UInt8)))) × Int × Int × (List Int) × Int × Int × (List (List UInt8)) × Int × (List ((List UInt8) × (List Int) × (List (List UInt8)))) × (List (List UInt8)) × (List UInt8) × (List Int) × (List (List UInt8)) × (List (List UInt8)) × Unit) (again : ((List ((List UInt8) × (List Int) × (List (List UInt8)))) × Int × Int × (List Int) × Int × Int × (List (List UInt8)) × Int × (List ((List UInt8) × (List Int) × (List (List UInt8)))) × (List (List UInt8)) × (List UInt8) × (List Int) × (List (List UInt8)) × (List (List UInt8)) × Unit) → Option ((List UInt8))) (ks : ((List ((List UInt8) × (List Int) × (List (List UInt8)))) × Int × Int × (List (List UInt8)) × Int × (List ((List UInt8) × (List Int) × (List (List UInt8)))) × (List (List UInt8)) × (List (List UInt8)) × Unit → Option ((List UInt8))) × Unit) : Option ((List UInt8)) :=
  match d, ks with
  | (t33, t34, t35, t43, t44, t45, b, b_1, b_2, lines, c, c_1, c_2, w, _), (k0, _) =>
  bif (decide (t45 < t44)) then
    (geti t43 t45).bind fun e =>
    (geti b_2 e).bind fun e_1 =>
    (chk (List.length e_1.1 + List.length [47])).bind fun u =>
    (geti c_2 t45).bind fun e_2 =>
    (chk (List.length (e_1.1 ++ [47]) + List.length e_2)).bind fun u_1 =>
    (chk (List.length w + List.length ([((e_1.1 ++ [47]) ++ e_2)] : List (List UInt8)))).bind fun u_2 =>
    again (t33, t34, t35, t43, t44, (IntKind.wrap .i64 (t45 + (1 : Int))), b, b_1, b_2, lines, c, c_1, c_2, (w ++ ([((e_1.1 ++ [47]) ++ e_2)] : List (List UInt8))), ())
  else
    k0 (t33, t34, t35, b, b_1, b_2, lines, w, ())

def s6_l0 (n : Nat) (d : (List ((List UInt8) × (List Int) × (List (List UInt8)))) × Int × Int × (List (List UInt8)) × Int × (List ((List UInt8) × (List Int) × (List (List UInt8)))) × (List (List UInt8)) × Unit) (again : ((List ((List UInt8) × (List Int) × (List (List UInt8)))) × Int × Int × (List (List UInt8)) × Int × (List ((List UInt8) × (List Int) × (List (List UInt8)))) × (List (List UInt8)) × Unit) → Option ((List UInt8))) (ks : ((List (List UInt8)) × Unit → Option ((List UInt8))) × Unit) : Option ((List UInt8)) :=
  match d, ks with
  | (t33, t34, t35, b, b_1, b_2, lines, _), (k0, _) =>
  bif (decide (t35 < t34)) then
    (geti t33 t35).bind fun e =>
    loopG (s6_l0_0 n) n (t33, t34, t35, e.2.1, ((List.length e.2.1 : Nat) : Int), (0 : Int), b, b_1, b_2, lines, e.1, e.2.1, e.2.2, ([[99, 108, 97, 115, 115], e.1] : List (List UInt8)), ())
      (fun (t33_2, t34_2, t35_2, b_6, b_7, b_8, lines_2, w_1, _) =>
        (s21 n w_1 [32]).bind fun x =>
        (chk (List.length lines_2 + List.length ([x] : List (List UInt8)))).bind fun u_3 =>
        again (t33_2, t34_2, (IntKind.wrap .i64 (t35_2 + (1 : Int))), b_6, b_7, b_8, (lines_2 ++ ([x] : List (List UInt8))), ()), ())
  else
    k0 (lines, ())

/-- criadera/taste.FormatBook -/
def s6 (n : Nat) (b : (List (List UInt8)) × Int × (List ((List UInt8) × (List Int) × (List (List UInt8))))) : Option ((List UInt8)) :=
  (s20 n (b.1, (b.2.1, b.2.2))).bind fun x =>
  bif (x.2 != (0 : Int)) then
    some ([])
  else
    (chk (List.length ([[109, 97, 114, 107, 115]] : List (List UInt8)) + List.length b.1)).bind fun u =>
    (s21 n (([[109, 97, 114, 107, 115]] : List (List UInt8)) ++ b.1) [32]).bind fun x_1 =>
    (geti b.2.2 b.2.1).bind fun e =>
    (chk (List.length [98, 101, 103, 105, 110, 32] + List.length e.1)).bind fun u_1 =>
    loopG (s6_l0 n) n (b.2.2, ((List.length b.2.2 : Nat) : Int), (0 : Int), b.1, b.2.1, b.2.2, ([x_1, ([98, 101, 103, 105, 110, 32] ++ e.1)] : List (List UInt8)), ())
      (fun (lines_3, _) =>
        (s21 n lines_3 [10]).bind fun x_3 =>
        (chk (List.length x_3 + List.length [10])).bind fun u_6 =>
        some ((x_3 ++ [10])), ())

def s6_t0_0 : Templ := ⟨76, [(.slice (.pair .str (.pair (.slice (.int .i64)) (.slice .str)))), (.int .i64), (.int .i64), (.slice (.int .i64)), (.int .i64), (.int .i64), (.slice .str), (.int .i64), (.slice (.pair .str (.pair (.slice (.int .i64)) (.slice .str)))), (.slice .str), .str, (.slice (.int .i64)), (.slice .str), (.slice .str)], [(1, .v (.bptr 76 0)), (5, .v (.hand 77)), (7, .v (.bptr 78 0)), (8, .v (.hand 79)), (33, .v (.hole (.slice (.pair .str (.pair (.slice (.int .i64)) (.slice .str)))))), (34, .v (.hole (.int .i64))), (35, .v (.hole (.int .i64))), (43, .v (.hole (.slice (.int .i64)))), (44, .v (.hole (.int .i64))), (45, .v (.hole (.int .i64)))], [(76, .box (.pair (.slice .str) (.pair (.int .i64) (.slice (.pair .str (.pair (.slice (.int .i64)) (.slice .str)))))) [.hole (.slice .str), .hole (.int .i64), .hole (.slice (.pair .str (.pair (.slice (.int .i64)) (.slice .str))))]), (77, .buf .str), (78, .box (.pair .str (.pair (.slice (.int .i64)) (.slice .str))) [.hole .str, .hole (.slice (.int .i64)), .hole (.slice .str)]), (79, .buf .str)], []⟩
def s6_x0_0 : List (Way × Templ) := [(.exit 2, ⟨76, [(.slice (.pair .str (.pair (.slice (.int .i64)) (.slice .str)))), (.int .i64), (.int .i64), (.slice .str), (.int .i64), (.slice (.pair .str (.pair (.slice (.int .i64)) (.slice .str)))), (.slice .str), (.slice .str)], [(1, .v (.bptr 76 0)), (5, .v (.hand 77)), (8, .v (.hand 78)), (33, .v (.hole (.slice (.pair .str (.pair (.slice (.int .i64)) (.slice .str)))))), (34, .v (.hole (.int .i64))), (35, .v (.hole (.int .i64)))], [(76, .box (.pair (.slice .str) (.pair (.int .i64) (.slice (.pair .str (.pair (.slice (.int .i64)) (.slice .str)))))) [.hole (.slice .str), .hole (.int .i64), .hole (.slice (.pair .str (.pair (.slice (.int .i64)) (.slice .str))))]), (77, .buf .str), (78, .buf .str)], []⟩)]
def s6_o0_0 (n : Nat) : Ev (denL [.str]) := loopO n (e52 n) s6_t0_0 s6_x0_0 (s6_l0_0 n)
theorem s6_b0_0 (n : Nat) (d) (again) (ks) : codeR (R := (denL [.str])) (e52 n) (Hdl.no (R := (denL [.str]))) (inn (lp (inn (lp (bd Go.Proofs.Tryd.f6) 0)) 0)) [] (mk s6_t0_0 d) (turnR (e52 n) s6_t0_0 s6_x0_0 again ks) = s6_l0_0 n d again ks := by kernel_rfl
theorem s6_s0_0 (n : Nat) : Sound Go.Proofs.Tryd.prog (Hdl.no (R := (denL [.str]))) false (lp (inn (lp (bd Go.Proofs.Tryd.f6) 0)) 0) (s6_o0_0 n) := loop_ok (h52 n) hP (by kernel_rfl) (O := []) trivial (s6_b0_0 n)
def s6_t0 : Templ := ⟨76, [(.slice (.pair .str (.pair (.slice (.int .i64)) (.slice .str)))), (.int .i64), (.int .i64), (.slice .str), (.int .i64), (.slice (.pair .str (.pair (.slice (.int .i64)) (.slice .str)))), (.slice .str)], [(1, .v (.bptr 76 0)), (5, .v (.hand 77)), (33, .v (.hole (.slice (.pair .str (.pair (.slice (.int .i64)) (.slice .str)))))), (34, .v (.hole (.int .i64))), (35, .v (.hole (.int .i64)))], [(76, .box (.pair (.slice .str) (.pair (.int .i64) (.slice (.pair .str (.pair (.slice (.int .i64)) (.slice .str)))))) [.hole (.slice .str), .hole (.int .i64), .hole (.slice (.pair .str (.pair (.slice (.int .i64)) (.slice .str))))]), (77, .buf .str)], []⟩
def s6_x0 : List (Way × Templ) := [(.exit 0, ⟨76, [(.slice .str)], [(5, .v (.hand 76))], [(76, .buf .str)], []⟩)]
def s6_o0 (n : Nat) : Ev (denL [.str]) := loopO n (e52 n) s6_t0 s6_x0 (s6_l0 n)
theorem s6_b0 (n : Nat) (d) (again) (ks) : codeR (R := (denL [.str])) (e52 n) (Hdl.no (R := (denL [.str]))) (inn (lp (bd Go.Proofs.Tryd.f6) 0)) [s6_o0_0 n] (mk s6_t0 d) (turnR (e52 n) s6_t0 s6_x0 again ks) = s6_l0 n d again ks := by kernel_rfl
theorem s6_s0 (n : Nat) : Sound Go.Proofs.Tryd.prog (Hdl.no (R := (denL [.str]))) false (lp (bd Go.Proofs.Tryd.f6) 0) (s6_o0 n) := loop_ok (h52 n) hP (by kernel_rfl) (O := [s6_o0_0 n]) ⟨s6_s0_0 n, trivial⟩ (s6_b0 n)
def s6_c (n : Nat) : Con := ⟨[(.pair (.slice .str) (.pair (.int .i64) (.slice (.pair .str (.pair (.slice (.int .i64)) (.slice .str))))))], [], [.str], fun x y => s6 n x, false⟩
theorem s6_eq (n : Nat) (x : denL [(.pair (.slice .str) (.pair (.int .i64) (.slice (.pair .str (.pair (.slice (.int .i64)) (.slice .str))))))]) (y : denL []) : funR (e52 n) Go.Proofs.Tryd.f6 [(.pair (.slice .str) (.pair (.int .i64) (.slice (.pair .str (.pair (.slice (.int .i64)) (.slice .str))))))] [] [.str] false [s6_o0 n] x y = (s6_c n).fn x y := by kernel_rfl
theorem s6_ok (n : Nat) : ConOK Go.Proofs.Tryd.prog 6 (s6_c n) := func_ok (h52 n) hP Go.Proofs.Tryd.func6 (by kernel_rfl) (by kernel_rfl) (O := [s6_o0 n]) ⟨s6_s0 n, trivial⟩ (s6_eq n)
def e53 (n : Nat) : Env := ⟨gT, (6, s6_c n) :: (e52 n).C, gQ, (e52 n).I, (e52 n).M, (e52 n).S, (e52 n).D, [], (e52 n).O, []⟩
theorem h53 (n : Nat) : EnvOK Go.Proofs.Tryd.prog (e53 n) := env_add (h52 n) (s6_ok n)

def e54 (n : Nat) : Env := ⟨gT, (80, s80_c n) :: (e53 n).C, gQ, (e53 n).I, (e53 n).M, (e53 n).S, (e53 n).D, [], (e53 n).O, []⟩
theorem h54 (n : Nat) : EnvOK Go.Proofs.Tryd.prog (e54 n) := env_add (h53 n) (s80_ok n)

def e55 (n : Nat) : Env := ⟨gT, (93, s93_c n) :: (e54 n).C, gQ, (e54 n).I, (e54 n).M, (e54 n).S, (e54 n).D, [], (e54 n).O, []⟩
theorem h55 (n : Nat) : EnvOK Go.Proofs.Tryd.prog (e55 n) := env_add (h54 n) (s93_ok n)

/-- strings.Index -/
def s81 (n : Nat) (s : List UInt8) (substr : List UInt8) : Option (Int) :=
  (s93 n s substr).bind fun x =>
  some (x)

def s81_c (n : Nat) : Con := ⟨[.str, .str], [], [(.int .i64)], fun x y => s81 n x.1 x.2, false⟩
theorem s81_eq (n : Nat) (x : denL [.str, .str]) (y : denL []) : funR (e55 n) Go.Proofs.Tryd.f81 [.str, .str] [] [(.int .i64)] false [] x y = (s81_c n).fn x y := by kernel_rfl
theorem s81_ok (n : Nat) : ConOK Go.Proofs.Tryd.prog 81 (s81_c n) := func_ok (h55 n) hP Go.Proofs.Tryd.func81 (by kernel_rfl) (by kernel_rfl) (O := []) trivial (s81_eq n)
def e56 (n : Nat) : Env := ⟨gT, (81, s81_c n) :: (e55 n).C, gQ, (e55 n).I, (e55 n).M, (e55 n).S, (e55 n).D, [], (e55 n).O, []⟩
theorem h56 (n : Nat) : EnvOK Go.Proofs.Tryd.prog (e56 n) := env_add (h55 n) (s81_ok n)

def e57 (n : Nat) : Env := ⟨gT, (58, s58_c n) :: (e56 n).C, gQ, (e56 n).I, (e56 n).M, (e56 n).S, (e56 n).D, [], (e56 n).O, []⟩
theorem h57 (n : Nat) : EnvOK Go.Proofs.Tryd.prog (e57 n) := env_add (h56 n) (s58_ok n)

def s56_l0 (n : Nat) (d : (List UInt8) × (List UInt8) × Int × Int × Int × (List (List UInt8)) × Unit) (again : ((List UInt8) × (List UInt8) × Int × Int × Int × (List (List UInt8)) × Unit) → Option ((List (List UInt8)))) (ks : ((List UInt8) × Int × (List (List UInt8)) × Unit → Option ((List (List UInt8)))) × Unit) : Option ((List (List UInt8))) :=
  match d, ks with
  | (s, sep, sepSave, v_n, i, a, _), (k0, _) =>
  bif (decide (i < v_n)) then
    (s81 n s sep).bind fun x =>
    bif (decide (x < (0 : Int))) then
      k0 (s, i, a, ())
    else
      (cut s 0 (IntKind.wrap .i64 (x + sepSave))).bind fun x_1 =>
      (geti a i).bind fun e =>
      (seti a i x_1).bind fun l =>
      (cut s (IntKind.wrap .i64 (x + ((List.length sep : Nat) : Int))) ((List.length s : Nat) : Int)).bind fun x_2 =>
      again (x_2, sep, sepSave, v_n, (IntKind.wrap .i64 (i + (1 : Int))), l, ())
  else
    k0 (s, i, a, ())

/-- strings.genSplit -/
def s56 (n : Nat) (s : List UInt8) (sep : List UInt8) (sepSave : Int) (v_n : Int) : Option ((List (List UInt8))) :=
  bif (v_n == (0 : Int)) then
    some (([] : List (List UInt8)))
  else
    bif ((sep : List UInt8) == []) then
      (s80 n s v_n).bind fun x =>
      some (x)
    else
      bif (decide (v_n < (0 : Int))) then
        (s58 n s sep).bind fun x_1 =>
        (chki (imin (IntKind.wrap .i64 (x_1 + (1 : Int))) (IntKind.wrap .i64 (((List.length s : Nat) : Int) + (1 : Int))))).bind fun u =>
        loopG (s56_l0 n) n (s, sep, sepSave, (IntKind.wrap .i64 ((imin (IntKind.wrap .i64 (x_1 + (1 : Int))) (IntKind.wrap .i64 (((List.length s : Nat) : Int) + (1 : Int)))) - (1 : Int))), (0 : Int), (List.replicate (Int.toNat (imin (IntKind.wrap .i64 (x_1 + (1 : Int))) (IntKind.wrap .i64 (((List.length s : Nat) : Int) + (1 : Int))))) []), ())
          (fun (s_2, i_1, a_1, _) =>
            (geti a_1 i_1).bind fun e_1 =>
            (seti a_1 i_1 s_2).bind fun l_1 =>
            (cut l_1 0 (IntKind.wrap .i64 (i_1 + (1 : Int)))).bind fun x_5 =>
            some (x_5), ())
      else
        (chki (imin v_n (IntKind.wrap .i64 (((List.length s : Nat) : Int) + (1 : Int))))).bind fun u_1 =>
        loopG (s56_l0 n) n (s, sep, sepSave, (IntKind.wrap .i64 ((imin v_n (IntKind.wrap .i64 (((List.length s : Nat) : Int) + (1 : Int)))) - (1 : Int))), (0 : Int), (List.replicate (Int.toNat (imin v_n (IntKind.wrap .i64 (((List.length s : Nat) : Int) + (1 : Int))))) []), ())
          (fun (s_4, i_3, a_3, _) =>
            (geti a_3 i_3).bind fun e_3 =>
            (seti a_3 i_3 s_4).bind fun l_3 =>
            (cut l_3 0 (IntKind.wrap .i64 (i_3 + (1 : Int)))).bind fun x_9 =>
            some (x_9), ())

def s56_t0 : Templ := ⟨66, [.str, .str, (.int .i64), (.int .i64), (.int .i64), (.slice .str)], [(0, .v (.hole .str)), (1, .v (.hole .str)), (2, .v (.hole (.int .i64))), (3, .v (.hole (.int .i64))), (9, .v (.hand 66)), (10, .v (.hole (.int .i64)))], [(66, .buf .str)], []⟩
def s56_x0 : List (Way × Templ) := [(.exit 0, ⟨66, [.str, (.int .i64), (.slice .str)], [(0, .v (.hole .str)), (9, .v (.hand 66)), (10, .v (.hole (.int .i64)))], [(66, .buf .str)], []⟩)]
def s56_o0 (n : Nat) : Ev (denL [(.slice .str)]) := loopO n (e57 n) s56_t0 s56_x0 (s56_l0 n)
theorem s56_b0 (n : Nat) (d) (again) (ks) : codeR (R := (denL [(.slice .str)])) (e57 n) (Hdl.no (R := (denL [(.slice .str)]))) (inn (lp (bd Go.Proofs.Tryd.f56) 0)) [] (mk s56_t0 d) (turnR (e57 n) s56_t0 s56_x0 again ks) = s56_l0 n d again ks := by kernel_rfl
theorem s56_s0 (n : Nat) : Sound Go.Proofs.Tryd.prog (Hdl.no (R := (denL [(.slice .str)]))) false (lp (bd Go.Proofs.Tryd.f56) 0) (s56_o0 n) := loop_ok (h57 n) hP (by kernel_rfl) (O := []) trivial (s56_b0 n)
def s56_c (n : Nat) : Con := ⟨[.str, .str, (.int .i64), (.int .i64)], [], [(.slice .str)], fun x y => s56 n x.1 x.2.1 x.2.2.1 x.2.2.2, false⟩
theorem s56_eq (n : Nat) (x : denL [.str, .str, (.int .i64), (.int .i64)]) (y : denL []) : funR (e57 n) Go.Proofs.Tryd.f56 [.str, .str, (.int .i64), (.int .i64)] [] [(.slice .str)] false [s56_o0 n] x y = (s56_c n).fn x y := by kernel_rfl
theorem s56_ok (n : Nat) : ConOK Go.Proofs.Tryd.prog 56 (s56_c n) := func_ok (h57 n) hP Go.Proofs.Tryd.func56 (by kernel_rfl) (by kernel_rfl) (O := [s56_o0 n]) ⟨s56_s0 n, trivial⟩ (s56_eq n)
def e58 (n : Nat) : Env := ⟨gT, (56, s56_c n) :: (e57 n).C, gQ, (e57 n).I, (e57 n).M, (e57 n).S, (e57 n).D, [], (e57 n).O, []⟩
theorem h58 (n : Nat) : EnvOK Go.Proofs.Tryd.prog (e58 n) := env_add (h57 n) (s56_ok n)

/-- strings.Split -/
def s24 (n : Nat) (s : List UInt8) (sep : List UInt8) : Option ((List (List UInt8))) :=
  (s56 n s sep (0 : Int) (-1 : Int)).bind fun x =>
  some (x)

def s24_c (n : Nat) : Con := ⟨[.str, .str], [], [(.slice .str)], fun x y => s24 n x.1 x.2, false⟩
theorem s24_eq (n : Nat) (x : denL [.str, .str]) (y : denL []) : funR (e58 n) Go.Proofs.Tryd.f24 [.str, .str] [] [(.slice .str)] false [] x y = (s24_c n).fn x y := by kernel_rfl
theorem s24_ok (n : Nat) : ConOK Go.Proofs.Tryd.prog 24 (s24_c n) := func_ok (h58 n) hP Go.Proofs.Tryd.func24 (by kernel_rfl) (by kernel_rfl) (O := []) trivial (s24_eq n)
def e59 (n : Nat) : Env := ⟨gT, (24, s24_c n) :: (e58 n).C, gQ, (e58 n).I, (e58 n).M, (e58 n).S, (e58 n).D, [], (e58 n).O, []⟩
theorem h59 (n : Nat) : EnvOK Go.Proofs.Tryd.prog (e59 n) := env_add (h58 n) (s24_ok n)

/-- internal/stringslite.Cut -/
def s84 (n : Nat) (s : List UInt8) (sep : List UInt8) : Option ((List UInt8) × (List UInt8) × Bool) :=
  (s93 n s sep).bind fun x =>
  bif (decide (x ≥ (0 : Int))) then
    (cut s 0 x).bind fun x_1 =>
    (cut s (IntKind.wrap .i64 (x + ((List.length sep : Nat) : Int))) ((List.length s : Nat) : Int)).bind fun x_2 =>
    some (x_1, x_2, true)
  else
    some (s, [], false)

def s84_c (n : Nat) : Con := ⟨[.str, .str], [], [.str, .str, .bool], fun x y => s84 n x.1 x.2, false⟩
theorem s84_eq (n : Nat) (x : denL [.str, .str]) (y : denL []) : funR (e59 n) Go.Proofs.Tryd.f84 [.str, .str] [] [.str, .str, .bool] false [] x y = (s84_c n).fn x y := by kernel_rfl
theorem s84_ok (n : Nat) : ConOK Go.Proofs.Tryd.prog 84 (s84_c n) := func_ok (h59 n) hP Go.Proofs.Tryd.func84 (by kernel_rfl) (by kernel_rfl) (O := []) trivial (s84_eq n)
def e60 (n : Nat) : Env := ⟨gT, (84, s84_c n) :: (e59 n).C, gQ, (e59 n).I, (e59 n).M, (e59 n).S, (e59 n).D, [], (e59 n).O, []⟩
theorem h60 (n : Nat) : EnvOK Go.Proofs.Tryd.prog (e60 n) := env_add (h59 n) (s84_ok n)

/-- strings.Cut -/
def s59 (n : Nat) (s : List UInt8) (sep : List UInt8) : Option ((List UInt8) × (List UInt8) × Bool) :=
  (s84 n s sep).bind fun x =>
  some (x.1, x.2.1, x.2.2)

def s59_c (n : Nat) : Con := ⟨[.str, .str], [], [.str, .str, .bool], fun x y => s59 n x.1 x.2, false⟩
theorem s59_eq (n : Nat) (x : denL [.str, .str]) (y : denL []) : funR (e60 n) Go.Proofs.Tryd.f59 [.str, .str] [] [.str, .str, .bool] false [] x y = (s59_c n).fn x y := by kernel_rfl
theorem s59_ok (n : Nat) : ConOK Go.Proofs.Tryd.prog 59 (s59_c n) := func_ok (h60 n) hP Go.Proofs.Tryd.func59 (by kernel_rfl) (by kernel_rfl) (O := []) trivial (s59_eq n)
def e61 (n : Nat) : Env := ⟨gT, (59, s59_c n) :: (e60 n).C, gQ, (e60 n).I, (e60 n).M, (e60 n).S, (e60 n).D, [], (e60 n).O, []⟩
theorem h61 (n : Nat) : EnvOK Go.Proofs.Tryd.prog (e61 n) := env_add (h60 n) (s59_ok n)

def s25_l0 (n : Nat) (d : (List (List UInt8)) × (List (List UInt8)) × Int × Int × (List (List UInt8)) × (List UInt8) × (List (List UInt8)) × (List (List ((List UInt8) × (List UInt8)))) × (List ((List UInt8) × (List UInt8))) × Unit) (again : ((List (List UInt8)) × (List (List UInt8)) × Int × Int × (List (List UInt8)) × (List UInt8) × (List (List UInt8)) × (List (List ((List UInt8) × (List UInt8)))) × (List ((List UInt8) × (List UInt8))) × Unit) → Option (((List (List UInt8)) × (List UInt8) × (List (List UInt8)) × (List (List ((List UInt8) × (List UInt8))))) × Bool)) (ks : ((List (List UInt8)) × (List (List UInt8)) × (List UInt8) × (List (List UInt8)) × (List (List ((List UInt8) × (List UInt8)))) × (List ((List UInt8) × (List UInt8))) × Unit → Option (((List (List UInt8)) × (List UInt8) × (List (List UInt8)) × (List (List ((List UInt8) × (List UInt8))))) × Bool)) × (Bool × (List (List UInt8)) × (List UInt8) × (List (List UInt8)) × (List (List ((List UInt8) × (List UInt8)))) × Unit → Option (((List (List UInt8)) × (List UInt8) × (List (List UInt8)) × (List (List ((List UInt8) × (List UInt8))))) × Bool)) × Unit) : Option (((List (List UInt8)) × (List UInt8) × (List (List UInt8)) × (List (List ((List UInt8) × (List UInt8))))) × Bool) :=
  match d, ks with
  | (w, t68, t69, t70, d, d_1, d_2, d_3, own, _), (k0, k1, _) =>
  bif (decide (t70 < t69)) then
    (geti t68 t70).bind fun e =>
    (s58 n e [47]).bind fun x =>
    bif (x != (1 : Int)) then
      k1 (false, d, d_1, d_2, d_3, ())
    else
      (s59 n e [47]).bind fun x_1 =>
      (chk (List.length own + List.length ([(x_1.1, x_1.2.1)] : List ((List UInt8) × (List UInt8))))).bind fun u =>
      again (w, t68, t69, (IntKind.wrap .i64 (t70 + (1 : Int))), d, d_1, d_2, d_3, (own ++ ([(x_1.1, x_1.2.1)] : List ((List UInt8) × (List UInt8)))), ())
  else
    k0 (w, d, d_1, d_2, d_3, own, ())

/-- (*criadera/taste.draft).line -/
def s25 (n : Nat) (d : (List (List UInt8)) × (List UInt8) × (List (List UInt8)) × (List (List ((List UInt8) × (List UInt8))))) (number : Int) (w : List (List UInt8)) : Option (((List (List UInt8)) × (List UInt8) × (List (List UInt8)) × (List (List ((List UInt8) × (List UInt8))))) × Bool) :=
  (s57 n w []).bind fun x =>
  bif x then
    some ((d.1, (d.2.1, (d.2.2.1, d.2.2.2))), false)
  else
    bif (number == (1 : Int)) then
      (cut w (1 : Int) ((List.length w : Nat) : Int)).bind fun x_1 =>
      (geti w (0 : Int)).bind fun e =>
      some ((x_1, (d.2.1, (d.2.2.1, d.2.2.2))), (((e : List UInt8) == [109, 97, 114, 107, 115]) && (decide (((List.length x_1 : Nat) : Int) > (0 : Int)))))
    else
      bif (number == (2 : Int)) then
        (geti w (0 : Int)).bind fun e_1 =>
        bif (((e_1 : List UInt8) != [98, 101, 103, 105, 110]) || (((List.length w : Nat) : Int) != (2 : Int))) then
          some ((d.1, (d.2.1, (d.2.2.1, d.2.2.2))), false)
        else
          (geti w (1 : Int)).bind fun e_2 =>
          some ((d.1, (e_2, (d.2.2.1, d.2.2.2))), true)
      else
        (geti w (0 : Int)).bind fun e_3 =>
        bif (((e_3 : List UInt8) != [99, 108, 97, 115, 115]) || (((List.length w : Nat) : Int) != (IntKind.wrap .i64 ((2 : Int) + ((List.length d.1 : Nat) : Int))))) then
          some ((d.1, (d.2.1, (d.2.2.1, d.2.2.2))), false)
        else
          (cut w (2 : Int) ((List.length w : Nat) : Int)).bind fun x_2 =>
          loopG (s25_l0 n) n (w, x_2, ((List.length x_2 : Nat) : Int), (0 : Int), d.1, d.2.1, d.2.2.1, d.2.2.2, ([] : List ((List UInt8) × (List UInt8))), ())
            (fun (w_2, d_5, d_6, d_7, d_8, own_1, _) =>
              (geti w_2 (1 : Int)).bind fun e_5 =>
              (chk (List.length d_7 + List.length ([e_5] : List (List UInt8)))).bind fun u_1 =>
              (chk (List.length d_8 + List.length ([own_1] : List (List ((List UInt8) × (List UInt8)))))).bind fun u_2 =>
              some ((d_5, (d_6, ((d_7 ++ ([e_5] : List (List UInt8))), (d_8 ++ ([own_1] : List (List ((List UInt8) × (List UInt8)))))))), true),
            fun (t6, d_9, d_10, d_11, d_12, _) =>
              some ((d_9, (d_10, (d_11, d_12))), t6), ())

def s25_t0 : Templ := ⟨112, [(.slice .str), (.slice .str), (.int .i64), (.int .i64), (.slice .str), .str, (.slice .str), (.slice (.slice (.pair .str .str))), (.slice (.pair .str .str))], [(0, .v (.bptr 112 0)), (2, .v (.hole (.slice .str))), (7, .v (.hand 115)), (68, .v (.hole (.slice .str))), (69, .v (.hole (.int .i64))), (70, .v (.hole (.int .i64)))], [(112, .box (.pair (.slice .str) (.pair .str (.pair (.slice .str) (.slice (.slice (.pair .str .str)))))) [.hole (.slice .str), .hole .str, .hand 113, .hand 114]), (113, .buf .str), (114, .buf (.slice (.pair .str .str))), (115, .buf (.pair .str .str))], [0]⟩
def s25_x0 : List (Way × Templ) := [(.exit 1, ⟨112, [(.slice .str), (.slice .str), .str, (.slice .str), (.slice (.slice (.pair .str .str))), (.slice (.pair .str .str))], [(0, .v (.bptr 112 0)), (2, .v (.hole (.slice .str))), (7, .v (.hand 115))], [(112, .box (.pair (.slice .str) (.pair .str (.pair (.slice .str) (.slice (.slice (.pair .str .str)))))) [.hole (.slice .str), .hole .str, .hand 113, .hand 114]), (113, .buf .str), (114, .buf (.slice (.pair .str .str))), (115, .buf (.pair .str .str))], [0]⟩), (.ret, ⟨112, [.bool, (.slice .str), .str, (.slice .str), (.slice (.slice (.pair .str .str)))], [(0, .v (.bptr 112 0)), (6, .v (.hole .bool))], [(112, .box (.pair (.slice .str) (.pair .str (.pair (.slice .str) (.slice (.slice (.pair .str .str)))))) [.hole (.slice .str), .hole .str, .hand 113, .hand 114]), (113, .buf .str), (114, .buf (.slice (.pair .str .str)))], [0]⟩)]
def s25_o0 (n : Nat) : Ev (Ty.den (.pair (.slice .str) (.pair .str (.pair (.slice .str) (.slice (.slice (.pair .str .str)))))) × denL [.bool]) := loopO n (e61 n) s25_t0 s25_x0 (s25_l0 n)
theorem s25_b0 (n : Nat) (d) (again) (ks) : codeR (R := (Ty.den (.pair (.slice .str) (.pair .str (.pair (.slice .str) (.slice (.slice (.pair .str .str)))))) × denL [.bool])) (e61 n) (Hdl.no (R := (Ty.den (.pair (.slice .str) (.pair .str (.pair (.slice .str) (.slice (.slice (.pair .str .str)))))) × denL [.bool]))) (inn (lp (bd Go.Proofs.Tryd.f25) 0)) [] (mk s25_t0 d) (turnR (e61 n) s25_t0 s25_x0 again ks) = s25_l0 n d again ks := by kernel_rfl
theorem s25_s0 (n : Nat) : Sound Go.Proofs.Tryd.prog (Hdl.no (R := (Ty.den (.pair (.slice .str) (.pair .str (.pair (.slice .str) (.slice (.slice (.pair .str .str)))))) × denL [.bool]))) false (lp (bd Go.Proofs.Tryd.f25) 0) (s25_o0 n) := loop_ok (h61 n) hP (by kernel_rfl) (O := []) trivial (s25_b0 n)
def s25_c (n : Nat) : OCon := ⟨(.pair (.slice .str) (.pair .str (.pair (.slice .str) (.slice (.slice (.pair .str .str)))))), [false, false, true, true], false, [(.int .i64), (.slice .str)], [], [.bool], fun d x y => s25 n d x.1 x.2⟩
theorem s25_eq (n : Nat) (d : Ty.den (.pair (.slice .str) (.pair .str (.pair (.slice .str) (.slice (.slice (.pair .str .str))))))) (x : denL [(.int .i64), (.slice .str)]) (y : denL []) : funRO (e61 n) Go.Proofs.Tryd.f25 (s25_c n) [s25_o0 n] d x y = (s25_c n).fn d x y := by kernel_rfl
theorem s25_ok (n : Nat) : OConOK Go.Proofs.Tryd.prog 25 (s25_c n) := funcO_ok (h61 n) hP Go.Proofs.Tryd.func25 (by kernel_rfl) (by kernel_rfl) (by kernel_rfl) (O := [s25_o0 n]) ⟨s25_s0 n, trivial⟩ (s25_eq n)
def e62 (n : Nat) : Env := ⟨gT, (e61 n).C, gQ, (e61 n).I, (e61 n).M, (e61 n).S, (e61 n).D, [], (25, s25_c n) :: (e61 n).O, []⟩
theorem h62 (n : Nat) : EnvOK Go.Proofs.Tryd.prog (e62 n) := env_oc (h61 n) (s25_ok n)

/-- (*criadera/taste.draft).book$1 -/
def s60 (n : Nat) (d : Bool) (name : List UInt8) (c0 : (List (List UInt8)) × (List UInt8) × (List (List UInt8)) × (List (List ((List UInt8) × (List UInt8))))) : Option (Bool × Int) :=
  (s61 n c0.2.2.1 name).bind fun x =>
  some ((d || (decide (x < (0 : Int)))), x)

def s60_c (n : Nat) : OCon := ⟨.bool, [false], true, [.str], [(.ptr (.pair (.slice .str) (.pair .str (.pair (.slice .str) (.slice (.slice (.pair .str .str)))))))], [(.int .i64)], fun d x y => s60 n d x y⟩
theorem s60_eq (n : Nat) (d : Ty.den .bool) (x : denL [.str]) (y : denL [(.ptr (.pair (.slice .str) (.pair .str (.pair (.slice .str) (.slice (.slice (.pair .str .str)))))))]) : funRO (e62 n) Go.Proofs.Tryd.f60 (s60_c n) [] d x y = (s60_c n).fn d x y := by kernel_rfl
theorem s60_ok (n : Nat) : OConOK Go.Proofs.Tryd.prog 60 (s60_c n) := funcO_ok (h62 n) hP Go.Proofs.Tryd.func60 (by kernel_rfl) (by kernel_rfl) (by kernel_rfl) (O := []) trivial (s60_eq n)
def e63 (n : Nat) : Env := ⟨gT, (e62 n).C, gQ, (e62 n).I, (e62 n).M, (e62 n).S, (e62 n).D, [], (60, s60_c n) :: (e62 n).O, []⟩
theorem h63 (n : Nat) : EnvOK Go.Proofs.Tryd.prog (e63 n) := env_oc (h62 n) (s60_ok n)

def s26_l0_0 (n : Nat) (d : ((List (List UInt8)) × (List UInt8) × (List (List UInt8)) × (List (List ((List UInt8) × (List UInt8))))) × ((List (List UInt8)) × (List UInt8) × (List (List UInt8)) × (List (List ((List UInt8) × (List UInt8))))) × (List (List UInt8)) × Int × Int × (List ((List UInt8) × (List UInt8))) × Int × Int × Int × Bool × (List (List UInt8)) × Int × (List ((List UInt8) × (List Int) × (List (List UInt8)))) × (List UInt8) × (List Int) × (List (List UInt8)) × Unit) (again : (((List (List UInt8)) × (List UInt8) × (List (List UInt8)) × (List (List ((List UInt8) × (List UInt8))))) × ((List (List UInt8)) × (List UInt8) × (List (List UInt8)) × (List (List ((List UInt8) × (List UInt8))))) × (List (List UInt8)) × Int × Int × (List ((List UInt8) × (List UInt8))) × Int × Int × Int × Bool × (List (List UInt8)) × Int × (List ((List UInt8) × (List Int) × (List (List UInt8)))) × (List UInt8) × (List Int) × (List (List UInt8)) × Unit) → Option (((List (List UInt8)) × Int × (List ((List UInt8) × (List Int) × (List (List UInt8))))) × Bool)) (ks : (((List (List UInt8)) × (List UInt8) × (List (List UInt8)) × (List (List ((List UInt8) × (List UInt8))))) × ((List (List UInt8)) × (List UInt8) × (List (List UInt8)) × (List (List ((List UInt8) × (List UInt8))))) × (List (List UInt8)) × Int × Int × Int × Bool × (List (List UInt8)) × Int × (List ((List UInt8) × (List Int) × (List (List UInt8)))) × (List UInt8) × (List Int) × (List (List UInt8)) × Unit → Option (((List (List UInt8)) × Int × (List ((List UInt8) × (List Int) × (List (List UInt8))))) × Bool)) × Unit) : Option (((List (List UInt8)) × Int × (List ((List UInt8) × (List Int) × (List (List UInt8))))) × Bool) :=
  match d, ks with
  | (d, find, t27, t28, t29, t42, t43, t44, t2, missing, b, b_1, b_2, c, c_1, c_2, _), (k0, _) =>
  bif (decide (t44 < t43)) then
    (geti t42 t44).bind fun e =>
    (s60 n missing e.1 find).bind fun x =>
    (chk (List.length c_1 + List.length ([x.2] : List Int))).bind fun u =>
    (chk (List.length c_2 + List.length ([e.2] : List (List UInt8)))).bind fun u_1 =>
    again (d, find, t27, t28, t29, t42, t43, (IntKind.wrap .i64 (t44 + (1 : Int))), t2, x.1, b, b_1, b_2, c, (c_1 ++ ([x.2] : List Int)), (c_2 ++ ([e.2] : List (List UInt8))), ())
  else
    k0 (d, find, t27, t28, t29, t2, missing, b, b_1, b_2, c, c_1, c_2, ())

def s26_l0 (n : Nat) (d : ((List (List UInt8)) × (List UInt8) × (List (List UInt8)) × (List (List ((List UInt8) × (List UInt8))))) × ((List (List UInt8)) × (List UInt8) × (List (List UInt8)) × (List (List ((List UInt8) × (List UInt8))))) × (List (List UInt8)) × Int × Int × Int × Bool × (List (List UInt8)) × Int × (List ((List UInt8) × (List Int) × (List (List UInt8)))) × Unit) (again : (((List (List UInt8)) × (List UInt8) × (List (List UInt8)) × (List (List ((List UInt8) × (List UInt8))))) × ((List (List UInt8)) × (List UInt8) × (List (List UInt8)) × (List (List ((List UInt8) × (List UInt8))))) × (List (List UInt8)) × Int × Int × Int × Bool × (List (List UInt8)) × Int × (List ((List UInt8) × (List Int) × (List (List UInt8)))) × Unit) → Option (((List (List UInt8)) × Int × (List ((List UInt8) × (List Int) × (List (List UInt8))))) × Bool)) (ks : (Int × Bool × (List (List UInt8)) × Int × (List ((List UInt8) × (List Int) × (List (List UInt8)))) × Unit → Option (((List (List UInt8)) × Int × (List ((List UInt8) × (List Int) × (List (List UInt8))))) × Bool)) × Unit) : Option (((List (List UInt8)) × Int × (List ((List UInt8) × (List Int) × (List (List UInt8))))) × Bool) :=
  match d, ks with
  | (d, find, t27, t28, t29, t2, missing, b, b_1, b_2, _), (k0, _) =>
  bif (decide (t29 < t28)) then
    (geti t27 t29).bind fun e =>
    (geti d.2.2.2 t29).bind fun e_1 =>
    loopG (s26_l0_0 n) n (d, find, t27, t28, t29, e_1, ((List.length e_1 : Nat) : Int), (0 : Int), t2, missing, b, b_1, b_2, e, ([] : List Int), ([] : List (List UInt8)), ())
      (fun (d_2, find_2, t27_2, t28_2, t29_2, t2_2, missing_2, b_6, b_7, b_8, c_3, c_4, c_5, _) =>
        (chk (List.length b_8 + List.length ([(c_3, (c_4, c_5))] : List ((List UInt8) × (List Int) × (List (List UInt8)))))).bind fun u_2 =>
        again (d_2, find_2, t27_2, t28_2, (IntKind.wrap .i64 (t29_2 + (1 : Int))), t2_2, missing_2, b_6, b_7, (b_8 ++ ([(c_3, (c_4, c_5))] : List ((List UInt8) × (List Int) × (List (List UInt8))))), ()), ())
  else
    k0 (t2, missing, b, b_1, b_2, ())

/-- (*criadera/taste.draft).book -/
def s26 (n : Nat) (d : (List (List UInt8)) × (List UInt8) × (List (List UInt8)) × (List (List ((List UInt8) × (List UInt8))))) : Option (((List (List UInt8)) × Int × (List ((List UInt8) × (List Int) × (List (List UInt8))))) × Bool) :=
  (s60 n false d.2.1 d).bind fun x =>
  loopG (s26_l0 n) n (d, d, d.2.2.1, ((List.length d.2.2.1 : Nat) : Int), (0 : Int), (0 : Int), x.1, d.1, x.2, ([] : List ((List UInt8) × (List Int) × (List (List UInt8)))), ())
    (fun (t2_3, missing_3, b_9, b_10, b_11, _) =>
      some ((b_9, (b_10, b_11)), (!missing_3)), ())

def s26_t0_0 : Templ := ⟨75, [(.ptr (.pair (.slice .str) (.pair .str (.pair (.slice .str) (.slice (.slice (.pair .str .str))))))), (.ptr (.pair (.slice .str) (.pair .str (.pair (.slice .str) (.slice (.slice (.pair .str .str))))))), (.slice .str), (.int .i64), (.int .i64), (.slice (.pair .str .str)), (.int .i64), (.int .i64), (.int .i64), .bool, (.slice .str), (.int .i64), (.slice (.pair .str (.pair (.slice (.int .i64)) (.slice .str)))), .str, (.slice (.int .i64)), (.slice .str)], [(1, .v (.pp (.ptr (.pair (.slice .str) (.pair .str (.pair (.slice .str) (.slice (.slice (.pair .str .str))))))))), (2, .v (.bptr 75 0)), (4, .v (.bptr 76 0)), (5, .v (.oclo 60 (.ptr (.pair (.slice .str) (.pair .str (.pair (.slice .str) (.slice (.slice (.pair .str .str))))))) 76)), (6, .v (.bptr 77 0)), (9, .v (.bptr 79 0)), (27, .v (.hole (.slice .str))), (28, .v (.hole (.int .i64))), (29, .v (.hole (.int .i64))), (42, .v (.hole (.slice (.pair .str .str)))), (43, .v (.hole (.int .i64))), (44, .v (.hole (.int .i64)))], [(75, .box (.pair (.slice .str) (.pair (.int .i64) (.slice (.pair .str (.pair (.slice (.int .i64)) (.slice .str)))))) [.nils, .hole (.int .i64), .nils]), (76, .box .bool [.hole .bool]), (77, .box (.pair (.slice .str) (.pair (.int .i64) (.slice (.pair .str (.pair (.slice (.int .i64)) (.slice .str)))))) [.hole (.slice .str), .hole (.int .i64), .hand 78]), (78, .buf (.pair .str (.pair (.slice (.int .i64)) (.slice .str)))), (79, .box (.pair .str (.pair (.slice (.int .i64)) (.slice .str))) [.hole .str, .hand 80, .hand 81]), (80, .buf (.int .i64)), (81, .buf .str)], []⟩
def s26_x0_0 : List (Way × Templ) := [(.exit 2, ⟨75, [(.ptr (.pair (.slice .str) (.pair .str (.pair (.slice .str) (.slice (.slice (.pair .str .str))))))), (.ptr (.pair (.slice .str) (.pair .str (.pair (.slice .str) (.slice (.slice (.pair .str .str))))))), (.slice .str), (.int .i64), (.int .i64), (.int .i64), .bool, (.slice .str), (.int .i64), (.slice (.pair .str (.pair (.slice (.int .i64)) (.slice .str)))), .str, (.slice (.int .i64)), (.slice .str)], [(1, .v (.pp (.ptr (.pair (.slice .str) (.pair .str (.pair (.slice .str) (.slice (.slice (.pair .str .str))))))))), (2, .v (.bptr 75 0)), (4, .v (.bptr 76 0)), (5, .v (.oclo 60 (.ptr (.pair (.slice .str) (.pair .str (.pair (.slice .str) (.slice (.slice (.pair .str .str))))))) 76)), (6, .v (.bptr 77 0)), (9, .v (.bptr 79 0)), (27, .v (.hole (.slice .str))), (28, .v (.hole (.int .i64))), (29, .v (.hole (.int .i64)))], [(75, .box (.pair (.slice .str) (.pair (.int .i64) (.slice (.pair .str (.pair (.slice (.int .i64)) (.slice .str)))))) [.nils, .hole (.int .i64), .nils]), (76, .box .bool [.hole .bool]), (77, .box (.pair (.slice .str) (.pair (.int .i64) (.slice (.pair .str (.pair (.slice (.int .i64)) (.slice .str)))))) [.hole (.slice .str), .hole (.int .i64), .hand 78]), (78, .buf (.pair .str (.pair (.slice (.int .i64)) (.slice .str)))), (79, .box (.pair .str (.pair (.slice (.int .i64)) (.slice .str))) [.hole .str, .hand 80, .hand 81]), (80, .buf (.int .i64)), (81, .buf .str)], []⟩)]
def s26_o0_0 (n : Nat) : Ev (denL [(.pair (.slice .str) (.pair (.int .i64) (.slice (.pair .str (.pair (.slice (.int .i64)) (.slice .str)))))), .bool]) := loopO n (e63 n) s26_t0_0 s26_x0_0 (s26_l0_0 n)
theorem s26_b0_0 (n : Nat) (d) (again) (ks) : codeR (R := (denL [(.pair (.slice .str) (.pair (.int .i64) (.slice (.pair .str (.pair (.slice (.int .i64)) (.slice .str)))))), .bool])) (e63 n) (Hdl.no (R := (denL [(.pair (.slice .str) (.pair (.int .i64) (.slice (.pair .str (.pair (.slice (.int .i64)) (.slice .str)))))), .bool]))) (inn (lp (inn (lp (bd Go.Proofs.Tryd.f26) 0)) 0)) [] (mk s26_t0_0 d) (turnR (e63 n) s26_t0_0 s26_x0_0 again ks) = s26_l0_0 n d again ks := by kernel_rfl
theorem s26_s0_0 (n : Nat) : Sound Go.Proofs.Tryd.prog (Hdl.no (R := (denL [(.pair (.slice .str) (.pair (.int .i64) (.slice (.pair .str (.pair (.slice (.int .i64)) (.slice .str)))))), .bool]))) false (lp (inn (lp (bd Go.Proofs.Tryd.f26) 0)) 0) (s26_o0_0 n) := loop_ok (h63 n) hP (by kernel_rfl) (O := []) trivial (s26_b0_0 n)
def s26_t0 : Templ := ⟨75, [(.ptr (.pair (.slice .str) (.pair .str (.pair (.slice .str) (.slice (.slice (.pair .str .str))))))), (.ptr (.pair (.slice .str) (.pair .str (.pair (.slice .str) (.slice (.slice (.pair .str .str))))))), (.slice .str), (.int .i64), (.int .i64), (.int .i64), .bool, (.slice .str), (.int .i64), (.slice (.pair .str (.pair (.slice (.int .i64)) (.slice .str))))], [(1, .v (.pp (.ptr (.pair (.slice .str) (.pair .str (.pair (.slice .str) (.slice (.slice (.pair .str .str))))))))), (2, .v (.bptr 75 0)), (4, .v (.bptr 76 0)), (5, .v (.oclo 60 (.ptr (.pair (.slice .str) (.pair .str (.pair (.slice .str) (.slice (.slice (.pair .str .str))))))) 76)), (6, .v (.bptr 77 0)), (27, .v (.hole (.slice .str))), (28, .v (.hole (.int .i64))), (29, .v (.hole (.int .i64)))], [(75, .box (.pair (.slice .str) (.pair (.int .i64) (.slice (.pair .str (.pair (.slice (.int .i64)) (.slice .str)))))) [.nils, .hole (.int .i64), .nils]), (76, .box .bool [.hole .bool]), (77, .box (.pair (.slice .str) (.pair (.int .i64) (.slice (.pair .str (.pair (.slice (.int .i64)) (.slice .str)))))) [.hole (.slice .str), .hole (.int .i64), .hand 78]), (78, .buf (.pair .str (.pair (.slice (.int .i64)) (.slice .str))))], []⟩
def s26_x0 : List (Way × Templ) := [(.exit 0, ⟨75, [(.int .i64), .bool, (.slice .str), (.int .i64), (.slice (.pair .str (.pair (.slice (.int .i64)) (.slice .str))))], [(2, .v (.bptr 75 0)), (4, .v (.bptr 76 0)), (6, .v (.bptr 77 0))], [(75, .box (.pair (.slice .str) (.pair (.int .i64) (.slice (.pair .str (.pair (.slice (.int .i64)) (.slice .str)))))) [.nils, .hole (.int .i64), .nils]), (76, .box .bool [.hole .bool]), (77, .box (.pair (.slice .str) (.pair (.int .i64) (.slice (.pair .str (.pair (.slice (.int .i64)) (.slice .str)))))) [.hole (.slice .str), .hole (.int .i64), .hand 78]), (78, .buf (.pair .str (.pair (.slice (.int .i64)) (.slice .str))))], []⟩)]
def s26_o0 (n : Nat) : Ev (denL [(.pair (.slice .str) (.pair (.int .i64) (.slice (.pair .str (.pair (.slice (.int .i64)) (.slice .str)))))), .bool]) := loopO n (e63 n) s26_t0 s26_x0 (s26_l0 n)
theorem s26_b0 (n : Nat) (d) (again) (ks) : codeR (R := (denL [(.pair (.slice .str) (.pair (.int .i64) (.slice (.pair .str (.pair (.slice (.int .i64)) (.slice .str)))))), .bool])) (e63 n) (Hdl.no (R := (denL [(.pair (.slice .str) (.pair (.int .i64) (.slice (.pair .str (.pair (.slice (.int .i64)) (.slice .str)))))), .bool]))) (inn (lp (bd Go.Proofs.Tryd.f26) 0)) [s26_o0_0 n] (mk s26_t0 d) (turnR (e63 n) s26_t0 s26_x0 again ks) = s26_l0 n d again ks := by kernel_rfl
theorem s26_s0 (n : Nat) : Sound Go.Proofs.Tryd.prog (Hdl.no (R := (denL [(.pair (.slice .str) (.pair (.int .i64) (.slice (.pair .str (.pair (.slice (.int .i64)) (.slice .str)))))), .bool]))) false (lp (bd Go.Proofs.Tryd.f26) 0) (s26_o0 n) := loop_ok (h63 n) hP (by kernel_rfl) (O := [s26_o0_0 n]) ⟨s26_s0_0 n, trivial⟩ (s26_b0 n)
def s26_c (n : Nat) : Con := ⟨[(.ptr (.pair (.slice .str) (.pair .str (.pair (.slice .str) (.slice (.slice (.pair .str .str)))))))], [], [(.pair (.slice .str) (.pair (.int .i64) (.slice (.pair .str (.pair (.slice (.int .i64)) (.slice .str)))))), .bool], fun x y => s26 n x, false⟩
theorem s26_eq (n : Nat) (x : denL [(.ptr (.pair (.slice .str) (.pair .str (.pair (.slice .str) (.slice (.slice (.pair .str .str)))))))]) (y : denL []) : funR (e63 n) Go.Proofs.Tryd.f26 [(.ptr (.pair (.slice .str) (.pair .str (.pair (.slice .str) (.slice (.slice (.pair .str .str)))))))] [] [(.pair (.slice .str) (.pair (.int .i64) (.slice (.pair .str (.pair (.slice (.int .i64)) (.slice .str)))))), .bool] false [s26_o0 n] x y = (s26_c n).fn x y := by kernel_rfl
theorem s26_ok (n : Nat) : ConOK Go.Proofs.Tryd.prog 26 (s26_c n) := func_ok (h63 n) hP Go.Proofs.Tryd.func26 (by kernel_rfl) (by kernel_rfl) (O := [s26_o0 n]) ⟨s26_s0 n, trivial⟩ (s26_eq n)
def e64 (n : Nat) : Env := ⟨gT, (26, s26_c n) :: (e63 n).C, gQ, (e63 n).I, (e63 n).M, (e63 n).S, (e63 n).D, [], (e63 n).O, []⟩
theorem h64 (n : Nat) : EnvOK Go.Proofs.Tryd.prog (e64 n) := env_add (h63 n) (s26_ok n)

def s8_l0 (n : Nat) (d : (List (List UInt8)) × Int × (List (List UInt8)) × Int × Int × Int × (List (List UInt8)) × (List UInt8) × (List (List UInt8)) × (List (List ((List UInt8) × (List UInt8)))) × Unit) (again : ((List (List UInt8)) × Int × (List (List UInt8)) × Int × Int × Int × (List (List UInt8)) × (List UInt8) × (List (List UInt8)) × (List (List ((List UInt8) × (List UInt8)))) × Unit) → Option (((List (List UInt8)) × Int × (List ((List UInt8) × (List Int) × (List (List UInt8))))) × Int × Int)) (ks : ((List (List UInt8)) × Int × Int × (List (List UInt8)) × (List UInt8) × (List (List UInt8)) × (List (List ((List UInt8) × (List UInt8)))) × Unit → Option (((List (List UInt8)) × Int × (List ((List UInt8) × (List Int) × (List (List UInt8))))) × Int × Int)) × (Int × Int × Int × Unit → Option (((List (List UInt8)) × Int × (List ((List UInt8) × (List Int) × (List (List UInt8))))) × Int × Int)) × Unit) : Option (((List (List UInt8)) × Int × (List ((List UInt8) × (List Int) × (List (List UInt8))))) × Int × Int) :=
  match d, ks with
  | (lines, last, t25, t26, t27, t2, d, d_1, d_2, d_3, _), (k0, k1, _) =>
  bif (decide (t27 < t26)) then
    (geti t25 t27).bind fun e =>
    (s24 n e [32]).bind fun x =>
    (s25 n (d, (d_1, (d_2, d_3))) (IntKind.wrap .i64 (t27 + (1 : Int))) x).bind fun x_1 =>
    bif (!x_1.2) then
      k1 ((IntKind.wrap .i64 (t27 + (1 : Int))), (7 : Int), (0 : Int), ())
    else
      again (lines, last, t25, t26, (IntKind.wrap .i64 (t27 + (1 : Int))), t2, x_1.1.1, x_1.1.2.1, x_1.1.2.2.1, x_1.1.2.2.2, ())
  else
    k0 (lines, last, t2, d, d_1, d_2, d_3, ())

/-- criadera/taste.ParseBook -/
def s8 (n : Nat) (t : List UInt8) : Option (((List (List UInt8)) × Int × (List ((List UInt8) × (List Int) × (List (List UInt8))))) × Int × Int) :=
  bif (decide (((List.length t : Nat) : Int) > (2000 : Int))) then
    some ((([] : List (List UInt8)), ((0 : Int), ([] : List ((List UInt8) × (List Int) × (List (List UInt8)))))), (0 : Int), (8 : Int))
  else
    (s24 n t [10]).bind fun x =>
    (cut x 0 (IntKind.wrap .i64 (((List.length x : Nat) : Int) - (1 : Int)))).bind fun x_1 =>
    loopG (s8_l0 n) n (x, (IntKind.wrap .i64 (((List.length x : Nat) : Int) - (1 : Int))), x_1, ((List.length x_1 : Nat) : Int), (0 : Int), (0 : Int), ([] : List (List UInt8)), [], ([] : List (List UInt8)), ([] : List (List ((List UInt8) × (List UInt8)))), ())
      (fun (lines_1, last_1, t2_1, d_4, d_5, d_6, d_7, _) =>
        (geti lines_1 last_1).bind fun e_1 =>
        bif (((e_1 : List UInt8) != []) || (decide (last_1 < (3 : Int)))) then
          some ((([] : List (List UInt8)), ((0 : Int), ([] : List ((List UInt8) × (List Int) × (List (List UInt8)))))), (IntKind.wrap .i64 (last_1 + (1 : Int))), (7 : Int))
        else
          (s26 n (d_4, (d_5, (d_6, d_7)))).bind fun x_4 =>
          bif (!x_4.2) then
            some ((([] : List (List UInt8)), ((0 : Int), ([] : List ((List UInt8) × (List Int) × (List (List UInt8)))))), (0 : Int), (6 : Int))
          else
            (s20 n (x_4.1.1, (x_4.1.2.1, x_4.1.2.2))).bind fun x_5 =>
            bif (x_5.2 != (0 : Int)) then
              some ((([] : List (List UInt8)), ((0 : Int), ([] : List ((List UInt8) × (List Int) × (List (List UInt8)))))), (0 : Int), x_5.2)
            else
              some ((x_4.1.1, (x_4.1.2.1, x_4.1.2.2)), (0 : Int), (0 : Int)),
      fun (t3, t4, t2_2, _) =>
        some ((([] : List (List UInt8)), (t2_2, ([] : List ((List UInt8) × (List Int) × (List (List UInt8)))))), t3, t4), ())

def s8_t0 : Templ := ⟨71, [(.slice .str), (.int .i64), (.slice .str), (.int .i64), (.int .i64), (.int .i64), (.slice .str), .str, (.slice .str), (.slice (.slice (.pair .str .str)))], [(2, .v (.bptr 71 0)), (5, .v (.bptr 72 0)), (6, .v (.hole (.slice .str))), (7, .v (.hole (.int .i64))), (25, .v (.hole (.slice .str))), (26, .v (.hole (.int .i64))), (27, .v (.hole (.int .i64)))], [(71, .box (.pair (.slice .str) (.pair (.int .i64) (.slice (.pair .str (.pair (.slice (.int .i64)) (.slice .str)))))) [.nils, .hole (.int .i64), .nils]), (72, .box (.pair (.slice .str) (.pair .str (.pair (.slice .str) (.slice (.slice (.pair .str .str)))))) [.hole (.slice .str), .hole .str, .hand 73, .hand 74]), (73, .buf .str), (74, .buf (.slice (.pair .str .str)))], []⟩
def s8_x0 : List (Way × Templ) := [(.exit 0, ⟨71, [(.slice .str), (.int .i64), (.int .i64), (.slice .str), .str, (.slice .str), (.slice (.slice (.pair .str .str)))], [(2, .v (.bptr 71 0)), (5, .v (.bptr 72 0)), (6, .v (.hole (.slice .str))), (7, .v (.hole (.int .i64)))], [(71, .box (.pair (.slice .str) (.pair (.int .i64) (.slice (.pair .str (.pair (.slice (.int .i64)) (.slice .str)))))) [.nils, .hole (.int .i64), .nils]), (72, .box (.pair (.slice .str) (.pair .str (.pair (.slice .str) (.slice (.slice (.pair .str .str)))))) [.hole (.slice .str), .hole .str, .hand 73, .hand 74]), (73, .buf .str), (74, .buf (.slice (.pair .str .str)))], []⟩), (.ret, ⟨71, [(.int .i64), (.int .i64), (.int .i64)], [(2, .v (.bptr 71 0)), (3, .v (.hole (.int .i64))), (4, .v (.hole (.int .i64)))], [(71, .box (.pair (.slice .str) (.pair (.int .i64) (.slice (.pair .str (.pair (.slice (.int .i64)) (.slice .str)))))) [.nils, .hole (.int .i64), .nils])], []⟩)]
def s8_o0 (n : Nat) : Ev (denL [(.pair (.slice .str) (.pair (.int .i64) (.slice (.pair .str (.pair (.slice (.int .i64)) (.slice .str)))))), (.int .i64), (.int .i64)]) := loopO n (e64 n) s8_t0 s8_x0 (s8_l0 n)
theorem s8_b0 (n : Nat) (d) (again) (ks) : codeR (R := (denL [(.pair (.slice .str) (.pair (.int .i64) (.slice (.pair .str (.pair (.slice (.int .i64)) (.slice .str)))))), (.int .i64), (.int .i64)])) (e64 n) (Hdl.no (R := (denL [(.pair (.slice .str) (.pair (.int .i64) (.slice (.pair .str (.pair (.slice (.int .i64)) (.slice .str)))))), (.int .i64), (.int .i64)]))) (inn (lp (bd Go.Proofs.Tryd.f8) 0)) [] (mk s8_t0 d) (turnR (e64 n) s8_t0 s8_x0 again ks) = s8_l0 n d again ks := by kernel_rfl
theorem s8_s0 (n : Nat) : Sound Go.Proofs.Tryd.prog (Hdl.no (R := (denL [(.pair (.slice .str) (.pair (.int .i64) (.slice (.pair .str (.pair (.slice (.int .i64)) (.slice .str)))))), (.int .i64), (.int .i64)]))) false (lp (bd Go.Proofs.Tryd.f8) 0) (s8_o0 n) := loop_ok (h64 n) hP (by kernel_rfl) (O := []) trivial (s8_b0 n)
def s8_c (n : Nat) : Con := ⟨[.str], [], [(.pair (.slice .str) (.pair (.int .i64) (.slice (.pair .str (.pair (.slice (.int .i64)) (.slice .str)))))), (.int .i64), (.int .i64)], fun x y => s8 n x, false⟩
theorem s8_eq (n : Nat) (x : denL [.str]) (y : denL []) : funR (e64 n) Go.Proofs.Tryd.f8 [.str] [] [(.pair (.slice .str) (.pair (.int .i64) (.slice (.pair .str (.pair (.slice (.int .i64)) (.slice .str)))))), (.int .i64), (.int .i64)] false [s8_o0 n] x y = (s8_c n).fn x y := by kernel_rfl
theorem s8_ok (n : Nat) : ConOK Go.Proofs.Tryd.prog 8 (s8_c n) := func_ok (h64 n) hP Go.Proofs.Tryd.func8 (by kernel_rfl) (by kernel_rfl) (O := [s8_o0 n]) ⟨s8_s0 n, trivial⟩ (s8_eq n)
def e65 (n : Nat) : Env := ⟨gT, (8, s8_c n) :: (e64 n).C, gQ, (e64 n).I, (e64 n).M, (e64 n).S, (e64 n).D, [], (e64 n).O, []⟩
theorem h65 (n : Nat) : EnvOK Go.Proofs.Tryd.prog (e65 n) := env_add (h64 n) (s8_ok n)

def s27_l0 (n : Nat) (d : (List UInt8) × Int × Int × Int × (List (List UInt8)) × Unit) (again : ((List UInt8) × Int × Int × Int × (List (List UInt8)) × Unit) → Option ((List (List UInt8)))) (ks : ((List UInt8) × Int × (List (List UInt8)) × Unit → Option ((List (List UInt8)))) × Unit) : Option ((List (List UInt8))) :=
  match d, ks with
  | (s, v_at, v_from, i, out, _), (k0, _) =>
  bif (decide (i < ((List.length s : Nat) : Int))) then
    (geti s i).bind fun c =>
    bif (((UInt8.toNat c : Nat) : Int) == v_at) then
      (cut s v_from i).bind fun x =>
      (chk (List.length out + List.length ([x] : List (List UInt8)))).bind fun u =>
      again (s, v_at, (IntKind.wrap .i64 (i + (1 : Int))), (IntKind.wrap .i64 (i + (1 : Int))), (out ++ ([x] : List (List UInt8))), ())
    else
      again (s, v_at, v_from, (IntKind.wrap .i64 (i + (1 : Int))), out, ())
  else
    k0 (s, v_from, out, ())

/-- criadera/criaderabase.Cut -/
def s27 (n : Nat) (s : List UInt8) (v_at : Int) : Option ((List (List UInt8))) :=
  loopG (s27_l0 n) n (s, v_at, (0 : Int), (0 : Int), ([] : List (List UInt8)), ())
    (fun (s_2, v_from_1, out_1, _) =>
      (cut s_2 v_from_1 ((List.length s_2 : Nat) : Int)).bind fun x_1 =>
      (chk (List.length out_1 + List.length ([x_1] : List (List UInt8)))).bind fun u_1 =>
      some ((out_1 ++ ([x_1] : List (List UInt8)))), ())

def s27_t0 : Templ := ⟨34, [.str, (.int .u8), (.int .i64), (.int .i64), (.slice .str)], [(0, .v (.hole .str)), (1, .v (.hole (.int .u8))), (5, .v (.hand 34)), (6, .v (.hole (.int .i64))), (7, .v (.hole (.int .i64)))], [(34, .buf .str)], []⟩
def s27_x0 : List (Way × Templ) := [(.exit 0, ⟨34, [.str, (.int .i64), (.slice .str)], [(0, .v (.hole .str)), (5, .v (.hand 34)), (6, .v (.hole (.int .i64)))], [(34, .buf .str)], []⟩)]
def s27_o0 (n : Nat) : Ev (denL [(.slice .str)]) := loopO n (e65 n) s27_t0 s27_x0 (s27_l0 n)
theorem s27_b0 (n : Nat) (d) (again) (ks) : codeR (R := (denL [(.slice .str)])) (e65 n) (Hdl.no (R := (denL [(.slice .str)]))) (inn (lp (bd Go.Proofs.Tryd.f27) 0)) [] (mk s27_t0 d) (turnR (e65 n) s27_t0 s27_x0 again ks) = s27_l0 n d again ks := by kernel_rfl
theorem s27_s0 (n : Nat) : Sound Go.Proofs.Tryd.prog (Hdl.no (R := (denL [(.slice .str)]))) false (lp (bd Go.Proofs.Tryd.f27) 0) (s27_o0 n) := loop_ok (h65 n) hP (by kernel_rfl) (O := []) trivial (s27_b0 n)
def s27_c (n : Nat) : Con := ⟨[.str, (.int .u8)], [], [(.slice .str)], fun x y => s27 n x.1 x.2, false⟩
theorem s27_eq (n : Nat) (x : denL [.str, (.int .u8)]) (y : denL []) : funR (e65 n) Go.Proofs.Tryd.f27 [.str, (.int .u8)] [] [(.slice .str)] false [s27_o0 n] x y = (s27_c n).fn x y := by kernel_rfl
theorem s27_ok (n : Nat) : ConOK Go.Proofs.Tryd.prog 27 (s27_c n) := func_ok (h65 n) hP Go.Proofs.Tryd.func27 (by kernel_rfl) (by kernel_rfl) (O := [s27_o0 n]) ⟨s27_s0 n, trivial⟩ (s27_eq n)
def e66 (n : Nat) : Env := ⟨gT, (27, s27_c n) :: (e65 n).C, gQ, (e65 n).I, (e65 n).M, (e65 n).S, (e65 n).D, [], (e65 n).O, []⟩
theorem h66 (n : Nat) : EnvOK Go.Proofs.Tryd.prog (e66 n) := env_add (h65 n) (s27_ok n)

def s62_l0 (n : Nat) (d : (List (List UInt8)) × (List UInt8) × Int × Unit) (again : ((List (List UInt8)) × (List UInt8) × Int × Unit) → Option (Bool)) (ks : (Unit → Option (Bool)) × (Bool × Unit → Option (Bool)) × Unit) : Option (Bool) :=
  match d, ks with
  | (l, s, i, _), (k0, k1, _) =>
  bif (decide (i < ((List.length l : Nat) : Int))) then
    (geti l i).bind fun e =>
    bif ((e : List UInt8) == s) then
      k1 (true, ())
    else
      again (l, s, (IntKind.wrap .i64 (i + (1 : Int))), ())
  else
    k0 (())

/-- criadera/criaderabase.HasText -/
def s62 (n : Nat) (l : List (List UInt8)) (s : List UInt8) : Option (Bool) :=
  loopG (s62_l0 n) n (l, s, (0 : Int), ())
    (fun (_) =>
      some (false),
    fun (t4, _) =>
      some (t4), ())

def s62_t0 : Templ := ⟨18, [(.slice .str), .str, (.int .i64)], [(0, .v (.hole (.slice .str))), (1, .v (.hole .str)), (5, .v (.hole (.int .i64)))], [], []⟩
def s62_x0 : List (Way × Templ) := [(.exit 0, ⟨18, [], [], [], []⟩), (.ret, ⟨18, [.bool], [(4, .v (.hole .bool))], [], []⟩)]
def s62_o0 (n : Nat) : Ev (denL [.bool]) := loopO n (e66 n) s62_t0 s62_x0 (s62_l0 n)
theorem s62_b0 (n : Nat) (d) (again) (ks) : codeR (R := (denL [.bool])) (e66 n) (Hdl.no (R := (denL [.bool]))) (inn (lp (bd Go.Proofs.Tryd.f62) 0)) [] (mk s62_t0 d) (turnR (e66 n) s62_t0 s62_x0 again ks) = s62_l0 n d again ks := by kernel_rfl
theorem s62_s0 (n : Nat) : Sound Go.Proofs.Tryd.prog (Hdl.no (R := (denL [.bool]))) false (lp (bd Go.Proofs.Tryd.f62) 0) (s62_o0 n) := loop_ok (h66 n) hP (by kernel_rfl) (O := []) trivial (s62_b0 n)
def s62_c (n : Nat) : Con := ⟨[(.slice .str), .str], [], [.bool], fun x y => s62 n x.1 x.2, false⟩
theorem s62_eq (n : Nat) (x : denL [(.slice .str), .str]) (y : denL []) : funR (e66 n) Go.Proofs.Tryd.f62 [(.slice .str), .str] [] [.bool] false [s62_o0 n] x y = (s62_c n).fn x y := by kernel_rfl
theorem s62_ok (n : Nat) : ConOK Go.Proofs.Tryd.prog 62 (s62_c n) := func_ok (h66 n) hP Go.Proofs.Tryd.func62 (by kernel_rfl) (by kernel_rfl) (O := [s62_o0 n]) ⟨s62_s0 n, trivial⟩ (s62_eq n)
def e67 (n : Nat) : Env := ⟨gT, (62, s62_c n) :: (e66 n).C, gQ, (e66 n).I, (e66 n).M, (e66 n).S, (e66 n).D, [], (e66 n).O, []⟩
theorem h67 (n : Nat) : EnvOK Go.Proofs.Tryd.prog (e67 n) := env_add (h66 n) (s62_ok n)

/-- criadera/criaderaref07.words -/
def s28 (n : Nat) (line : List UInt8) (head : List UInt8) (least : Int) : Option ((List (List UInt8)) × Bool) :=
  (s27 n line (32 : Int)).bind fun x =>
  (part (decide (((List.length x : Nat) : Int) ≥ least)) (geti x (0 : Int)) []).bind fun e =>
  (part ((decide (((List.length x : Nat) : Int) ≥ least)) && ((e : List UInt8) == head)) (s62 n x []) false).bind fun x_1 =>
  some (x, (((decide (((List.length x : Nat) : Int) ≥ least)) && ((e : List UInt8) == head)) && (!x_1)))

def s28_c (n : Nat) : Con := ⟨[.str, .str, (.int .i64)], [], [(.slice .str), .bool], fun x y => s28 n x.1 x.2.1 x.2.2, false⟩
theorem s28_eq (n : Nat) (x : denL [.str, .str, (.int .i64)]) (y : denL []) : funR (e67 n) Go.Proofs.Tryd.f28 [.str, .str, (.int .i64)] [] [(.slice .str), .bool] false [] x y = (s28_c n).fn x y := by kernel_rfl
theorem s28_ok (n : Nat) : ConOK Go.Proofs.Tryd.prog 28 (s28_c n) := func_ok (h67 n) hP Go.Proofs.Tryd.func28 (by kernel_rfl) (by kernel_rfl) (O := []) trivial (s28_eq n)
def e68 (n : Nat) : Env := ⟨gT, (28, s28_c n) :: (e67 n).C, gQ, (e67 n).I, (e67 n).M, (e67 n).S, (e67 n).D, [], (e67 n).O, []⟩
theorem h68 (n : Nat) : EnvOK Go.Proofs.Tryd.prog (e68 n) := env_add (h67 n) (s28_ok n)

def s29_l0 (n : Nat) (d : (List (List UInt8)) × Int × (List UInt8) × (List UInt8) × (List (List UInt8)) × (List (List UInt8)) × Unit) (again : ((List (List UInt8)) × Int × (List UInt8) × (List UInt8) × (List (List UInt8)) × (List (List UInt8)) × Unit) → Option (((List UInt8) × (Option (List Int)) × (List (List UInt8))) × (List (List UInt8)) × Bool)) (ks : ((List UInt8) × (List UInt8) × (List (List UInt8)) × (List (List UInt8)) × Unit → Option (((List UInt8) × (Option (List Int)) × (List (List UInt8))) × (List (List UInt8)) × Bool)) × (Bool × (List UInt8) × (List (List UInt8)) × Unit → Option (((List UInt8) × (Option (List Int)) × (List (List UInt8))) × (List (List UInt8)) × Bool)) × Unit) : Option (((List UInt8) × (Option (List Int)) × (List (List UInt8))) × (List (List UInt8)) × Bool) :=
  match d, ks with
  | (w, i, t4, c, c_1, to, _), (k0, k1, _) =>
  bif (decide (i < ((List.length w : Nat) : Int))) then
    (geti w i).bind fun e =>
    (s27 n e (47 : Int)).bind fun x =>
    bif (((List.length x : Nat) : Int) != (2 : Int)) then
      k1 (false, [], ([] : List (List UInt8)), ())
    else
      (geti x (0 : Int)).bind fun e_1 =>
      (chk (List.length to + List.length ([e_1] : List (List UInt8)))).bind fun u =>
      (geti x (1 : Int)).bind fun e_2 =>
      (chk (List.length c_1 + List.length ([e_2] : List (List UInt8)))).bind fun u_1 =>
      again (w, (IntKind.wrap .i64 (i + (1 : Int))), t4, c, (c_1 ++ ([e_2] : List (List UInt8))), (to ++ ([e_1] : List (List UInt8))), ())
  else
    k0 (t4, c, c_1, to, ())

/-- criadera/criaderaref07.classOf -/
def s29 (n : Nat) (line : List UInt8) (marks : Int) : Option (((List UInt8) × (Option (List Int)) × (List (List UInt8))) × (List (List UInt8)) × Bool) :=
  (s28 n line [99, 108, 97, 115, 115] (2 : Int)).bind fun x =>
  bif ((!x.2) || (((List.length x.1 : Nat) : Int) != (IntKind.wrap .i64 ((2 : Int) + marks)))) then
    some (([], ((none : Option (List Int)), ([] : List (List UInt8)))), ([] : List (List UInt8)), false)
  else
    (geti x.1 (1 : Int)).bind fun e =>
    loopG (s29_l0 n) n (x.1, (2 : Int), [], e, ([] : List (List UInt8)), ([] : List (List UInt8)), ())
      (fun (t4_1, c_2, c_3, to_1, _) =>
        some ((c_2, ((none : Option (List Int)), c_3)), to_1, true),
      fun (t6, t4_2, t5, _) =>
        some ((t4_2, ((none : Option (List Int)), ([] : List (List UInt8)))), t5, t6), ())

def s29_t0 : Templ := ⟨63, [(.slice .str), (.int .i64), .str, .str, (.slice .str), (.slice .str)], [(4, .v (.bptr 63 0)), (7, .v (.hole (.slice .str))), (9, .v (.bptr 64 0)), (10, .v (.hand 66)), (11, .v (.hole (.int .i64)))], [(63, .box (.pair .str (.pair (.slice (.int .i64)) (.slice .str))) [.hole .str, .nils, .nils]), (64, .box (.pair .str (.pair (.slice (.int .i64)) (.slice .str))) [.hole .str, .nils, .hand 65]), (65, .buf .str), (66, .buf .str)], []⟩
def s29_x0 : List (Way × Templ) := [(.exit 0, ⟨63, [.str, .str, (.slice .str), (.slice .str)], [(4, .v (.bptr 63 0)), (9, .v (.bptr 64 0)), (10, .v (.hand 66))], [(63, .box (.pair .str (.pair (.slice (.int .i64)) (.slice .str))) [.hole .str, .nils, .nils]), (64, .box (.pair .str (.pair (.slice (.int .i64)) (.slice .str))) [.hole .str, .nils, .hand 65]), (65, .buf .str), (66, .buf .str)], []⟩), (.ret, ⟨63, [.bool, .str, (.slice .str)], [(4, .v (.bptr 63 0)), (5, .v (.hand 64)), (6, .v (.hole .bool))], [(63, .box (.pair .str (.pair (.slice (.int .i64)) (.slice .str))) [.hole .str, .nils, .nils]), (64, .buf .str)], []⟩)]
def s29_o0 (n : Nat) : Ev (denL [(.pair .str (.pair (.sliceN (.int .i64)) (.slice .str))), (.slice .str), .bool]) := loopO n (e68 n) s29_t0 s29_x0 (s29_l0 n)
theorem s29_b0 (n : Nat) (d) (again) (ks) : codeR (R := (denL [(.pair .str (.pair (.sliceN (.int .i64)) (.slice .str))), (.slice .str), .bool])) (e68 n) (Hdl.no (R := (denL [(.pair .str (.pair (.sliceN (.int .i64)) (.slice .str))), (.slice .str), .bool]))) (inn (lp (bd Go.Proofs.Tryd.f29) 0)) [] (mk s29_t0 d) (turnR (e68 n) s29_t0 s29_x0 again ks) = s29_l0 n d again ks := by kernel_rfl
theorem s29_s0 (n : Nat) : Sound Go.Proofs.Tryd.prog (Hdl.no (R := (denL [(.pair .str (.pair (.sliceN (.int .i64)) (.slice .str))), (.slice .str), .bool]))) false (lp (bd Go.Proofs.Tryd.f29) 0) (s29_o0 n) := loop_ok (h68 n) hP (by kernel_rfl) (O := []) trivial (s29_b0 n)
def s29_c (n : Nat) : Con := ⟨[.str, (.int .i64)], [], [(.pair .str (.pair (.sliceN (.int .i64)) (.slice .str))), (.slice .str), .bool], fun x y => s29 n x.1 x.2, false⟩
theorem s29_eq (n : Nat) (x : denL [.str, (.int .i64)]) (y : denL []) : funR (e68 n) Go.Proofs.Tryd.f29 [.str, (.int .i64)] [] [(.pair .str (.pair (.sliceN (.int .i64)) (.slice .str))), (.slice .str), .bool] false [s29_o0 n] x y = (s29_c n).fn x y := by kernel_rfl
theorem s29_ok (n : Nat) : ConOK Go.Proofs.Tryd.prog 29 (s29_c n) := func_ok (h68 n) hP Go.Proofs.Tryd.func29 (by kernel_rfl) (by kernel_rfl) (O := [s29_o0 n]) ⟨s29_s0 n, trivial⟩ (s29_eq n)
def e69 (n : Nat) : Env := ⟨gT, (29, s29_c n) :: (e68 n).C, gQ, (e68 n).I, (e68 n).M, (e68 n).S, (e68 n).D, [], (e68 n).O, []⟩
theorem h69 (n : Nat) : EnvOK Go.Proofs.Tryd.prog (e69 n) := env_add (h68 n) (s29_ok n)

def s30_l0 (n : Nat) (d : (List UInt8) × Int × (List (List UInt8)) × Int × (List ((List UInt8) × (List Int) × (List (List UInt8)))) × Unit) (again : ((List UInt8) × Int × (List (List UInt8)) × Int × (List ((List UInt8) × (List Int) × (List (List UInt8)))) × Unit) → Option (Int)) (ks : (Unit → Option (Int)) × (Int × Unit → Option (Int)) × Unit) : Option (Int) :=
  match d, ks with
  | (name, i, b, b_1, b_2, _), (k0, k1, _) =>
  bif (decide (i < ((List.length b_2 : Nat) : Int))) then
    (geti b_2 i).bind fun e =>
    bif ((e.1 : List UInt8) == name) then
      k1 (i, ())
    else
      again (name, (IntKind.wrap .i64 (i + (1 : Int))), b, b_1, b_2, ())
  else
    k0 (())

/-- criadera/criaderaref07.named -/
def s30 (n : Nat) (b : (List (List UInt8)) × Int × (List ((List UInt8) × (List Int) × (List (List UInt8))))) (name : List UInt8) : Option (Int) :=
  loopG (s30_l0 n) n (name, (0 : Int), b.1, b.2.1, b.2.2, ())
    (fun (_) =>
      some ((-1 : Int)),
    fun (t4, _) =>
      some (t4), ())

def s30_t0 : Templ := ⟨22, [.str, (.int .i64), (.slice .str), (.int .i64), (.slice (.pair .str (.pair (.slice (.int .i64)) (.slice .str))))], [(1, .v (.hole .str)), (2, .v (.bptr 22 0)), (5, .v (.hole (.int .i64)))], [(22, .box (.pair (.slice .str) (.pair (.int .i64) (.slice (.pair .str (.pair (.slice (.int .i64)) (.slice .str)))))) [.hole (.slice .str), .hole (.int .i64), .hole (.slice (.pair .str (.pair (.slice (.int .i64)) (.slice .str))))])], []⟩
def s30_x0 : List (Way × Templ) := [(.exit 0, ⟨22, [], [], [], []⟩), (.ret, ⟨22, [(.int .i64)], [(4, .v (.hole (.int .i64)))], [], []⟩)]
def s30_o0 (n : Nat) : Ev (denL [(.int .i64)]) := loopO n (e69 n) s30_t0 s30_x0 (s30_l0 n)
theorem s30_b0 (n : Nat) (d) (again) (ks) : codeR (R := (denL [(.int .i64)])) (e69 n) (Hdl.no (R := (denL [(.int .i64)]))) (inn (lp (bd Go.Proofs.Tryd.f30) 0)) [] (mk s30_t0 d) (turnR (e69 n) s30_t0 s30_x0 again ks) = s30_l0 n d again ks := by kernel_rfl
theorem s30_s0 (n : Nat) : Sound Go.Proofs.Tryd.prog (Hdl.no (R := (denL [(.int .i64)]))) false (lp (bd Go.Proofs.Tryd.f30) 0) (s30_o0 n) := loop_ok (h69 n) hP (by kernel_rfl) (O := []) trivial (s30_b0 n)
def s30_c (n : Nat) : Con := ⟨[(.pair (.slice .str) (.pair (.int .i64) (.slice (.pair .str (.pair (.slice (.int .i64)) (.slice .str)))))), .str], [], [(.int .i64)], fun x y => s30 n x.1 x.2, false⟩
theorem s30_eq (n : Nat) (x : denL [(.pair (.slice .str) (.pair (.int .i64) (.slice (.pair .str (.pair (.slice (.int .i64)) (.slice .str)))))), .str]) (y : denL []) : funR (e69 n) Go.Proofs.Tryd.f30 [(.pair (.slice .str) (.pair (.int .i64) (.slice (.pair .str (.pair (.slice (.int .i64)) (.slice .str)))))), .str] [] [(.int .i64)] false [s30_o0 n] x y = (s30_c n).fn x y := by kernel_rfl
theorem s30_ok (n : Nat) : ConOK Go.Proofs.Tryd.prog 30 (s30_c n) := func_ok (h69 n) hP Go.Proofs.Tryd.func30 (by kernel_rfl) (by kernel_rfl) (O := [s30_o0 n]) ⟨s30_s0 n, trivial⟩ (s30_eq n)
def e70 (n : Nat) : Env := ⟨gT, (30, s30_c n) :: (e69 n).C, gQ, (e69 n).I, (e69 n).M, (e69 n).S, (e69 n).D, [], (e69 n).O, []⟩
theorem h70 (n : Nat) : EnvOK Go.Proofs.Tryd.prog (e70 n) := env_add (h69 n) (s30_ok n)

def s63_l0 (n : Nat) (d : (List UInt8) × Int × Unit) (again : ((List UInt8) × Int × Unit) → Option (Bool)) (ks : (Unit → Option (Bool)) × (Bool × Unit → Option (Bool)) × Unit) : Option (Bool) :=
  match d, ks with
  | (s, i, _), (k0, k1, _) =>
  bif (decide (i < ((List.length s : Nat) : Int))) then
    (geti s i).bind fun c =>
    bif ((!(((decide (((UInt8.toNat c : Nat) : Int) ≥ (97 : Int))) && (decide (((UInt8.toNat c : Nat) : Int) ≤ (122 : Int)))) || ((decide (((UInt8.toNat c : Nat) : Int) ≥ (65 : Int))) && (decide (((UInt8.toNat c : Nat) : Int) ≤ (90 : Int)))))) && ((i == (0 : Int)) || ((((UInt8.toNat c : Nat) : Int) != (45 : Int)) && ((decide (((UInt8.toNat c : Nat) : Int) < (48 : Int))) || (decide (((UInt8.toNat c : Nat) : Int) > (57 : Int))))))) then
      k1 (false, ())
    else
      again (s, (IntKind.wrap .i64 (i + (1 : Int))), ())
  else
    k0 (())

/-- criadera/criaderabase.IsName -/
def s63 (n : Nat) (s : List UInt8) : Option (Bool) :=
  bif ((decide (((List.length s : Nat) : Int) < (1 : Int))) || (decide (((List.length s : Nat) : Int) > (12 : Int)))) then
    some (false)
  else
    loopG (s63_l0 n) n (s, (0 : Int), ())
      (fun (_) =>
        some (true),
      fun (t2, _) =>
        some (t2), ())

def s63_t0 : Templ := ⟨55, [.str, (.int .i64)], [(0, .v (.hole .str)), (3, .v (.hole (.int .i64)))], [], []⟩
def s63_x0 : List (Way × Templ) := [(.exit 0, ⟨55, [], [], [], []⟩), (.ret, ⟨55, [.bool], [(2, .v (.hole .bool))], [], []⟩)]
def s63_o0 (n : Nat) : Ev (denL [.bool]) := loopO n (e70 n) s63_t0 s63_x0 (s63_l0 n)
theorem s63_b0 (n : Nat) (d) (again) (ks) : codeR (R := (denL [.bool])) (e70 n) (Hdl.no (R := (denL [.bool]))) (inn (lp (bd Go.Proofs.Tryd.f63) 0)) [] (mk s63_t0 d) (turnR (e70 n) s63_t0 s63_x0 again ks) = s63_l0 n d again ks := by kernel_rfl
theorem s63_s0 (n : Nat) : Sound Go.Proofs.Tryd.prog (Hdl.no (R := (denL [.bool]))) false (lp (bd Go.Proofs.Tryd.f63) 0) (s63_o0 n) := loop_ok (h70 n) hP (by kernel_rfl) (O := []) trivial (s63_b0 n)
def s63_c (n : Nat) : Con := ⟨[.str], [], [.bool], fun x y => s63 n x, false⟩
theorem s63_eq (n : Nat) (x : denL [.str]) (y : denL []) : funR (e70 n) Go.Proofs.Tryd.f63 [.str] [] [.bool] false [s63_o0 n] x y = (s63_c n).fn x y := by kernel_rfl
theorem s63_ok (n : Nat) : ConOK Go.Proofs.Tryd.prog 63 (s63_c n) := func_ok (h70 n) hP Go.Proofs.Tryd.func63 (by kernel_rfl) (by kernel_rfl) (O := [s63_o0 n]) ⟨s63_s0 n, trivial⟩ (s63_eq n)
def e71 (n : Nat) : Env := ⟨gT, (63, s63_c n) :: (e70 n).C, gQ, (e70 n).I, (e70 n).M, (e70 n).S, (e70 n).D, [], (e70 n).O, []⟩
theorem h71 (n : Nat) : EnvOK Go.Proofs.Tryd.prog (e71 n) := env_add (h70 n) (s63_ok n)

/-- criadera/criaderabase.Within -/
def s64 (n : Nat) (v_n : Int) (lo : Int) (hi : Int) : Option (Bool) :=
  some (((decide (lo ≤ v_n)) && (decide (v_n ≤ hi))))

def s64_c (n : Nat) : Con := ⟨[(.int .i64), (.int .i64), (.int .i64)], [], [.bool], fun x y => s64 n x.1 x.2.1 x.2.2, false⟩
theorem s64_eq (n : Nat) (x : denL [(.int .i64), (.int .i64), (.int .i64)]) (y : denL []) : funR (e71 n) Go.Proofs.Tryd.f64 [(.int .i64), (.int .i64), (.int .i64)] [] [.bool] false [] x y = (s64_c n).fn x y := by kernel_rfl
theorem s64_ok (n : Nat) : ConOK Go.Proofs.Tryd.prog 64 (s64_c n) := func_ok (h71 n) hP Go.Proofs.Tryd.func64 (by kernel_rfl) (by kernel_rfl) (O := []) trivial (s64_eq n)
def e72 (n : Nat) : Env := ⟨gT, (64, s64_c n) :: (e71 n).C, gQ, (e71 n).I, (e71 n).M, (e71 n).S, (e71 n).D, [], (e71 n).O, []⟩
theorem h72 (n : Nat) : EnvOK Go.Proofs.Tryd.prog (e72 n) := env_add (h71 n) (s64_ok n)

def s65_l0 (n : Nat) (d : Int × Int × (List (List UInt8)) × Int × (List ((List UInt8) × (List Int) × (List (List UInt8)))) × (List UInt8) × (List Int) × (List (List UInt8)) × Unit) (again : (Int × Int × (List (List UInt8)) × Int × (List ((List UInt8) × (List Int) × (List (List UInt8)))) × (List UInt8) × (List Int) × (List (List UInt8)) × Unit) → Option (Int)) (ks : ((List (List UInt8)) × Int × (List ((List UInt8) × (List Int) × (List (List UInt8)))) × (List UInt8) × (List Int) × (List (List UInt8)) × Unit → Option (Int)) × (Int × Unit → Option (Int)) × Unit) : Option (Int) :=
  match d, ks with
  | (i, v_k, b, b_1, b_2, c, c_1, c_2, _), (k0, k1, _) =>
  bif (decide (v_k < i)) then
    (geti b_2 v_k).bind fun e =>
    bif ((e.1 : List UInt8) == c) then
      k1 ((5 : Int), ())
    else
      again (i, (IntKind.wrap .i64 (v_k + (1 : Int))), b, b_1, b_2, c, c_1, c_2, ())
  else
    k0 (b, b_1, b_2, c, c_1, c_2, ())

def s65_l1 (n : Nat) (d : Int × (List (List UInt8)) × Int × (List ((List UInt8) × (List Int) × (List (List UInt8)))) × (List UInt8) × (List Int) × (List (List UInt8)) × Unit) (again : (Int × (List (List UInt8)) × Int × (List ((List UInt8) × (List Int) × (List (List UInt8)))) × (List UInt8) × (List Int) × (List (List UInt8)) × Unit) → Option (Int)) (ks : ((List UInt8) × (List Int) × (List (List UInt8)) × Unit → Option (Int)) × (Int × Unit → Option (Int)) × Unit) : Option (Int) :=
  match d, ks with
  | (v_k, b, b_1, b_2, c, c_1, c_2, _), (k0, k1, _) =>
  bif (decide (v_k < ((List.length c_1 : Nat) : Int))) then
    (geti c_1 v_k).bind fun e =>
    (s64 n e (0 : Int) (IntKind.wrap .i64 (((List.length b_2 : Nat) : Int) - (1 : Int)))).bind fun x =>
    bif (!x) then
      k1 ((6 : Int), ())
    else
      again ((IntKind.wrap .i64 (v_k + (1 : Int))), b, b_1, b_2, c, c_1, c_2, ())
  else
    k0 (c, c_1, c_2, ())

def s65_l2 (n : Nat) (d : Int × (List UInt8) × (List Int) × (List (List UInt8)) × Unit) (again : (Int × (List UInt8) × (List Int) × (List (List UInt8)) × Unit) → Option (Int)) (ks : (Unit → Option (Int)) × (Int × Unit → Option (Int)) × Unit) : Option (Int) :=
  match d, ks with
  | (v_k, c, c_1, c_2, _), (k0, k1, _) =>
  bif (decide (v_k < ((List.length c_2 : Nat) : Int))) then
    (geti c_2 v_k).bind fun e =>
    (s63 n e).bind fun x =>
    bif (!x) then
      k1 ((4 : Int), ())
    else
      again ((IntKind.wrap .i64 (v_k + (1 : Int))), c, c_1, c_2, ())
  else
    k0 (())

/-- criadera/criaderaref07.classErr -/
def s65 (n : Nat) (b : (List (List UInt8)) × Int × (List ((List UInt8) × (List Int) × (List (List UInt8))))) (i : Int) : Option (Int) :=
  (geti b.2.2 i).bind fun e =>
  (s63 n e.1).bind fun x =>
  bif (!x) then
    some ((4 : Int))
  else
    loopG (s65_l0 n) n (i, (0 : Int), b.1, b.2.1, b.2.2, e.1, e.2.1, e.2.2, ())
      (fun (b_4, b_5, b_6, c_3, c_4, c_5, _) =>
        bif ((((List.length c_4 : Nat) : Int) != ((List.length b_4 : Nat) : Int)) || (((List.length c_5 : Nat) : Int) != ((List.length b_4 : Nat) : Int))) then
          some ((10 : Int))
        else
          loopG (s65_l1 n) n ((0 : Int), b_4, b_5, b_6, c_3, c_4, c_5, ())
            (fun (c_9, c_10, c_11, _) =>
              loopG (s65_l2 n) n ((0 : Int), c_9, c_10, c_11, ())
                (fun (_) =>
                  some ((0 : Int)),
                fun (t4, _) =>
                  some (t4), ()),
            fun (t4_1, _) =>
              some (t4_1), ()),
      fun (t4_2, _) =>
        some (t4_2), ())

def s65_t0 : Templ := ⟨80, [(.int .i64), (.int .i64), (.slice .str), (.int .i64), (.slice (.pair .str (.pair (.slice (.int .i64)) (.slice .str)))), .str, (.slice (.int .i64)), (.slice .str)], [(1, .v (.hole (.int .i64))), (2, .v (.bptr 80 0)), (5, .v (.bptr 81 0)), (6, .v (.hole (.int .i64)))], [(80, .box (.pair (.slice .str) (.pair (.int .i64) (.slice (.pair .str (.pair (.slice (.int .i64)) (.slice .str)))))) [.hole (.slice .str), .hole (.int .i64), .hole (.slice (.pair .str (.pair (.slice (.int .i64)) (.slice .str))))]), (81, .box (.pair .str (.pair (.slice (.int .i64)) (.slice .str))) [.hole .str, .hole (.slice (.int .i64)), .hole (.slice .str)])], []⟩
def s65_x0 : List (Way × Templ) := [(.exit 0, ⟨80, [(.slice .str), (.int .i64), (.slice (.pair .str (.pair (.slice (.int .i64)) (.slice .str)))), .str, (.slice (.int .i64)), (.slice .str)], [(2, .v (.bptr 80 0)), (5, .v (.bptr 81 0))], [(80, .box (.pair (.slice .str) (.pair (.int .i64) (.slice (.pair .str (.pair (.slice (.int .i64)) (.slice .str)))))) [.hole (.slice .str), .hole (.int .i64), .hole (.slice (.pair .str (.pair (.slice (.int .i64)) (.slice .str))))]), (81, .box (.pair .str (.pair (.slice (.int .i64)) (.slice .str))) [.hole .str, .hole (.slice (.int .i64)), .hole (.slice .str)])], []⟩), (.ret, ⟨80, [(.int .i64)], [(4, .v (.hole (.int .i64)))], [], []⟩)]
def s65_o0 (n : Nat) : Ev (denL [(.int .i64)]) := loopO n (e72 n) s65_t0 s65_x0 (s65_l0 n)
theorem s65_b0 (n : Nat) (d) (again) (ks) : codeR (R := (denL [(.int .i64)])) (e72 n) (Hdl.no (R := (denL [(.int .i64)]))) (inn (lp (bd Go.Proofs.Tryd.f65) 0)) [] (mk s65_t0 d) (turnR (e72 n) s65_t0 s65_x0 again ks) = s65_l0 n d again ks := by kernel_rfl
theorem s65_s0 (n : Nat) : Sound Go.Proofs.Tryd.prog (Hdl.no (R := (denL [(.int .i64)]))) false (lp (bd Go.Proofs.Tryd.f65) 0) (s65_o0 n) := loop_ok (h72 n) hP (by kernel_rfl) (O := []) trivial (s65_b0 n)
def s65_t1 : Templ := ⟨80, [(.int .i64), (.slice .str), (.int .i64), (.slice (.pair .str (.pair (.slice (.int .i64)) (.slice .str)))), .str, (.slice (.int .i64)), (.slice .str)], [(2, .v (.bptr 80 0)), (5, .v (.bptr 81 0)), (7, .v (.hole (.int .i64)))], [(80, .box (.pair (.slice .str) (.pair (.int .i64) (.slice (.pair .str (.pair (.slice (.int .i64)) (.slice .str)))))) [.hole (.slice .str), .hole (.int .i64), .hole (.slice (.pair .str (.pair (.slice (.int .i64)) (.slice .str))))]), (81, .box (.pair .str (.pair (.slice (.int .i64)) (.slice .str))) [.hole .str, .hole (.slice (.int .i64)), .hole (.slice .str)])], []⟩
def s65_x1 : List (Way × Templ) := [(.exit 2, ⟨80, [.str, (.slice (.int .i64)), (.slice .str)], [(5, .v (.bptr 80 0))], [(80, .box (.pair .str (.pair (.slice (.int .i64)) (.slice .str))) [.hole .str, .hole (.slice (.int .i64)), .hole (.slice .str)])], []⟩), (.ret, ⟨80, [(.int .i64)], [(4, .v (.hole (.int .i64)))], [], []⟩)]
def s65_o1 (n : Nat) : Ev (denL [(.int .i64)]) := loopO n (e72 n) s65_t1 s65_x1 (s65_l1 n)
theorem s65_b1 (n : Nat) (d) (again) (ks) : codeR (R := (denL [(.int .i64)])) (e72 n) (Hdl.no (R := (denL [(.int .i64)]))) (inn (lp (bd Go.Proofs.Tryd.f65) 1)) [] (mk s65_t1 d) (turnR (e72 n) s65_t1 s65_x1 again ks) = s65_l1 n d again ks := by kernel_rfl
theorem s65_s1 (n : Nat) : Sound Go.Proofs.Tryd.prog (Hdl.no (R := (denL [(.int .i64)]))) false (lp (bd Go.Proofs.Tryd.f65) 1) (s65_o1 n) := loop_ok (h72 n) hP (by kernel_rfl) (O := []) trivial (s65_b1 n)
def s65_t2 : Templ := ⟨80, [(.int .i64), .str, (.slice (.int .i64)), (.slice .str)], [(5, .v (.bptr 80 0)), (8, .v (.hole (.int .i64)))], [(80, .box (.pair .str (.pair (.slice (.int .i64)) (.slice .str))) [.hole .str, .hole (.slice (.int .i64)), .hole (.slice .str)])], []⟩
def s65_x2 : List (Way × Templ) := [(.exit 4, ⟨80, [], [], [], []⟩), (.ret, ⟨80, [(.int .i64)], [(4, .v (.hole (.int .i64)))], [], []⟩)]
def s65_o2 (n : Nat) : Ev (denL [(.int .i64)]) := loopO n (e72 n) s65_t2 s65_x2 (s65_l2 n)
theorem s65_b2 (n : Nat) (d) (again) (ks) : codeR (R := (denL [(.int .i64)])) (e72 n) (Hdl.no (R := (denL [(.int .i64)]))) (inn (lp (bd Go.Proofs.Tryd.f65) 2)) [] (mk s65_t2 d) (turnR (e72 n) s65_t2 s65_x2 again ks) = s65_l2 n d again ks := by kernel_rfl
theorem s65_s2 (n : Nat) : Sound Go.Proofs.Tryd.prog (Hdl.no (R := (denL [(.int .i64)]))) false (lp (bd Go.Proofs.Tryd.f65) 2) (s65_o2 n) := loop_ok (h72 n) hP (by kernel_rfl) (O := []) trivial (s65_b2 n)
def s65_c (n : Nat) : Con := ⟨[(.pair (.slice .str) (.pair (.int .i64) (.slice (.pair .str (.pair (.slice (.int .i64)) (.slice .str)))))), (.int .i64)], [], [(.int .i64)], fun x y => s65 n x.1 x.2, false⟩
theorem s65_eq (n : Nat) (x : denL [(.pair (.slice .str) (.pair (.int .i64) (.slice (.pair .str (.pair (.slice (.int .i64)) (.slice .str)))))), (.int .i64)]) (y : denL []) : funR (e72 n) Go.Proofs.Tryd.f65 [(.pair (.slice .str) (.pair (.int .i64) (.slice (.pair .str (.pair (.slice (.int .i64)) (.slice .str)))))), (.int .i64)] [] [(.int .i64)] false [s65_o0 n, s65_o1 n, s65_o2 n] x y = (s65_c n).fn x y := by kernel_rfl
theorem s65_ok (n : Nat) : ConOK Go.Proofs.Tryd.prog 65 (s65_c n) := func_ok (h72 n) hP Go.Proofs.Tryd.func65 (by kernel_rfl) (by kernel_rfl) (O := [s65_o0 n, s65_o1 n, s65_o2 n]) ⟨s65_s0 n, s65_s1 n, s65_s2 n, trivial⟩ (s65_eq n)
def e73 (n : Nat) : Env := ⟨gT, (65, s65_c n) :: (e72 n).C, gQ, (e72 n).I, (e72 n).M, (e72 n).S, (e72 n).D, [], (e72 n).O, []⟩
theorem h73 (n : Nat) : EnvOK Go.Proofs.Tryd.prog (e73 n) := env_add (h72 n) (s65_ok n)

end Go.Abs
