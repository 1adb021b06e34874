/- Parts of one proof, joined: The least rule book, as data: its classes in the order of the first marks that reach their sets. The least rule book is right, leads to the same ranks, and its own least one is itself. The program's sets, Alike and Least. The program's Least. The reference's Alike and Least. The reference's Least. TasteLeast, in plain words. -/
import Derived.Test.YtbcbiemjokpghaaL5
set_option linter.unusedSimpArgs false
set_option linter.unusedVariables false
namespace Go.Abs
open Go

/-! Lists of what words lead to, by their least words. -/
structure Lst (R : List Int → Int) (M : Nat) (X : List (Int × List Int)) : Prop where
  nodup : (X.map Prod.fst).Nodup
  sorted : X.Pairwise fun a b => codeW M a.2 < codeW M b.2
  path : ∀ u ∈ X, R u.2 = u.1
  rng : ∀ u ∈ X, validW M u.2
  least : ∀ w, validW M w → ∃ u ∈ X, u.1 = R w ∧ codeW M u.2 ≤ codeW M w

theorem fst_inj {X : List (Int × List Int)} (h : (X.map Prod.fst).Nodup) {u v : Int × List Int} (hu : u ∈ X) (hv : v ∈ X) (e : u.1 = v.1) : u = v := by
  induction X with
  | nil => cases hu
  | cons x X ih =>
    rw [List.map_cons, List.nodup_cons] at h
    rcases List.mem_cons.1 hu with e1 | hu1 <;> rcases List.mem_cons.1 hv with e2 | hv1
    · rw [e1, e2]
    · exact absurd (List.mem_map.2 ⟨v, hv1, by rw [← e, e1]⟩) h.1
    · exact absurd (List.mem_map.2 ⟨u, hu1, by rw [e, e2]⟩) h.1
    · exact ih h.2 hu1 hv1

theorem sorted_eq : ∀ (X Y : List (Int × Nat)), X.Pairwise (fun a b => a.2 < b.2) → Y.Pairwise (fun a b => a.2 < b.2) → (∀ p, p ∈ X ↔ p ∈ Y) → X = Y
  | [], [], _, _, _ => rfl
  | [], y :: Y, _, _, h => by have := (h y).2 List.mem_cons_self; cases this
  | x :: X, [], _, _, h => by have := (h x).1 List.mem_cons_self; cases this
  | x :: X, y :: Y, hx, hy, h => by
    rw [List.pairwise_cons] at hx hy
    have e : x = y := by
      rcases List.mem_cons.1 ((h x).1 List.mem_cons_self) with e | h1
      · exact e
      · rcases List.mem_cons.1 ((h y).2 List.mem_cons_self) with e | h2
        · exact e.symm
        · have := hx.1 y h2
          have := hy.1 x h1
          omega
    subst e
    rw [sorted_eq X Y hx.2 hy.2 fun p => ⟨fun hp => ?_, fun hp => ?_⟩]
    · rcases List.mem_cons.1 ((h p).1 (List.mem_cons_of_mem _ hp)) with e | h1
      · subst e
        have := hx.1 p hp; omega
      · exact h1
    · rcases List.mem_cons.1 ((h p).2 (List.mem_cons_of_mem _ hp)) with e | h1
      · subst e
        have := hy.1 p hp; omega
      · exact h1

theorem Lst.sub {R : List Int → Int} {M : Nat} {X Y : List (Int × List Int)} (hx : Lst R M X) (hy : Lst R M Y) {p : Int × Nat} (hp : p ∈ X.map fun u => (u.1, codeW M u.2)) : p ∈ Y.map fun u => (u.1, codeW M u.2) := by
  obtain ⟨u, hu, rfl⟩ := List.mem_map.1 hp
  obtain ⟨y, h1, h2, h3⟩ := hy.least u.2 (hx.rng u hu)
  rw [hx.path u hu] at h2
  obtain ⟨x, k1, k2, k3⟩ := hx.least y.2 (hy.rng y h1)
  rw [hy.path y h1, h2] at k2
  have := fst_inj hx.nodup k1 hu k2
  subst this
  exact List.mem_map.2 ⟨y, h1, by rw [h2, Nat.le_antisymm h3 k3]⟩

/-- There is one such list, but for the words. -/
theorem Lst.uniq {R : List Int → Int} {M : Nat} {X Y : List (Int × List Int)} (hx : Lst R M X) (hy : Lst R M Y) : X.map Prod.fst = Y.map Prod.fst := by
  have e : X.map (fun u => (u.1, codeW M u.2)) = Y.map (fun u => (u.1, codeW M u.2)) := by
    refine sorted_eq _ _ ?_ ?_ fun p => ⟨fun h => hx.sub hy h, fun h => hy.sub hx h⟩
    · rw [List.pairwise_map]; exact hx.sorted
    · rw [List.pairwise_map]; exact hy.sorted
  have := congrArg (List.map Prod.fst) e
  simpa [List.map_map, Function.comp_def] using this

theorem Found.lst {nx : Int → Nat → Int} {M : Nat} {Good : Int → Prop} {b0 : Int} {D : List (Int × List Int)} (h : Found nx M Good b0 D) : Lst (runW nx b0) M D :=
  ⟨h.inv.nodup, h.inv.sorted, h.inv.path, h.inv.rng, h.least⟩

theorem Lst.congr {R R' : List Int → Int} {M : Nat} {X : List (Int × List Int)} (h : Lst R M X) (e : ∀ w, validW M w → R w = R' w) : Lst R' M X :=
  ⟨h.nodup, h.sorted, fun u hu => by rw [← e _ (h.rng u hu)]; exact h.path u hu, h.rng, fun w hw => by rw [← e w hw]; exact h.least w hw⟩

/-- Each set once, where it comes first. -/
def dedE (S : Int → Int) (D : List (Int × List Int)) : List (Int × List Int) := D.foldl (fun acc e => if S e.1 ∈ acc.map Prod.fst then acc else acc ++ [(S e.1, e.2)]) []
theorem dedE_snoc (S : Int → Int) (D : List (Int × List Int)) (e : Int × List Int) : dedE S (D ++ [e]) = if S e.1 ∈ (dedE S D).map Prod.fst then dedE S D else dedE S D ++ [(S e.1, e.2)] := by
  unfold dedE
  rw [List.foldl_append]
  rfl

theorem dedE_mem (S : Int → Int) (D : List (Int × List Int)) : (∀ u ∈ dedE S D, ∃ e ∈ D, u = (S e.1, e.2)) ∧ ∀ e ∈ D, S e.1 ∈ (dedE S D).map Prod.fst := by
  induction D using snoc_rec with
  | h0 => exact ⟨fun u hu => by simp [dedE] at hu, fun e he => by cases he⟩
  | h1 D e ih =>
    rw [dedE_snoc]
    split
    · rename_i hin
      refine ⟨fun u hu => ?_, fun e' he' => ?_⟩
      · obtain ⟨e', h1, h2⟩ := ih.1 u hu
        exact ⟨e', List.mem_append_left _ h1, h2⟩
      · rcases List.mem_append.1 he' with h | h
        · exact ih.2 e' h
        · have : e' = e := by simpa using h
          rw [this]; exact hin
    · refine ⟨fun u hu => ?_, fun e' he' => ?_⟩
      · rcases List.mem_append.1 hu with h | h
        · obtain ⟨e', h1, h2⟩ := ih.1 u h
          exact ⟨e', List.mem_append_left _ h1, h2⟩
        · have : u = (S e.1, e.2) := by simpa using h
          exact ⟨e, by simp, this⟩
      · rw [List.map_append]
        rcases List.mem_append.1 he' with h | h
        · exact List.mem_append_left _ (ih.2 e' h)
        · have : e' = e := by simpa using h
          rw [this]; simp

theorem dedE_lst {R : List Int → Int} {M : Nat} (S : Int → Int) {D : List (Int × List Int)} (h : Lst R M D) : Lst (fun w => S (R w)) M (dedE S D) := by
  have key : ∀ D : List (Int × List Int), D.Pairwise (fun a b => codeW M a.2 < codeW M b.2) → ((dedE S D).map Prod.fst).Nodup ∧ (dedE S D).Pairwise (fun a b => codeW M a.2 < codeW M b.2) ∧
      ∀ e ∈ D, ∃ u ∈ dedE S D, u.1 = S e.1 ∧ codeW M u.2 ≤ codeW M e.2 := by
    intro D
    induction D using snoc_rec with
    | h0 => exact fun _ => ⟨by simp [dedE], by simp [dedE], fun e he => by cases he⟩
    | h1 D e ih =>
      intro hs
      rw [List.pairwise_append] at hs
      obtain ⟨i1, i2, i3⟩ := ih hs.1
      have hlast : ∀ u ∈ dedE S D, codeW M u.2 < codeW M e.2 := by
        intro u hu
        obtain ⟨e', h1, h2⟩ := (dedE_mem S D).1 u hu
        rw [h2]
        exact hs.2.2 e' h1 e (by simp)
      rw [dedE_snoc]
      split
      · rename_i hin
        refine ⟨i1, i2, fun e' he' => ?_⟩
        rcases List.mem_append.1 he' with h | h
        · exact i3 e' h
        · have : e' = e := by simpa using h
          subst this
          obtain ⟨u, hu, hue⟩ := List.mem_map.1 hin
          exact ⟨u, hu, hue, Nat.le_of_lt (hlast u hu)⟩
      · rename_i hin
        refine ⟨?_, ?_, fun e' he' => ?_⟩
        · rw [List.map_append, List.nodup_append]
          refine ⟨i1, by simp, fun x hx y hy => ?_⟩
          have : y = S e.1 := by simpa using hy
          subst this
          exact fun heq => hin (heq ▸ hx)
        · rw [List.pairwise_append]
          refine ⟨i2, by simp, fun u hu v hv => ?_⟩
          have : v = (S e.1, e.2) := by simpa using hv
          subst this
          exact hlast u hu
        · rcases List.mem_append.1 he' with h | h
          · obtain ⟨u, h1, h2⟩ := i3 e' h
            exact ⟨u, List.mem_append_left _ h1, h2⟩
          · have : e' = e := by simpa using h
            subst this
            exact ⟨(S e'.1, e'.2), by simp, rfl, Nat.le_refl _⟩
  obtain ⟨k1, k2, k3⟩ := key D h.sorted
  refine ⟨k1, k2, fun u hu => ?_, fun u hu => ?_, fun w hw => ?_⟩
  · obtain ⟨e, h1, h2⟩ := (dedE_mem S D).1 u hu
    rw [h2]
    show S (R e.2) = S e.1
    rw [h.path e h1]
  · obtain ⟨e, h1, h2⟩ := (dedE_mem S D).1 u hu
    rw [h2]
    exact h.rng e h1
  · obtain ⟨e, h1, h2, h3⟩ := h.least w hw
    obtain ⟨u, h4, h5, h6⟩ := k3 e h1
    exact ⟨u, h4, by rw [h5, h2], Nat.le_trans h6 h3⟩

/-- The least class of a set, among these. -/
def mnS (S : Int → Int) (P : List Int) (j : Int) : Option Int := P.foldl (fun acc x => if S x = j then some (match acc with | none => x | some h => if x < h then x else h) else acc) none
theorem mnS_snoc (S : Int → Int) (P : List Int) (x j : Int) : mnS S (P ++ [x]) j = if S x = j then some (match mnS S P j with | none => x | some h => if x < h then x else h) else mnS S P j := by
  simp [mnS, List.foldl_append]

theorem mnS_spec (S : Int → Int) (P : List Int) (j : Int) : (mnS S P j = none ∧ ∀ x ∈ P, S x ≠ j) ∨ ∃ h, mnS S P j = some h ∧ h ∈ P ∧ S h = j := by
  induction P using snoc_rec with
  | h0 => exact .inl ⟨rfl, fun x hx => by cases hx⟩
  | h1 P x ih =>
    rw [mnS_snoc]
    by_cases hx : S x = j
    · rw [if_pos hx]
      right
      rcases ih with ⟨h1, h2⟩ | ⟨h, h1, h2, h3⟩
      · rw [h1]; exact ⟨x, rfl, by simp, hx⟩
      · rw [h1]
        by_cases hlt : x < h
        · exact ⟨x, by simp [hlt], by simp, hx⟩
        · exact ⟨h, by simp [hlt], List.mem_append_left _ h2, h3⟩
    · rw [if_neg hx]
      rcases ih with ⟨h1, h2⟩ | ⟨h, h1, h2, h3⟩
      · left
        refine ⟨h1, fun y hy => ?_⟩
        rcases List.mem_append.1 hy with hy | hy
        · exact h2 y hy
        · have : y = x := by simpa using hy
          rw [this]; exact hx
      · exact .inr ⟨h, h1, List.mem_append_left _ h2, h3⟩

theorem mnS_one {S : Int → Int} {P : List Int} {k : Int} (hk : k ∈ P) (h : ∀ x ∈ P, S x = x) : mnS S P k = some k := by
  rcases mnS_spec S P k with ⟨_, h2⟩ | ⟨y, h1, h2, h3⟩
  · exact absurd (h k hk) (h2 k hk)
  · rw [h y h2] at h3
    rw [h1, h3]

/-! The least rule book. -/
section
variable (b : Book)
/-- Classes that are reached, in the order of their first marks; of a set, its least class that is reached; where a mark leads a set. -/
def reC : List Int := (reachB b b.2.1).map Prod.fst
def mrB (j : Int) : Int := (mnS (setB b) (reC b) j).getD 0
def nxS (j : Int) (m : Nat) : Int := setB b (nxB b (mrB b j) m)
def quo : List (Int × List Int) := bfs (nxS b) b.1.length b.2.2.length (setB b b.2.1)
def orB : List Int := (quo b).map Prod.fst
def numB (j : Int) : Int := ((orB b).idxOf j : Nat)
def clsB (c : Int) : Cls := let q := b.2.2.getD c.toNat ([], [], []); (q.1, q.2.1.map (fun to => numB b (setB b to)), q.2.2)
def leastB : Book := (b.1, 0, (orB b).map fun j => clsB b (mrB b j))
end

theorem reC_in {b : Book} (h : GoodB b) {c : Int} (hc : c ∈ reC b) : inB b c := by
  obtain ⟨e, he, rfl⟩ := List.mem_map.1 hc
  exact (reachB_found h h.begin').inv.good e he

theorem reC_run {b : Book} (h : GoodB b) {w : List Int} (hw : validW b.1.length w) : runW (nxB b) b.2.1 w ∈ reC b := by
  obtain ⟨u, hu, hu1, _⟩ := (reachB_found h h.begin').least w hw
  rw [← hu1]
  exact List.mem_map_of_mem hu

theorem reC_begin {b : Book} (h : GoodB b) : b.2.1 ∈ reC b := by
  have := reC_run h (w := []) (fun x hx => by cases hx)
  exact this

theorem reC_next {b : Book} (h : GoodB b) {c : Int} (hc : c ∈ reC b) {m : Nat} (hm : m < b.1.length) : nxB b c m ∈ reC b := by
  obtain ⟨e, he, rfl⟩ := List.mem_map.1 hc
  have hF := reachB_found h h.begin'
  have := reC_run h (w := e.2 ++ [(m : Int)]) (validW.snoc (hF.inv.rng e he) hm)
  rw [runW_snoc, hF.inv.path e he] at this
  exact this

/-- Sets that are reached. -/
def inS (b : Book) (j : Int) : Prop := ∃ c ∈ reC b, setB b c = j

theorem mrB_spec {b : Book} (h : GoodB b) {j : Int} (hj : inS b j) : mrB b j ∈ reC b ∧ setB b (mrB b j) = j ∧ mnS (setB b) (reC b) j = some (mrB b j) := by
  obtain ⟨c, hc, rfl⟩ := hj
  unfold mrB
  rcases mnS_spec (setB b) (reC b) (setB b c) with ⟨_, h2⟩ | ⟨y, h1, h2, h3⟩
  · exact absurd rfl (h2 c hc)
  · rw [h1]; exact ⟨h2, h3, rfl⟩

theorem nxS_set {b : Book} (h : GoodB b) {c : Int} (hc : c ∈ reC b) {m : Nat} (hm : m < b.1.length) : nxS b (setB b c) m = setB b (nxB b c m) := by
  obtain ⟨h1, h2, _⟩ := mrB_spec h ⟨c, hc, rfl⟩
  unfold nxS
  have a1 := (setB_eq h (reC_in h h1) (reC_in h hc)).1 h2
  exact (setB_eq h (h.nx (reC_in h h1) hm).2 (h.nx (reC_in h hc) hm).2).2 (apB_next h (reC_in h h1) (reC_in h hc) a1 hm)

theorem nxS_in {b : Book} (h : GoodB b) {j : Int} (hj : inS b j) {m : Nat} (hm : m < b.1.length) : inS b (nxS b j m) := by
  obtain ⟨c, hc, rfl⟩ := hj
  exact ⟨nxB b c m, reC_next h hc hm, (nxS_set h hc hm).symm⟩

theorem nxS_run {b : Book} (h : GoodB b) (w : List Int) : ∀ {c : Int}, c ∈ reC b → validW b.1.length w → runW (nxS b) (setB b c) w = setB b (runW (nxB b) c w) := by
  induction w with
  | nil => intro c _ _; rfl
  | cons x w ih =>
    intro c hc hw
    obtain ⟨m, rfl⟩ : ∃ m : Nat, x = (m : Int) := ⟨x.toNat, by have := hw x List.mem_cons_self; omega⟩
    have hm : m < b.1.length := by have := hw (m : Int) List.mem_cons_self; omega
    rw [runW_cons, runW_cons, Int.toNat_natCast, nxS_set h hc hm]
    exact ih (reC_next h hc hm) fun y hy => hw y (List.mem_cons_of_mem _ hy)

theorem inS_size {b : Book} (h : GoodB b) : ∀ l : List Int, l.Nodup → (∀ x ∈ l, inS b x) → l.length ≤ b.2.2.length := fun l hl hb =>
  nodup_lt _ l hl fun x hx => by
    obtain ⟨c, hc, rfl⟩ := hb x hx
    exact setB_lt h (reC_in h hc)

theorem quo_found {b : Book} (h : GoodB b) : Found (nxS b) b.1.length (inS b) (setB b b.2.1) (quo b) :=
  bfs_found ⟨_, reC_begin h, rfl⟩ (fun s hs m hm => nxS_in h hs hm) (inS_size h)

theorem quo_lst {b : Book} (h : GoodB b) : Lst (fun w => setB b (runW (nxB b) b.2.1 w)) b.1.length (quo b) :=
  (quo_found h).lst.congr fun w hw => nxS_run h w (reC_begin h) hw

/-- The sets' order is that in which the classes' sets come first. -/
theorem orB_ded {b : Book} (h : GoodB b) : orB b = (dedE (setB b) (reachB b b.2.1)).map Prod.fst :=
  (quo_lst h).uniq (dedE_lst (setB b) (reachB_found h h.begin').lst)

theorem orB_nodup {b : Book} (h : GoodB b) : (orB b).Nodup := (quo_lst h).nodup
theorem orB_mem {b : Book} (h : GoodB b) {j : Int} : j ∈ orB b ↔ inS b j := by
  constructor
  · intro hj
    obtain ⟨e, he, rfl⟩ := List.mem_map.1 hj
    exact (quo_found h).inv.good e he
  · rintro ⟨c, hc, rfl⟩
    obtain ⟨e, he, rfl⟩ := List.mem_map.1 hc
    have hF := reachB_found h h.begin'
    obtain ⟨u, hu, hu1, _⟩ := (quo_lst h).least e.2 (hF.inv.rng e he)
    simp only [hF.inv.path e he] at hu1
    rw [← hu1]
    exact List.mem_map_of_mem hu

theorem orB_first {b : Book} (h : GoodB b) : (orB b)[0]? = some (setB b b.2.1) := by
  unfold orB
  rw [List.getElem?_map, (quo_found h).inv.first]; rfl

theorem orB_len {b : Book} (h : GoodB b) : 0 < (orB b).length ∧ (orB b).length ≤ b.2.2.length := by
  refine ⟨?_, inS_size h _ (orB_nodup h) fun x hx => (orB_mem h).1 hx⟩
  exact (List.getElem?_eq_some_iff.1 (orB_first h)).1

theorem numB_get {b : Book} {j : Int} (hj : j ∈ orB b) : (orB b)[(numB b j).toNat]? = some j ∧ 0 ≤ numB b j ∧ numB b j < ((orB b).length : Int) := by
  have hlt := List.idxOf_lt_length_of_mem hj
  refine ⟨?_, by unfold numB; omega, by unfold numB; omega⟩
  unfold numB
  rw [Int.toNat_natCast, List.getElem?_eq_getElem hlt, List.getElem_idxOf]

theorem numB_at {b : Book} (h : GoodB b) {k : Nat} {j : Int} (hk : (orB b)[k]? = some j) : numB b j = (k : Int) := by
  obtain ⟨h1, h2⟩ := List.getElem?_eq_some_iff.1 hk
  unfold numB
  rw [← h2, (orB_nodup h).idxOf_getElem k h1]

end Go.Abs

set_option linter.unusedSimpArgs false
set_option linter.unusedVariables false
namespace Go.Abs
open Go

theorem cond_zero {c : Bool} {x y : Int × Int} (hy : c = false → y.2 ≠ 0) : (bif c then x else y).2 = 0 ↔ c = true ∧ x.2 = 0 := by
  cases c
  · simp only [cond_false, Bool.false_eq_true, false_and, iff_false]
    exact hy rfl
  · simp

theorem bookErr_zero {b : Book} : (bookErr b).2 = 0 ↔ sizeErr b = 0 ∧ marksGo [] b.1 = 0 ∧ inR b.2.1 0 ((b.2.2.length : Int) - 1) = true ∧ (clsGo b.1.length b.2.2.length 0 [] b.2.2).2 = 0 := by
  unfold bookErr
  rw [cond_zero (fun h => by simpa using h), cond_zero (fun h => by simpa using h), cond_zero (fun _ => by decide), beq_iff_eq, beq_iff_eq]

theorem clsGo_zero (nm nc : Int) : ∀ (l : List Cls) (i : Nat) (pre : List Txt), (clsGo nm nc i pre l).2 = 0 ↔ ∀ (k : Nat) (c : Cls), l[k]? = some c → clsErr nm nc (pre ++ (l.take k).map (·.1)) c = 0
  | [], i, pre => by simp [clsGo]
  | c :: r, i, pre => by
    unfold clsGo
    rw [cond_zero (fun h => by simpa using h), beq_iff_eq, clsGo_zero nm nc r]
    constructor
    · rintro ⟨h1, h2⟩ k d hk
      cases k with
      | zero => simp at hk; subst hk; simpa using h1
      | succ k =>
        have := h2 k d (by simpa using hk)
        simpa [List.append_assoc] using this
    · intro h
      refine ⟨by simpa using h 0 c rfl, fun k d hk => ?_⟩
      have := h (k + 1) d (by simpa using hk)
      simpa [List.append_assoc] using this

theorem nameErrS_zero {s : Txt} {l : List Txt} : nameErrS s l = 0 ↔ nameOk s = true ∧ s ∉ l := by
  unfold nameErrS
  rw [firstErr_zero]
  simp only [List.mem_cons, List.not_mem_nil, or_false, forall_eq_or_imp, forall_eq, unl_zero (show (4 : Int) ≠ 0 by decide), unl_zero (show (5 : Int) ≠ 0 by decide), Bool.not_eq_true']
  refine and_congr Iff.rfl ⟨fun h hm => ?_, fun h => ?_⟩
  · have := any_false h s hm
    simp at this
  · rw [Bool.eq_false_iff]
    intro ht
    obtain ⟨x, hx, he⟩ := List.any_eq_true.1 ht
    have : s = x := by simpa using he
    exact h (this ▸ hx)

theorem clsErr_iff {nm nc : Int} {pre : List Txt} {c : Cls} : clsErr nm nc pre c = 0 ↔ (nameOk c.1 = true ∧ c.1 ∉ pre) ∧ ((c.2.1.length : Int) = nm ∧ (c.2.2.length : Int) = nm) ∧ (∀ k ∈ c.2.1, 0 ≤ k ∧ k < nc) ∧ ∀ s ∈ c.2.2, nameOk s = true := by
  unfold clsErr
  rw [firstErr_zero]
  simp only [List.mem_cons, List.not_mem_nil, or_false, forall_eq_or_imp, forall_eq, unl_zero (show (10 : Int) ≠ 0 by decide), unl_zero (show (6 : Int) ≠ 0 by decide), unl_zero (show (4 : Int) ≠ 0 by decide), nameErrS_zero, Bool.not_eq_true', Bool.and_eq_true, beq_iff_eq]
  refine and_congr Iff.rfl (and_congr Iff.rfl (and_congr ⟨fun h k hk => ?_, fun h => ?_⟩ ⟨fun h s hs => ?_, fun h => ?_⟩))
  · have := any_false h k hk
    rw [Bool.not_eq_false', inR_iff] at this
    omega
  · rw [Bool.eq_false_iff]
    intro ht
    obtain ⟨x, hx, he⟩ := List.any_eq_true.1 ht
    rw [Bool.not_eq_true'] at he
    have := h x hx
    have h2 : inR x 0 (nc - 1) = true := inR_iff.2 ⟨this.1, by omega⟩
    rw [h2] at he; cases he
  · have := any_false h s hs
    simpa using this
  · rw [Bool.eq_false_iff]
    intro ht
    obtain ⟨x, hx, he⟩ := List.any_eq_true.1 ht
    rw [Bool.not_eq_true', h x hx] at he
    cases he

/-- Class c of a rule book. -/
def qB (b : Book) (c : Int) : Cls := b.2.2.getD c.toNat ([], [], [])
theorem qB_get {b : Book} {c : Int} (hc : inB b c) : b.2.2[c.toNat]? = some (qB b c) := by
  have h1 := hc.1
  have h2 := hc.2
  unfold qB
  rw [List.getD_eq_getElem?_getD, List.getElem?_eq_getElem (by omega)]; rfl

theorem qB_ok {b : Book} (h0 : (bookErr b).2 = 0) {c : Int} (hc : inB b c) : clsErr b.1.length b.2.2.length ((b.2.2.take c.toNat).map (·.1)) (qB b c) = 0 := by
  have := (clsGo_zero _ _ b.2.2 0 []).1 (bookErr_zero.1 h0).2.2.2 c.toNat _ (qB_get hc)
  simpa using this

theorem name_inj {b : Book} (h0 : (bookErr b).2 = 0) {c d : Int} (hc : inB b c) (hd : inB b d) (e : (qB b c).1 = (qB b d).1) : c = d := by
  have key : ∀ {c d : Int}, inB b c → inB b d → (qB b c).1 = (qB b d).1 → ¬ c.toNat < d.toNat := by
    intro c d hc hd e hlt
    have := (clsErr_iff.1 (qB_ok h0 hd)).1.2
    refine this (List.mem_map.2 ⟨qB b c, ?_, e⟩)
    have hg := qB_get hc
    exact List.mem_of_getElem? (show (b.2.2.take d.toNat)[c.toNat]? = some (qB b c) by rw [List.getElem?_take, if_pos hlt]; exact hg)
  have h1 := key hc hd e
  have h2 := key hd hc e.symm
  have := hc.1
  have := hd.1
  omega

section
variable {b : Book}

theorem least_get (k : Nat) : (leastB b).2.2[k]? = (orB b)[k]?.map fun j => clsB b (mrB b j) := by
  unfold leastB
  simp only
  rw [List.getElem?_map]

theorem least_len : (leastB b).2.2.length = (orB b).length := by simp [leastB]

theorem nxB_q {c : Int} (h : GoodB b) (hc : inB b c) {m : Nat} (hm : m < b.1.length) : (qB b c).2.1[m]? = some (nxB b c m) := by
  have := (h.nx hc hm).1
  unfold stepTo at this
  rw [(geti_cls hc).1, Option.bind_some, geti_nat] at this
  exact this

theorem least_right (h0 : (bookErr b).2 = 0) : (bookErr (leastB b)).2 = 0 := by
  have h := bookErr_good h0
  obtain ⟨p1, p2, p3, p4⟩ := bookErr_zero.1 h0
  have hl := orB_len h
  have hm := h.marks
  have hc := h.classes
  refine bookErr_zero.2 ⟨?_, p2, ?_, ?_⟩
  · unfold sizeErr
    rw [least_len]
    rw [firstErr_zero]
    simp only [List.mem_cons, List.not_mem_nil, or_false, forall_eq_or_imp, forall_eq, unl_zero (show (10 : Int) ≠ 0 by decide), unl_zero (show (8 : Int) ≠ 0 by decide), Bool.and_eq_true, decide_eq_true_eq]
    show (0 < b.1.length ∧ _) ∧ b.1.length ≤ 6 ∧ _
    omega
  · rw [inR_iff, least_len]
    show 0 ≤ (0 : Int) ∧ (0 : Int) ≤ _
    omega
  · rw [clsGo_zero]
    intro k c hk
    rw [least_get] at hk
    cases hj : (orB b)[k]? with
    | none => rw [hj] at hk; cases hk
    | some j =>
      rw [hj] at hk
      simp only [Option.map_some, Option.some.injEq] at hk
      subst hk
      have hjm := (orB_mem h).1 (List.mem_of_getElem? hj)
      obtain ⟨m1, m2, _⟩ := mrB_spec h hjm
      have hin := reC_in h m1
      obtain ⟨⟨a1, a2⟩, ⟨a3, a4⟩, a5, a6⟩ := clsErr_iff.1 (qB_ok h0 hin)
      refine clsErr_iff.2 ⟨⟨a1, ?_⟩, ⟨?_, a4⟩, ?_, a6⟩
      · rw [List.nil_append]
        intro hmem
        obtain ⟨d, hd, hde⟩ := List.mem_map.1 hmem
        obtain ⟨i, hi⟩ := List.getElem?_of_mem hd
        rw [List.getElem?_take] at hi
        split at hi
        · rename_i hik
          rw [least_get] at hi
          cases hj' : (orB b)[i]? with
          | none => rw [hj'] at hi; cases hi
          | some j' =>
            rw [hj'] at hi
            simp only [Option.map_some, Option.some.injEq] at hi
            subst hi
            obtain ⟨m1', m2', _⟩ := mrB_spec h ((orB_mem h).1 (List.mem_of_getElem? hj'))
            have := name_inj h0 (reC_in h m1') hin hde
            have hjj : j' = j := by rw [← m2', this, m2]
            subst hjj
            have e1 := numB_at h hj
            have e2 := numB_at h hj'
            omega
        · cases hi
      · show (((qB b (mrB b j)).2.1.map _).length : Int) = _
        rw [List.length_map]; exact a3
      · intro x hx
        obtain ⟨to, hto, rfl⟩ := List.mem_map.1 hx
        obtain ⟨m, hmm⟩ := List.getElem?_of_mem hto
        have hlt : m < b.1.length := by
          have := (List.getElem?_eq_some_iff.1 hmm).1
          have e : (qB b (mrB b j)).2.1.length = b.1.length := by omega
          rw [← e]; exact this
        have e : to = nxB b (mrB b j) m := by
          have := nxB_q h hin hlt
          rw [show (qB b (mrB b j)).2.1[m]? = some to from hmm] at this
          exact Option.some.inj this
        rw [least_len]
        exact (numB_get ((orB_mem h).2 ⟨to, by rw [e]; exact reC_next h m1 hlt, rfl⟩)).2

/-- Number k of the least rule book is set j. -/
def At (b : Book) (k j : Int) : Prop := 0 ≤ k ∧ (orB b)[k.toNat]? = some j

theorem At.in (h : GoodB b) {k j : Int} (a : At b k j) : inS b j ∧ inB (leastB b) k := by
  refine ⟨(orB_mem h).1 (List.mem_of_getElem? a.2), a.1, ?_⟩
  rw [least_len]
  have := (List.getElem?_eq_some_iff.1 a.2).1
  have := a.1
  omega

theorem At.q {k j : Int} (a : At b k j) : qB (leastB b) k = clsB b (mrB b j) := by
  unfold qB
  rw [List.getD_eq_getElem?_getD, least_get, a.2]
  rfl

theorem At.rank {k j : Int} (a : At b k j) : rankC (leastB b) k = rankC b (mrB b j) := by
  show rankW (qB (leastB b) k).1 = _
  rw [a.q]
  rfl

theorem At.next (h0 : (bookErr b).2 = 0) {k j : Int} (a : At b k j) {m : Nat} (hm : m < b.1.length) : At b (nxB (leastB b) k m) (nxS b j m) := by
  have h := bookErr_good h0
  have h' := bookErr_good (least_right h0)
  obtain ⟨hj, hk⟩ := a.in h
  obtain ⟨m1, m2, _⟩ := mrB_spec h hj
  have e := nxB_q h' hk (m := m) hm
  rw [a.q] at e
  have e2 : (clsB b (mrB b j)).2.1[m]? = some (numB b (setB b (nxB b (mrB b j) m))) := by
    show ((qB b (mrB b j)).2.1.map _)[m]? = _
    rw [List.getElem?_map, nxB_q h (reC_in h m1) hm]; rfl
  rw [e2] at e
  have e3 := Option.some.inj e
  rw [← e3]
  have := numB_get ((orB_mem h).2 ⟨nxB b (mrB b j) m, reC_next h m1 hm, rfl⟩)
  exact ⟨this.2.1, this.1⟩

theorem At.run (h0 : (bookErr b).2 = 0) (w : List Int) : ∀ {k j : Int}, At b k j → validW b.1.length w → At b (runW (nxB (leastB b)) k w) (runW (nxS b) j w) := by
  induction w with
  | nil => intro k j a _; exact a
  | cons x w ih =>
    intro k j a hw
    obtain ⟨m, rfl⟩ : ∃ m : Nat, x = (m : Int) := ⟨x.toNat, by have := hw x List.mem_cons_self; omega⟩
    have hm : m < b.1.length := by have := hw (m : Int) List.mem_cons_self; omega
    rw [runW_cons, runW_cons, Int.toNat_natCast]
    exact ih (a.next h0 hm) fun y hy => hw y (List.mem_cons_of_mem _ hy)

theorem At.zero (h : GoodB b) : At b 0 (setB b b.2.1) := ⟨Int.le_refl 0, orB_first h⟩

theorem rank_alike (h : GoodB b) {c d : Int} (hc : inB b c) (hd : inB b d) (e : setB b c = setB b d) : rankC b c = rankC b d :=
  (apB_iff h hc hd).1 ((setB_eq h hc hd).1 e) [] (fun x hx => by cases hx)

/-- Any marks lead to a class of the same rank. -/
theorem least_rank (h0 : (bookErr b).2 = 0) {w : List Int} (hw : validW b.1.length w) : rankC (leastB b) (runW (nxB (leastB b)) 0 w) = rankC b (runW (nxB b) b.2.1 w) := by
  have h := bookErr_good h0
  have a := (At.zero h).run h0 w hw
  rw [nxS_run h w (reC_begin h) hw] at a
  rw [a.rank]
  have hr := reC_run h hw
  obtain ⟨m1, m2, _⟩ := mrB_spec h ⟨_, hr, rfl⟩
  exact rank_alike h (reC_in h m1) (reC_in h hr) m2

theorem At.inj (h : GoodB b) {k k' j : Int} (a : At b k j) (a' : At b k' j) : k = k' := by
  have e1 := numB_at h a.2
  have e2 := numB_at h a'.2
  have := a.1
  have := a'.1
  omega

theorem At.ex (h : GoodB b) {k : Int} (hk : inB (leastB b) k) : ∃ j, At b k j := by
  have h1 := hk.1
  have h2 := hk.2
  rw [least_len] at h2
  exact ⟨_, h1, List.getElem?_eq_getElem (by omega)⟩

theorem least_apart (h0 : (bookErr b).2 = 0) {k k' : Int} (hk : inB (leastB b) k) (hk' : inB (leastB b) k') (ha : apB (leastB b) k k' = false) : k = k' := by
  have h := bookErr_good h0
  have h' := bookErr_good (least_right h0)
  obtain ⟨j, a⟩ := At.ex h hk
  obtain ⟨j', a'⟩ := At.ex h hk'
  obtain ⟨m1, m2, _⟩ := mrB_spec h (a.in h).1
  obtain ⟨m1', m2', _⟩ := mrB_spec h (a'.in h).1
  have key : apB b (mrB b j) (mrB b j') = false := by
    refine (apB_iff h (reC_in h m1) (reC_in h m1')).2 fun w hw => ?_
    have e := (apB_iff h' hk hk').1 ha w hw
    have f : ∀ {k j : Int}, At b k j → mrB b j ∈ reC b → setB b (mrB b j) = j → rankC (leastB b) (runW (nxB (leastB b)) k w) = rankC b (runW (nxB b) (mrB b j) w) := by
      intro k j a m1 m2
      have q := a.run h0 w hw
      rw [q.rank]
      have hq := (q.in h).1
      obtain ⟨r1, r2, _⟩ := mrB_spec h hq
      have e : runW (nxS b) j w = setB b (runW (nxB b) (mrB b j) w) := by
        have := nxS_run h w m1 hw
        rw [m2] at this
        exact this
      have hin : inB b (runW (nxB b) (mrB b j) w) := by
        obtain ⟨u, hu, hu1, _⟩ := (reachB_found h (reC_in h m1)).least w hw
        rw [← hu1]
        exact (reachB_found h (reC_in h m1)).inv.good u hu
      exact rank_alike h (reC_in h r1) hin (by rw [r2, e])
    rw [← f a m1 m2, ← f a' m1' m2']
    exact e
  have := (setB_eq h (reC_in h m1) (reC_in h m1')).2 key
  rw [m2, m2'] at this
  subst this
  exact a.inj h a'

end

/-- A rule book of which no two classes are alike: each is a set of its own. -/
theorem setB_self {x : Book} (h : GoodB x) (ha : ∀ k k', inB x k → inB x k' → apB x k k' = false → k = k') {k : Int} (hk : inB x k) : setB x k = k := by
  have key : ∀ i, i ≤ x.2.2.length → (stB x i).1 = (List.range i).map (fun c : Nat => (c : Int)) ∧ (stB x i).2.1 = (List.range i).map (fun c : Nat => (c : Int)) := by
    intro i
    induction i with
    | zero => intro _; exact ⟨rfl, rfl⟩
    | succ i ih =>
      intro hi
      obtain ⟨e1, e2⟩ := ih (by omega)
      rcases stB_step x i with ⟨_, _, h3⟩ | ⟨j, d, h1, _, h2, _⟩
      · rw [h3, e1, e2]
        simp [List.range_succ]
      · exfalso
        have hd := (stB_ok h i (by omega)).hd d (List.mem_of_getElem? h1)
        have := ha (i : Int) d ⟨by omega, by omega⟩ ⟨hd.1, by omega⟩ h2
        omega
  obtain ⟨e1, _⟩ := key _ (Nat.le_refl _)
  unfold setB
  rw [e1]
  have h1 := hk.1
  have h2 := hk.2
  rw [List.getD_eq_getElem?_getD, List.getElem?_map, List.getElem?_range (by omega)]
  show ((k.toNat : Nat) : Int) = k
  omega

theorem least_self {b : Book} (h0 : (bookErr b).2 = 0) : leastB (leastB b) = leastB b := by
  have h := bookErr_good h0
  have h0' := least_right h0
  have h' := bookErr_good h0'
  have hself : ∀ {k : Int}, inB (leastB b) k → setB (leastB b) k = k := fun hk => setB_self h' (fun k k' => least_apart h0) hk
  -- the order in which its classes are reached is that of their numbers
  have hY : Lst (runW (nxB (leastB b)) 0) b.1.length ((quo b).zipIdx.map fun p => ((p.2 : Int), p.1.2)) := by
    have hq := quo_lst h
    have hget : ∀ u ∈ (quo b).zipIdx.map (fun p => ((p.2 : Int), p.1.2)), ∃ e, (quo b)[u.1.toNat]? = some e ∧ 0 ≤ u.1 ∧ e.2 = u.2 := by
      intro u hu
      obtain ⟨p, hp, rfl⟩ := List.mem_map.1 hu
      have := List.mem_zipIdx_iff_getElem?.1 hp
      exact ⟨p.1, this, by simp only; omega, rfl⟩
    have run : ∀ w, validW b.1.length w → ∀ (i : Nat) (e : Int × List Int), (quo b)[i]? = some e → e.1 = setB b (runW (nxB b) b.2.1 w) → runW (nxB (leastB b)) 0 w = (i : Int) := by
      intro w hw i e hi he
      have a := (At.zero h).run h0 w hw
      rw [nxS_run h w (reC_begin h) hw, ← he] at a
      have hi' : (orB b)[i]? = some e.1 := by unfold orB; rw [List.getElem?_map, hi]; rfl
      exact a.inj h ⟨by omega, by simpa using hi'⟩
    refine ⟨?_, ?_, ?_, ?_, ?_⟩
    · rw [List.map_map]
      have : (Prod.fst ∘ fun p : (Int × List Int) × Nat => ((p.2 : Int), p.1.2)) = fun p => ((p.2 : Nat) : Int) := rfl
      rw [this]
      have e : (quo b).zipIdx.map (fun p => ((p.2 : Nat) : Int)) = (List.range (quo b).length).map fun c : Nat => (c : Int) := by
        have := congrArg (List.map fun c : Nat => (c : Int)) (List.zipIdx_map_snd 0 (quo b))
        rw [List.map_map] at this
        simpa [Function.comp_def, List.range_eq_range'] using this
      rw [e, List.Nodup, List.pairwise_map]
      exact List.nodup_range.imp fun hne he => hne (by omega)
    · rw [List.pairwise_map, List.pairwise_iff_getElem]
      intro i j hi hj hij
      simp only [List.getElem_zipIdx]
      exact List.pairwise_iff_getElem.1 hq.sorted i j _ _ hij
    · intro u hu
      obtain ⟨e, e1, e2, e3⟩ := hget u hu
      have hm := List.mem_of_getElem? e1
      have := run e.2 (hq.rng e hm) u.1.toNat e e1 (hq.path e hm).symm
      rw [e3] at this
      rw [this]; omega
    · intro u hu
      obtain ⟨e, e1, e2, e3⟩ := hget u hu
      rw [← e3]
      exact hq.rng e (List.mem_of_getElem? e1)
    · intro w hw
      obtain ⟨e, h1, h2, h3⟩ := hq.least w hw
      obtain ⟨i, hi⟩ := List.getElem?_of_mem h1
      refine ⟨((i : Int), e.2), List.mem_map.2 ⟨(e, i), List.mem_zipIdx_iff_getElem?.2 hi, rfl⟩, (run w hw i e hi h2).symm, h3⟩
  have hYf : ((quo b).zipIdx.map fun p => ((p.2 : Int), p.1.2)).map Prod.fst = (List.range (orB b).length).map fun c : Nat => (c : Int) := by
    rw [List.map_map]
    have := congrArg (List.map fun c : Nat => (c : Int)) (List.zipIdx_map_snd 0 (quo b))
    rw [List.map_map] at this
    simpa [Function.comp_def, List.range_eq_range', orB] using this
  have hre : reC (leastB b) = (List.range (orB b).length).map fun c : Nat => (c : Int) := by
    rw [← hYf]
    exact Lst.uniq (reachB_found h' h'.begin').lst hY
  have hor : orB (leastB b) = (List.range (orB b).length).map fun c : Nat => (c : Int) := by
    rw [← hre]
    refine Lst.uniq (quo_lst h') ((reachB_found h' h'.begin').lst.congr fun w hw => ?_)
    exact (hself (reC_in h' (reC_run h' hw))).symm
  have hnum : ∀ {k : Int}, inB (leastB b) k → numB (leastB b) k = k := by
    intro k hk
    have h1 := hk.1
    have h2 := hk.2
    rw [least_len] at h2
    have : (orB (leastB b))[k.toNat]? = some k := by
      rw [hor, List.getElem?_map, List.getElem?_range (by omega)]
      show some ((k.toNat : Nat) : Int) = some k
      congr 1; omega
    have := numB_at h' this
    omega
  -- the classes
  have hcl : (leastB (leastB b)).2.2 = (leastB b).2.2 := by
    apply List.ext_getElem?
    intro k
    rw [least_get, hor, List.getElem?_map]
    rcases Nat.lt_or_ge k (orB b).length with hk | hk
    · rw [List.getElem?_range hk]
      have hin : inB (leastB b) (k : Int) := ⟨by omega, by rw [least_len]; omega⟩
      have hmr : mrB (leastB b) (k : Int) = (k : Int) := by
        unfold mrB
        rw [mnS_one]
        · rfl
        · rw [hre]
          exact List.mem_map.2 ⟨k, List.mem_range.2 hk, rfl⟩
        · intro y hy
          exact hself (reC_in h' hy)
      simp only [Option.map_some]
      rw [hmr]
      have hg := qB_get hin
      rw [Int.toNat_natCast] at hg
      rw [hg]
      congr 1
      show ((qB (leastB b) (k : Int)).1, (qB (leastB b) (k : Int)).2.1.map _, (qB (leastB b) (k : Int)).2.2) = qB (leastB b) (k : Int)
      have : (qB (leastB b) (k : Int)).2.1.map (fun to => numB (leastB b) (setB (leastB b) to)) = (qB (leastB b) (k : Int)).2.1 := by
        refine (List.map_congr_left (g := id) fun to hto => ?_).trans (List.map_id _)
        have := (clsErr_iff.1 (qB_ok h0' hin)).2.2.1 to hto
        rw [hself this, hnum this]
        rfl
      rw [this]
    · rw [List.getElem?_eq_none (by simpa using hk), List.getElem?_eq_none (by rw [least_len]; exact hk)]
      rfl
  have e : leastB (leastB b) = ((leastB b).1, 0, (leastB (leastB b)).2.2) := rfl
  rw [e, hcl]
  rfl

end Go.Abs

set_option linter.unusedSimpArgs false
set_option linter.unusedVariables false
namespace Go.Abs
open Go

theorem v137_range (n : Nat) (hf : Fuel n) {b : Book} (hb : ∀ c ∈ b.2.2, c.1.length ≤ 1000) (t : List ((Int × Int) × List Int)) : ∀ (l : List ((Int × Int) × List Int)), (∀ e ∈ l, inP b b e.1) →
    rangeG (s137_l0 n) ((fun (x : Bool × Unit) => match x with | (t5_2, _) => some (t5_2)), ()) (fun (x : Book × List ((Int × Int) × List Int) × Bool × Unit) => match x with | (t2_1, t17_1, t5_1, _) => some (false)) l (b, t, false, ()) = some (l.any (difW b b))
  | [], _ => rfl
  | y :: l, h => by
    have hy := h y List.mem_cons_self
    rw [rangeG]
    simp only [s137_l0, v116 n hf b hb hy.1, v116 n hf b hb hy.2, Option.bind_some, List.any_cons]
    have : (rankC b y.1.1 != rankC b y.1.2) = difW b b y := rfl
    rw [this]
    cases difW b b y
    · exact v137_range n hf hb t l (fun e he => h e (List.mem_cons_of_mem _ he))
    · rfl

theorem v137 (n : Nat) (hf : Fuel n) {b : Book} (h : GoodB b) (hb : ∀ c ∈ b.2.2, c.1.length ≤ 1000) {i k : Int} (hi : inB b i) (hk : inB b k) : s137 n i k b = some (apB b i k) := by
  have hB : Both b b := ⟨h, h, rfl⟩
  have hp : inP b b (i, k) := ⟨hi, hk⟩
  unfold s137
  rw [v115 n hf hB hp _ (fun s hs m hm => by
    unfold s138
    rw [v114 n h hs.1 hm, Option.bind_some, v114 n h hs.2 hm, Option.bind_some]
    rfl)]
  simp only [Option.bind_some]
  exact v137_range n hf hb _ _ (fun e he => (reachP_found hB hp).inv.good e he)

theorem v117 (n : Nat) (hf : Fuel n) {b : Book} (h : GoodB b) (hb : ∀ c ∈ b.2.2, c.1.length ≤ 1000) : s117 n b = some (stB b b.2.2.length).1 := by
  have hlo := hf.lo
  have hc := h.classes
  unfold s117
  refine count_loop (A := Unit) b.2.2.length (fun i _ => ((fun y0 y1 => s137 n y0 y1 (b.1, (b.2.1, b.2.2))), ((List.length b.2.2 : Nat) : Int), (i : Int), (stB b i).1, (stB b i).2.1, ())) (fun _ _ => some (stB b b.2.2.length).1) (fun _ _ => True)
    (by unfold maxLen; omega) ?_ ?_ () trivial (by omega)
  · intro i _ hi hlt hw _ again ih
    have s := stB_ok h i (by omega)
    have inI : inB b (i : Int) := ⟨by omega, by omega⟩
    have hq : ∀ x ∈ (stB b i).2.1, s139 n x (fun y0 y1 => s137 n y0 y1 (b.1, (b.2.1, b.2.2))) (i : Int) = some (!apB b (i : Int) x) := by
      intro x hx
      have := s.hd x hx
      unfold s139
      have e := v137 n hf h hb (i := (i : Int)) (k := x) inI ⟨this.1, by omega⟩
      simp only [show ((b.1, (b.2.1, b.2.2)) : Book) = b from rfl, e, Option.bind_some]
    have l2 := s.l2
    have l1 := s.l1
    have hv := v130 n (stB b i).2.1 _ (fun x => !apB b (i : Int) x) hq (by unfold maxLen; omega) (by omega)
    simp only [s117_l0, hlt, cond_true, hv, Option.bind_some, hw]
    rcases stB_step b i with ⟨h1, _, h3⟩ | ⟨j, d, _, h1, _, h3⟩
    · rw [h1]
      have e : decide ((-1 : Int) < 0) = true := rfl
      have c1 : chk (List.length (stB b i).2.1 + List.length ([(i : Int)] : List Int)) = some () := chk_ok (by simp; omega)
      have c2 : chk (List.length (stB b i).1 + List.length ([((List.length (stB b i).2.1 : Nat) : Int)] : List Int)) = some () := chk_ok (by simp; omega)
      simp only [e, cond_true, c1, c2, Option.bind_some]
      have := ih () trivial
      rw [h3] at this
      exact this
    · rw [h1]
      have e : decide ((j : Int) < 0) = false := by rw [decide_eq_false_iff_not]; omega
      have c2 : chk (List.length (stB b i).1 + List.length ([(j : Int)] : List Int)) = some () := chk_ok (by simp; omega)
      simp only [e, cond_false, c2, Option.bind_some]
      have := ih () trivial
      rw [h3] at this
      exact this
  · intro _ hlt _ again
    simp only [s117_l0, hlt, cond_false]

theorem st_at {b : Book} (h : GoodB b) {i : Nat} (hi : i < b.2.2.length) {x : Int} (hx : (stB b b.2.2.length).1[i]? = some x) : (stB b (i + 1)).1[i]? = some x := by
  have s := stB_ok h (i + 1) (by omega)
  have hlt : i < (stB b (i + 1)).1.length := by rw [s.l1]; omega
  have := stB_get b (i := b.2.2.length) (k := i + 1) (by omega) (List.getElem?_eq_getElem hlt)
  rw [hx] at this
  rw [List.getElem?_eq_getElem hlt, ← this]

theorem v64 (n : Nat) (hf : Fuel n) (b : Book) (hb : fitB n b) (hn : ∀ c ∈ b.2.2, c.1.length ≤ 1000) : s64 n b = some (bif (bookErr b).2 == 0 then ((stB b b.2.2.length).2.2, 0) else ([], (bookErr b).2)) := by
  have hlo := hf.lo
  unfold s64
  simp only [show ((b.1, (b.2.1, b.2.2)) : Book) = b from rfl, v79 n b hf hb, Option.bind_some, bne]
  cases c : ((bookErr b).2 == 0)
  · rfl
  · have h := bookErr_good (show (bookErr b).2 = 0 by simpa using c)
    have hc := h.classes
    have s := stB_ok h _ (Nat.le_refl b.2.2.length)
    simp only [Bool.not_true, cond_false, cond_true, show ((b.1, b.2.1, b.2.2) : Book) = b from rfl, v117 n hf h hn, Option.bind_some]
    have hl : (stB b b.2.2.length).1.length = b.2.2.length := s.l1
    refine (list_loop (A := Unit) (stB b b.2.2.length).1 (fun i _ => ((stB b b.2.2.length).1, ((List.length (stB b b.2.2.length).1 : Nat) : Int), (i : Int), (stB b i).2.2, ())) (fun _ _ _ => some ((stB b b.2.2.length).2.2, (0 : Int))) (fun _ _ => True) (by unfold maxLen; omega) ?_ ?_ () trivial (by omega))
    · intro i _ x r hi hx hd hg hlt hw _ again ih
      have si := stB_ok h i (by omega)
      have hx1 := st_at h (by omega) hx
      have l2 := si.l2
      have l3 := si.l3
      simp only [s64_l0, hlt, cond_true, hg, Option.bind_some, hw]
      rcases stB_step b i with ⟨_, _, h3⟩ | ⟨j, d, h1, _, _, h3⟩
      · rw [h3, List.getElem?_append_right (by rw [si.l1]; omega), si.l1, Nat.sub_self] at hx1
        have ex : x = (((stB b i).2.2.length : Nat) : Int) := by rw [l3]; simpa using hx1.symm
        subst ex
        have g1 : geti ((stB b i).2.2 ++ [[]]) (((stB b i).2.2.length : Nat) : Int) = some [] := by rw [geti_nat]; simp
        have c1 : chk ((stB b i).2.2.length + 1) = some () := chk_ok (by omega)
        have c2 : chk (List.length ([] : List Int) + List.length ([(i : Int)] : List Int)) = some () := chk_ok (by simp)
        have g2 : seti ((stB b i).2.2 ++ [[]]) (((stB b i).2.2.length : Nat) : Int) ([] ++ ([(i : Int)] : List Int)) = some ((stB b i).2.2 ++ [[(i : Int)]]) := by
          rw [seti_nat _ _ _ (by simp)]; simp
        simp only [beq_self_eq_true, cond_true, c1, g1, c2, g2, Option.bind_some, if_true]
        have := ih () trivial
        rw [h3] at this
        exact this
      · rw [h3, List.getElem?_append_right (by rw [si.l1]; omega), si.l1, Nat.sub_self] at hx1
        have ex : x = (j : Int) := by simpa using hx1.symm
        subst ex
        have hj : j < (stB b i).2.2.length := by rw [l3]; exact (List.getElem?_eq_some_iff.1 h1).1
        obtain ⟨r', _, q2⟩ := si.fst j _ (List.getElem?_eq_getElem hj)
        have ne : ((j : Int) == (((stB b i).2.2.length : Nat) : Int)) = false := by rw [beq_eq_false_iff_ne]; omega
        have g1 : geti (stB b i).2.2 (j : Int) = some (stB b i).2.2[j] := by rw [geti_nat, List.getElem?_eq_getElem hj]
        have c2 : chk (List.length (stB b i).2.2[j] + List.length ([(i : Int)] : List Int)) = some () := chk_ok (by simp; omega)
        have g2 : seti (stB b i).2.2 (j : Int) ((stB b i).2.2[j] ++ ([(i : Int)] : List Int)) = some ((stB b i).2.2.set j ((stB b i).2.2[j] ++ [(i : Int)])) := seti_nat _ _ _ hj
        simp only [ne, cond_false, g1, c2, g2, Option.bind_some, if_true]
        have := ih () trivial
        rw [h3, List.getD_eq_getElem?_getD, List.getElem?_eq_getElem hj, Option.getD_some] at this
        exact this
    · intro _ hlt _ again
      rw [hl] at hlt ⊢
      simp only [s64_l0, hlt, cond_false]

end Go.Abs

set_option linter.unusedSimpArgs false
set_option linter.unusedVariables false
namespace Go.Abs
open Go

abbrev H65 := List (Int × List Int) × List Txt × Int × List Cls × Int × List Txt × Int × List Cls × List Int × List (Int × Int) × Unit
abbrev N65 := List Int × List (Int × Int) × List (Int × List Int) × List Txt × Int × List Cls × Int × List (Int × Int) × List Int × Unit

theorem v65_heads (n : Nat) {b : Book} (h : GoodB b) (t : List (Int × List Int)) (x : Book) (done : H65 → Option (Book × Int)) : ∀ (l : List (Int × List Int)), (∀ e ∈ l, inB b e.1) → ∀ (P : List Int) (hm : List (Int × Int)), (∀ j, mget hm j = mnS (setB b) P j) →
    ∃ hm', (∀ j, mget hm' j = mnS (setB b) (P ++ l.map Prod.fst) j) ∧
      rangeG (s65_l0 n) (()) done l (t, b.1, b.2.1, b.2.2, (0 : Int), x.1, x.2.1, x.2.2, (stB b b.2.2.length).1, hm, ()) = done (t, b.1, b.2.1, b.2.2, (0 : Int), x.1, x.2.1, x.2.2, (stB b b.2.2.length).1, hm', ())
  | [], _, P, hm, hI => ⟨hm, by simpa using hI, rfl⟩
  | y :: l, hl, P, hm, hI => by
    have hy := hl y List.mem_cons_self
    obtain ⟨_, _, _, _, g1, _⟩ := setB_spec h hy
    rw [rangeG]
    simp only [s65_l0, g1, Option.bind_some]
    -- the cases of the map
    have key : ∀ hm2, (∀ j, mget hm2 j = mnS (setB b) (P ++ [y.1]) j) → ∃ hm', (∀ j, mget hm' j = mnS (setB b) (P ++ (y :: l).map Prod.fst) j) ∧
        rangeG (s65_l0 n) (()) done l (t, b.1, b.2.1, b.2.2, (0 : Int), x.1, x.2.1, x.2.2, (stB b b.2.2.length).1, hm2, ()) = done (t, b.1, b.2.1, b.2.2, (0 : Int), x.1, x.2.1, x.2.2, (stB b b.2.2.length).1, hm', ()) := by
      intro hm2 h2
      obtain ⟨hm', q1, q2⟩ := v65_heads n h t x done l (fun e he => hl e (List.mem_cons_of_mem _ he)) (P ++ [y.1]) hm2 h2
      exact ⟨hm', by simpa [List.append_assoc] using q1, q2⟩
    have hput : ∀ j, mget (mput hm (setB b y.1) y.1) j = if setB b y.1 = j then some y.1 else mget hm j := fun j => mgetE_mputE int_beq _ _ _ _
    cases hc : mnS (setB b) P (setB b y.1) with
    | none =>
      have e1 : mget hm (setB b y.1) = none := by rw [hI, hc]
      simp only [e1, Option.isSome_none, Bool.not_false, Bool.true_or, cond_true]
      refine key _ fun j => ?_
      rw [hput, mnS_snoc]
      by_cases hj : setB b y.1 = j
      · subst hj; simp [hc]
      · simp [hj, hI]
    | some d =>
      have e1 : mget hm (setB b y.1) = some d := by rw [hI, hc]
      simp only [e1, Option.isSome_some, Bool.not_true, Bool.false_or, Option.getD_some]
      cases hlt : decide (y.1 < d)
      · simp only [cond_false]
        refine key _ fun j => ?_
        rw [hI, mnS_snoc]
        by_cases hj : setB b y.1 = j
        · subst hj
          simp only [decide_eq_false_iff_not] at hlt
          simp [hc, hlt]
        · simp [hj]
      · simp only [cond_true]
        refine key _ fun j => ?_
        rw [hput, mnS_snoc]
        by_cases hj : setB b y.1 = j
        · subst hj
          simp only [decide_eq_true_eq] at hlt
          simp [hc, hlt]
        · simp [hj, hI]

theorem v65_numbers (n : Nat) (c0 : List Int) (hm : List (Int × Int)) (t : List (Int × List Int)) (b : Book) (done : N65 → Option (Book × Int)) : ∀ (l : List (Int × List Int)) (P : List Int) (nm : List (Int × Int)), (P ++ l.map Prod.fst).Nodup → (P ++ l.map Prod.fst).length ≤ 1000 →
    (∀ (k : Nat) (j : Int), P[k]? = some j → mget nm j = some (k : Int)) →
    ∃ nm', (∀ (k : Nat) (j : Int), (P ++ l.map Prod.fst)[k]? = some j → mget nm' j = some (k : Int)) ∧
      rangeG (s65_l1 n) (()) done l (c0, hm, t, b.1, b.2.1, b.2.2, (0 : Int), nm, P, ()) = done (c0, hm, t, b.1, b.2.1, b.2.2, (0 : Int), nm', P ++ l.map Prod.fst, ())
  | [], P, nm, _, _, hI => ⟨nm, by simpa using hI, by simp [rangeG]⟩
  | y :: l, P, nm, hnd, hle, hI => by
    rw [rangeG]
    have c1 : chk (List.length P + List.length ([y.1] : List Int)) = some () := chk_ok (by simp at hle ⊢; omega)
    simp only [s65_l1, c1, Option.bind_some]
    have e : P ++ (y :: l).map Prod.fst = (P ++ [y.1]) ++ l.map Prod.fst := by simp
    rw [e] at hnd hle ⊢
    obtain ⟨nm', q1, q2⟩ := v65_numbers n c0 hm t b done l (P ++ [y.1]) (mput nm y.1 ((List.length P : Nat) : Int)) hnd hle (fun k j hk => by
      have hput : mget (mput nm y.1 ((List.length P : Nat) : Int)) j = if y.1 = j then some ((List.length P : Nat) : Int) else mget nm j := mgetE_mputE int_beq _ _ _ _
      rw [hput]
      rw [List.getElem?_append] at hk
      split at hk
      · rename_i hlt
        have hne : y.1 ≠ j := by
          intro he
          have h1 := (List.nodup_append.1 hnd).1
          have := (List.nodup_append.1 h1).2.2 j (List.mem_of_getElem? hk) y.1 (by simp)
          exact this he.symm
        rw [if_neg hne]
        exact hI k j hk
      · rename_i hge
        have := (List.getElem?_eq_some_iff.1 hk).1
        simp at this
        rw [this] at hk
        simp at hk
        rw [if_pos hk]
        congr 1
        omega)
    exact ⟨nm', q1, q2⟩

theorem v65_next (n : Nat) (hf : Fuel n) {b : Book} (h : GoodB b) (hm nm : List (Int × Int)) (t89 t90 : Int) (t88 : List Int) (mk : List Txt) (out : List Cls) (nam : Txt) (rs : List Txt) (c1 : List Int) (hc1 : c1.length ≤ 1000) (hin : ∀ to ∈ c1, inB b to)
    (k0 : List Int × List (Int × Int) × Int × Int × List Txt × Int × List Cls × Int × List (Int × Int) × Int × List Txt × List Cls × Txt × List Int × List Txt × List Int × Unit → Option (Book × Int)) :
    loopG (s65_l2_0 n) n ((stB b b.2.2.length).1, hm, t89, t90, c1, ((List.length c1 : Nat) : Int), (0 : Int), b.1, b.2.1, b.2.2, (0 : Int), nm, (0 : Int), mk, out, nam, ([] : List Int), rs, t88, ()) (k0, ()) =
      k0 ((stB b b.2.2.length).1, hm, t89, t90, b.1, b.2.1, b.2.2, (0 : Int), nm, (0 : Int), mk, out, nam, c1.map (fun to => (mget nm (setB b to)).getD 0), rs, t88, ()) := by
  have hlo := hf.lo
  refine (list_loop (A := List Int) c1 (fun i acc => ((stB b b.2.2.length).1, hm, t89, t90, c1, ((List.length c1 : Nat) : Int), (i : Int), b.1, b.2.1, b.2.2, (0 : Int), nm, (0 : Int), mk, out, nam, acc, rs, t88, ()))
    (fun i acc r => k0 ((stB b b.2.2.length).1, hm, t89, t90, b.1, b.2.1, b.2.2, (0 : Int), nm, (0 : Int), mk, out, nam, acc ++ r.map (fun to => (mget nm (setB b to)).getD 0), rs, t88, ())) (fun i acc => acc.length = i) (by unfold maxLen; omega) ?_ ?_ [] rfl (by omega)).trans (by simp)
  · intro i acc x r hi hx hd hg hlt hw hinv again ih
    obtain ⟨_, _, _, _, g1, _⟩ := setB_spec h (hin x (List.mem_of_getElem? hx))
    have cc : chk (List.length acc + List.length ([(Option.getD (mget nm (setB b x)) (0 : Int))] : List Int)) = some () := chk_ok (by simp; omega)
    simp only [s65_l2_0, hlt, cond_true, hg, Option.bind_some, g1, cc, hw]
    rw [ih _ (by simp [hinv])]
    simp
  · intro acc hlt _ again
    simp only [s65_l2_0, hlt, cond_false]
    simp

theorem v65_classes (n : Nat) (hf : Fuel n) {b : Book} (h : GoodB b) (hb : fitB n b) (hm nm : List (Int × Int)) (mk : List Txt) (l : List Int) (hl : l.length ≤ 1000) (hmr : ∀ j ∈ l, inB b ((mget hm j).getD 0))
    (k0 : Int × Int × List Txt × List Cls × Unit → Option (Book × Int)) :
    loopG (s65_l2 n) n ((stB b b.2.2.length).1, hm, ((List.length l : Nat) : Int), (0 : Int), b.1, b.2.1, b.2.2, (0 : Int), nm, (0 : Int), mk, ([] : List Cls), l, ()) (k0, ()) =
      k0 ((0 : Int), (0 : Int), mk, l.map (fun j => let q := qB b ((mget hm j).getD 0); (q.1, q.2.1.map (fun to => (mget nm (setB b to)).getD 0), q.2.2)), ()) := by
  have hlo := hf.lo
  refine (list_loop (A := List Cls) l (fun i acc => ((stB b b.2.2.length).1, hm, ((List.length l : Nat) : Int), (i : Int), b.1, b.2.1, b.2.2, (0 : Int), nm, (0 : Int), mk, acc, l, ()))
    (fun i acc r => k0 ((0 : Int), (0 : Int), mk, acc ++ r.map (fun j => let q := qB b ((mget hm j).getD 0); (q.1, q.2.1.map (fun to => (mget nm (setB b to)).getD 0), q.2.2)), ())) (fun i acc => acc.length = i) (by unfold maxLen; omega) ?_ ?_ [] rfl (by omega)).trans (by simp)
  · intro i acc x r hi hx hd hg hlt hw hinv again ih
    have hin := hmr x (List.mem_of_getElem? hx)
    obtain ⟨g1, g2⟩ := geti_cls hin
    have g1' : geti b.2.2 ((mget hm x).getD 0) = some (qB b ((mget hm x).getD 0)) := g1
    have g2' : qB b ((mget hm x).getD 0) ∈ b.2.2 := g2
    have hnx := h.next _ g2'
    have hfc := hb.2.2.2 _ g2'
    have hM := h.marks
    have hhi := hf.hi
    have c3 : s120 n (qB b ((mget hm x).getD 0)).2.2 = some (qB b ((mget hm x).getD 0)).2.2 := by
      unfold s120
      rw [chk_ok (by have := hfc.2.2.1; unfold Lt at this; omega)]
      rfl
    simp only [s65_l2, hlt, cond_true, hg, Option.bind_some, g1', c3, hw]
    rw [v65_next n hf h hm nm _ _ l mk acc _ _ _ (by omega) (fun to hto => hnx.2.2 to hto)]
    have cc : ∀ z : Cls, chk (List.length acc + List.length ([z] : List Cls)) = some () := fun z => chk_ok (by simp; omega)
    simp only [cc, Option.bind_some, hw]
    rw [ih _ (by simp [hinv])]
    simp
  · intro acc hlt _ again
    simp only [s65_l2, hlt, cond_false]
    simp

theorem v65 (n : Nat) (hf : Fuel n) (b : Book) (hb : fitB n b) (hn : ∀ c ∈ b.2.2, c.1.length ≤ 1000) : s65 n b = some (bif (bookErr b).2 == 0 then (leastB b, 0) else (([], 0, []), (bookErr b).2)) := by
  have hlo := hf.lo
  have hhi := hf.hi
  unfold s65
  simp only [show ((b.1, (b.2.1, b.2.2)) : Book) = b from rfl, v79 n b hf hb, Option.bind_some, bne]
  cases c : ((bookErr b).2 == 0)
  · rfl
  · have h0 : (bookErr b).2 = 0 := by simpa using c
    have h := bookErr_good h0
    have hc := h.classes
    have hM := h.marks
    simp only [Bool.not_true, cond_false, cond_true, show ((b.1, b.2.1, b.2.2) : Book) = b from rfl, v117 n hf h hn, v83 n b hf h b.2.1 h.begin', Option.bind_some]
    have hF := reachB_found h h.begin'
    obtain ⟨hm, m1, m2⟩ := v65_heads n h (reachB b b.2.1) b _ (reachB b b.2.1) (fun e he => hF.inv.good e he) [] [] (fun j => rfl)
    refine m2.trans ?_
    clear m2
    rw [List.nil_append] at m1
    have hmr : ∀ j, mget hm j = mnS (setB b) (reC b) j := m1
    obtain ⟨_, _, _, _, g1, _⟩ := setB_spec h h.begin'
    have h118 : s118 n (setB b b.2.1) ((List.length b.1 : Nat) : Int) (fun y0 y1 => s119 n y0 y1 (stB b b.2.2.length).1 b hm) = some (quo b) := by
      unfold s118
      rw [v140 n _ (nxS b) b.1.length b.2.2.length (inS b) (setB b b.2.1) (by omega) (by omega) (by omega) (by omega) (fun s hs m hm' => ?_) ⟨_, reC_begin h, rfl⟩ (fun s hs m hm => nxS_in h hs hm) (inS_size h)]
      · rfl
      · obtain ⟨r1, r2, r3⟩ := mrB_spec h hs
        unfold s119
        rw [hmr, r3, Option.getD_some, v114 n h (reC_in h r1) hm', Option.bind_some]
        obtain ⟨_, _, _, _, g2, _⟩ := setB_spec h (h.nx (reC_in h r1) hm').2
        rw [g2]
        rfl
    simp only [g1, Option.bind_some, show ((b.1, b.2.1, b.2.2) : Book) = b from rfl, h118]
    have hol := orB_len h
    obtain ⟨nm, n1, n2⟩ := v65_numbers n (stB b b.2.2.length).1 hm (quo b) b _ (quo b) [] [] (by rw [List.nil_append]; exact orB_nodup h) (by
      rw [List.nil_append]
      show (orB b).length ≤ 1000
      omega) (fun k j hk => by simp at hk)
    refine Eq.trans n2 ?_
    clear n2
    rw [List.nil_append] at n1 ⊢
    have n1 : ∀ (k : Nat) (j : Int), (orB b)[k]? = some j → mget nm j = some (k : Int) := n1
    have c3 : s120 n b.1 = some b.1 := by
      unfold s120
      rw [chk_ok (by omega)]
      rfl
    have hmrB : ∀ j ∈ orB b, (mget hm j).getD 0 = mrB b j := fun j hj => by rw [hmr]; rfl
    simp only [c3, Option.bind_some]
    show loopG (s65_l2 n) n ((stB b b.2.2.length).1, hm, ((List.length (orB b) : Nat) : Int), (0 : Int), b.1, b.2.1, b.2.2, (0 : Int), nm, (0 : Int), b.1, ([] : List Cls), orB b, ()) _ = _
    rw [v65_classes n hf h hb hm nm b.1 (orB b) (by omega) (fun j hj => by
      rw [hmrB j hj]
      exact reC_in h (mrB_spec h ((orB_mem h).1 hj)).1)]
    show some ((b.1, ((0 : Int), _)), (0 : Int)) = some ((b.1, (0 : Int), (orB b).map fun j => clsB b (mrB b j)), 0)
    congr 4
    refine List.map_congr_left fun j hj => ?_
    have hin := (mrB_spec h ((orB_mem h).1 hj)).1
    rw [hmrB j hj]
    show ((qB b (mrB b j)).1, (qB b (mrB b j)).2.1.map _, (qB b (mrB b j)).2.2) = ((qB b (mrB b j)).1, (qB b (mrB b j)).2.1.map _, (qB b (mrB b j)).2.2)
    congr 2
    refine List.map_congr_left fun to hto => ?_
    obtain ⟨m, hmm⟩ := List.getElem?_of_mem hto
    have hq := qB_get (reC_in h hin)
    have hlen := (h.next _ (List.mem_of_getElem? hq)).1
    have hlt : m < b.1.length := by rw [← hlen]; exact (List.getElem?_eq_some_iff.1 hmm).1
    have e : to = nxB b (mrB b j) m := by
      have := nxB_q h (reC_in h hin) hlt
      rw [hmm] at this
      exact Option.some.inj this
    have hin2 : setB b to ∈ orB b := (orB_mem h).2 ⟨to, by rw [e]; exact reC_next h hin hlt, rfl⟩
    obtain ⟨k1, k2, _⟩ := numB_get hin2
    rw [n1 _ _ k1, Option.getD_some]
    omega

end Go.Abs

set_option linter.unusedSimpArgs false
set_option linter.unusedVariables false
namespace Go.Abs
open Go

theorem v121 (n : Nat) (hf : Fuel n) {b : Book} (h : GoodB b) (hn : ∀ c ∈ b.2.2, c.1.length ≤ 1000) {x y : Int} (hx : inB b x) (hy : inB b y) : s121 n b x y = some (!apB b x y) := by
  have ga : GoodB (b.1, x, b.2.2) := ⟨h.marks, h.classes, hx, h.next⟩
  have gc : GoodB (b.1, y, b.2.2) := ⟨h.marks, h.classes, hy, h.next⟩
  have hB : Both (b.1, x, b.2.2) (b.1, y, b.2.2) := ⟨ga, gc, rfl⟩
  unfold s121
  rw [v62 n hf hB hn hn, Option.bind_some]
  have e : firstDif (b.1, x, b.2.2) (b.1, y, b.2.2) = (reachP b b (x, y)).find? (difW b b) := rfl
  rw [e]
  unfold apB
  cases hfd : (reachP b b (x, y)).find? (difW b b) with
  | none =>
    have : (reachP b b (x, y)).any (difW b b) = false := by
      rw [Bool.eq_false_iff]
      intro ht
      obtain ⟨u, hu, hd⟩ := List.any_eq_true.1 ht
      exact List.find?_eq_none.1 hfd u hu hd
    rw [this]
  | some u =>
    have : (reachP b b (x, y)).any (difW b b) = true := List.any_eq_true.2 ⟨u, List.mem_of_find?_eq_some hfd, List.find?_some hfd⟩
    rw [this]

/-- The last place at which something holds. -/
def lastF {α : Type} (p : α → Bool) : Nat → Int → List α → Int
  | _, acc, [] => acc
  | i, acc, x :: r => lastF p (i + 1) (bif p x then (i : Int) else acc) r

theorem lastF_none {α : Type} (p : α → Bool) : ∀ (l : List α) (i : Nat) (acc : Int), (∀ x ∈ l, p x = false) → lastF p i acc l = acc
  | [], _, _, _ => rfl
  | x :: r, i, acc, h => by
    rw [lastF, h x List.mem_cons_self, cond_false]
    exact lastF_none p r _ _ fun y hy => h y (List.mem_cons_of_mem _ hy)

theorem lastF_idx {α : Type} (p : α → Bool) : ∀ (l : List α) (i : Nat), (∀ (j k : Nat) (x y : α), l[j]? = some x → l[k]? = some y → p x = true → p y = true → j = k) → lastF p i (-1) l = idxF p i l
  | [], _, _ => rfl
  | x :: r, i, h => by
    rw [lastF, idxF]
    cases hp : p x with
    | true =>
      simp only [cond_true]
      refine lastF_none p r _ _ fun y hy => ?_
      rw [Bool.eq_false_iff]
      intro hpy
      obtain ⟨k, hk⟩ := List.getElem?_of_mem hy
      have := h 0 (k + 1) x y rfl (by simpa using hk) hp hpy
      omega
    | false =>
      simp only [cond_false]
      exact lastF_idx p r (i + 1) fun j k a c hj hk ha hc => by
        have := h (j + 1) (k + 1) a c (by simpa using hj) (by simpa using hk) ha hc
        omega

theorem idxF_map {α β : Type} (p : β → Bool) (f : α → β) : ∀ (l : List α) (i : Nat), idxF (fun x => p (f x)) i l = idxF p i (l.map f)
  | [], _ => rfl
  | x :: r, i => by
    simp only [idxF, List.map_cons, idxF_map p f r]

theorem idxF_congr {α : Type} {p q : α → Bool} : ∀ (l : List α) (i : Nat), (∀ x ∈ l, p x = q x) → idxF p i l = idxF q i l
  | [], _, _ => rfl
  | x :: r, i, h => by
    simp only [idxF, h x List.mem_cons_self, idxF_congr r (i + 1) fun y hy => h y (List.mem_cons_of_mem _ hy)]

theorem ap_symm {b : Book} (h : GoodB b) {i k : Int} (hi : inB b i) (hk : inB b k) : apB b i k = apB b k i := by
  cases h1 : apB b i k with
  | false => exact (apB_symm h hi hk h1).symm
  | true =>
    cases h2 : apB b k i with
    | true => rfl
    | false => rw [apB_symm h hk hi h2] at h1; cases h1

theorem v68_inner (n : Nat) (hf : Fuel n) {b : Book} (h : GoodB b) (hn : ∀ c ∈ b.2.2, c.1.length ≤ 1000) (i : Int) (hi : inB b i) (out : List (List Int)) (hl : out.length ≤ 1000) (hh : ∀ g ∈ out, ∃ d r, g = d :: r ∧ inB b d)
    (k0 : Int × Int × List Txt × Int × List Cls × List (List Int) × Unit → Option (List (List Int))) :
    loopG (s68_l0_0 n) n (i, (-1 : Int), (0 : Int), b.1, b.2.1, b.2.2, out, ()) (k0, ()) = k0 (i, lastF (fun g => !apB b (g.getD 0 0) i) 0 (-1) out, b.1, b.2.1, b.2.2, out, ()) := by
  have hlo := hf.lo
  refine list_loop (A := Int) out (fun k acc => (i, acc, (k : Int), b.1, b.2.1, b.2.2, out, ())) (fun k acc r => k0 (i, lastF (fun g => !apB b (g.getD 0 0) i) k acc r, b.1, b.2.1, b.2.2, out, ())) (fun _ _ => True) (by unfold maxLen; omega) ?_ ?_ (-1) trivial (by omega)
  · intro k acc x r hk hx hd hg hlt hw _ again ih
    obtain ⟨d, r', rfl, hd'⟩ := hh x (List.mem_of_getElem? hx)
    have e : geti (d :: r') (0 : Int) = some d := rfl
    simp only [s68_l0_0, hlt, cond_true, hg, e, Option.bind_some, show ((b.1, b.2.1, b.2.2) : Book) = b from rfl, v121 n hf h hn hd' hi, hw]
    rw [lastF, show (d :: r').getD 0 0 = d from rfl]
    cases hp : (!apB b d i)
    · exact ih _ trivial
    · exact ih _ trivial
  · intro acc hlt _ again
    simp only [s68_l0_0, hlt, cond_false]
    rfl

theorem v68 (n : Nat) (hf : Fuel n) {b : Book} (h : GoodB b) (hn : ∀ c ∈ b.2.2, c.1.length ≤ 1000) : s68 n b = some (stB b b.2.2.length).2.2 := by
  have hlo := hf.lo
  have hc := h.classes
  unfold s68
  refine count_loop (A := Unit) b.2.2.length (fun i _ => ((i : Int), b.1, b.2.1, b.2.2, (stB b i).2.2, ())) (fun _ _ => some (stB b b.2.2.length).2.2) (fun _ _ => True) (by unfold maxLen; omega) ?_ ?_ () trivial (by omega)
  · intro i _ hi hlt hw _ again ih
    have s := stB_ok h i (by omega)
    have inI : inB b (i : Int) := ⟨by omega, by omega⟩
    have l2 := s.l2
    have l3 := s.l3
    have hgd : ∀ (k : Nat) (g : List Int), (stB b i).2.2[k]? = some g → ∃ r, g = (stB b i).2.1.getD k 0 :: r ∧ inB b ((stB b i).2.1.getD k 0) := by
      intro k g hk
      obtain ⟨r, q1, _⟩ := s.fst k g hk
      have hlt : k < (stB b i).2.1.length := by rw [← l3]; exact (List.getElem?_eq_some_iff.1 hk).1
      have hm : (stB b i).2.1.getD k 0 ∈ (stB b i).2.1 := by
        rw [List.getD_eq_getElem?_getD, List.getElem?_eq_getElem hlt]
        exact List.getElem_mem hlt
      have := s.hd _ hm
      exact ⟨r, q1, this.1, by omega⟩
    have hmap : (stB b i).2.2.map (fun g => g.getD 0 0) = (stB b i).2.1 := by
      apply List.ext_getElem?
      intro k
      rw [List.getElem?_map]
      cases hk : (stB b i).2.2[k]? with
      | none =>
        rw [List.getElem?_eq_none_iff] at hk
        rw [List.getElem?_eq_none (by omega)]
        rfl
      | some g =>
        obtain ⟨r, q1, _⟩ := hgd k g hk
        have hlt : k < (stB b i).2.1.length := by rw [← l3]; exact (List.getElem?_eq_some_iff.1 hk).1
        rw [q1, List.getElem?_eq_getElem hlt, List.getD_eq_getElem?_getD, List.getElem?_eq_getElem hlt]
        rfl
    simp only [s68_l0, hlt, cond_true]
    rw [v68_inner n hf h hn (i : Int) inI _ (by omega) (fun g hg => by
      obtain ⟨k, hk⟩ := List.getElem?_of_mem hg
      obtain ⟨r, q1, q2⟩ := hgd k g hk
      exact ⟨_, r, q1, q2⟩)]
    have hidx : lastF (fun g => !apB b (g.getD 0 0) (i : Int)) 0 (-1) (stB b i).2.2 = idxF (fun k => !apB b (i : Int) k) 0 (stB b i).2.1 := by
      rw [lastF_idx]
      · have := idxF_map (fun k : Int => !apB b k (i : Int)) (fun g : List Int => g.getD 0 0) (stB b i).2.2 0
        rw [hmap] at this
        rw [this]
        refine idxF_congr _ _ fun d hd => ?_
        have := s.hd d hd
        rw [ap_symm h ⟨this.1, by omega⟩ inI]
      · intro j k x y hj hk hx hy
        obtain ⟨r, q1, q2⟩ := hgd j x hj
        obtain ⟨r', p1, p2⟩ := hgd k y hk
        subst q1
        subst p1
        simp only [List.getD_cons_zero, Bool.not_eq_true'] at hx hy
        have lj : j < (stB b i).2.1.length := by rw [← l3]; exact (List.getElem?_eq_some_iff.1 hj).1
        have lk : k < (stB b i).2.1.length := by rw [← l3]; exact (List.getElem?_eq_some_iff.1 hk).1
        refine s.ap j k _ _ (List.getElem?_eq_getElem lj) (List.getElem?_eq_getElem lk) ?_
        have e1 : (stB b i).2.1.getD j 0 = (stB b i).2.1[j] := by rw [List.getD_eq_getElem?_getD, List.getElem?_eq_getElem lj]; rfl
        have e2 : (stB b i).2.1.getD k 0 = (stB b i).2.1[k] := by rw [List.getD_eq_getElem?_getD, List.getElem?_eq_getElem lk]; rfl
        rw [← e1, ← e2]
        exact apB_trans h q2 inI p2 hx (apB_symm h p2 inI hy)
    rw [hidx]
    rcases stB_step b i with ⟨h1, _, h3⟩ | ⟨j, d, hd, h1, _, h3⟩
    · rw [h1]
      have c1 : chk (List.length (stB b i).2.2 + 1) = some () := chk_ok (by omega)
      have e : decide ((-1 : Int) < 0) = true := rfl
      simp only [e, cond_true, c1, Option.bind_some, hw]
      have := ih () trivial
      rw [h3] at this
      exact this
    · rw [h1]
      have e : decide ((j : Int) < 0) = false := by rw [decide_eq_false_iff_not]; omega
      have hj : j < (stB b i).2.2.length := by rw [l3]; exact (List.getElem?_eq_some_iff.1 hd).1
      obtain ⟨r', _, q2⟩ := s.fst j _ (List.getElem?_eq_getElem hj)
      have g1 : geti (stB b i).2.2 (j : Int) = some (stB b i).2.2[j] := by rw [geti_nat, List.getElem?_eq_getElem hj]
      have c2 : chk (List.length (stB b i).2.2[j] + List.length ([(i : Int)] : List Int)) = some () := chk_ok (by simp; omega)
      have g2 : seti (stB b i).2.2 (j : Int) ((stB b i).2.2[j] ++ ([(i : Int)] : List Int)) = some ((stB b i).2.2.set j ((stB b i).2.2[j] ++ [(i : Int)])) := seti_nat _ _ _ hj
      simp only [e, cond_false, g1, c2, g2, Option.bind_some, if_true, hw]
      have := ih () trivial
      rw [h3, List.getD_eq_getElem?_getD, List.getElem?_eq_getElem hj, Option.getD_some] at this
      exact this
  · intro _ hlt _ again
    simp only [s68_l0, hlt, cond_false]

theorem v67 (n : Nat) (hf : Fuel n) (a b : List (List Int)) (ha : Lt n a) (hb : ∀ g ∈ a, Lt n g) : s67 n a b = some (a == b) := by
  unfold s67
  by_cases hl : a.length = b.length
  · have e : (((List.length a : Nat) : Int) != ((List.length b : Nat) : Int)) = false := by simp [hl]
    simp only [e, cond_false]
    refine (list_loop0 a (fun i => (a, b, (i : Int), ())) (fun i r => some (r == b.drop i)) (hf.le ha) ?_ ?_ ha).trans (by simp)
    · intro i x r hi hx hd hg hlt hw again ih
      have hb' : i < b.length := by omega
      have hgb : geti b (i : Int) = some b[i] := by rw [geti_nat, List.getElem?_eq_getElem hb']
      simp only [s67_l0, hlt, cond_true, hg, hgb, Option.bind_some, v32 n x b[i] hf (hb x (List.mem_of_getElem? hx)), hw]
      rw [List.drop_eq_getElem_cons hb', List.cons_beq_cons]
      cases hxb : (x == b[i])
      · rfl
      · simp only [Bool.not_true, cond_false, Bool.true_and]
        exact ih
    · intro hlt again
      simp only [s67_l0, hlt, cond_false]
      rw [List.drop_of_length_le (by omega)]
      rfl
  · have e : (((List.length a : Nat) : Int) != ((List.length b : Nat) : Int)) = true := by simp; omega
    simp only [e, cond_true]
    congr 1
    symm
    rw [beq_eq_false_iff_ne]
    intro h
    exact hl (by rw [h])

theorem v66 (n : Nat) (hf : Fuel n) (a b : Book) (ha : fitB n a) : s66 n a b = some (a == b) := by
  have hlo := hf.lo
  unfold s66
  have h61 : s61 n a b = some (a.1 == b.1) := by
    unfold s61
    rw [v45 n a.1 b.1 hf ha.1]
    rfl
  simp only [show ((a.1, (a.2.1, a.2.2)) : Book) = a from rfl, show ((b.1, (b.2.1, b.2.2)) : Book) = b from rfl, h61, Option.bind_some]
  have hab : (a == b) = ((a.1 == b.1) && ((a.2.1 == b.2.1) && (a.2.2 == b.2.2))) := rfl
  rw [hab]
  cases c1 : (a.1 == b.1)
  · rfl
  cases c2 : (a.2.1 == b.2.1)
  · have : (a.2.1 != b.2.1) = true := by simp [bne, c2]
    simp [this]
  have e2 : (a.2.1 != b.2.1) = false := by simp [bne, c2]
  simp only [Bool.not_true, e2, Bool.false_or, Bool.true_and]
  by_cases hl : a.2.2.length = b.2.2.length
  · have e : (((List.length a.2.2 : Nat) : Int) != ((List.length b.2.2 : Nat) : Int)) = false := by simp [hl]
    simp only [e, cond_false]
    refine (list_loop0 a.2.2 (fun i => ((i : Int), a.1, a.2.1, a.2.2, b.1, b.2.1, b.2.2, ())) (fun i r => some (r == b.2.2.drop i)) (hf.le ha.2.2.1) ?_ ?_ ha.2.2.1).trans (by simp)
    · intro i x r hi hx hd hg hlt hw again ih
      have hb' : i < b.2.2.length := by omega
      have hgb : geti b.2.2 (i : Int) = some b.2.2[i] := by rw [geti_nat, List.getElem?_eq_getElem hb']
      have hfx := ha.2.2.2 x (List.mem_of_getElem? hx)
      simp only [s66_l0, hlt, cond_true, hg, hgb, Option.bind_some, v32 n x.2.1 b.2.2[i].2.1 hf hfx.2.1, v45 n x.2.2 b.2.2[i].2.2 hf hfx.2.2.1, hw]
      rw [List.drop_eq_getElem_cons hb', List.cons_beq_cons]
      have hxx : (x == b.2.2[i]) = ((x.1 == b.2.2[i].1) && ((x.2.1 == b.2.2[i].2.1) && (x.2.2 == b.2.2[i].2.2))) := rfl
      rw [hxx]
      cases k1 : ((x.1 : Txt) == b.2.2[i].1)
      · have : ((x.1 : Txt) != b.2.2[i].1) = true := by simp [bne, k1]
        simp [this, part]
      · have k1' : ((x.1 : Txt) != b.2.2[i].1) = false := by simp [bne, k1]
        simp only [k1', Bool.not_false, part_true, Option.bind_some, Bool.false_or, Bool.true_and]
        cases k2 : (x.2.1 == b.2.2[i].2.1)
        · simp [part]
        · simp only [Bool.not_true, Bool.not_false, part_true, Option.bind_some, Bool.false_or, Bool.true_and]
          cases k3 : (x.2.2 == b.2.2[i].2.2)
          · rfl
          · simp only [Bool.not_true, cond_false, Bool.true_and]
            exact ih
    · intro hlt again
      simp only [s66_l0, hlt, cond_false]
      rw [List.drop_of_length_le (by omega)]
      rfl
  · have e : (((List.length a.2.2 : Nat) : Int) != ((List.length b.2.2 : Nat) : Int)) = true := by simp; omega
    simp only [e, cond_true]
    congr 1
    symm
    rw [beq_eq_false_iff_ne]
    intro h
    exact hl (by rw [h])

end Go.Abs

set_option linter.unusedSimpArgs false
set_option linter.unusedVariables false
namespace Go.Abs
open Go

/-- Sets, each where it comes first. -/
def dedI (S : Int → Int) (L : List Int) : List Int := L.foldl (fun acc c => if S c ∈ acc then acc else acc ++ [S c]) []
theorem dedI_snoc (S : Int → Int) (L : List Int) (c : Int) : dedI S (L ++ [c]) = if S c ∈ dedI S L then dedI S L else dedI S L ++ [S c] := by
  unfold dedI
  rw [List.foldl_append]
  rfl

theorem dedI_E (S : Int → Int) (D : List (Int × List Int)) : (dedE S D).map Prod.fst = dedI S (D.map Prod.fst) := by
  induction D using snoc_rec with
  | h0 => rfl
  | h1 D e ih =>
    rw [dedE_snoc, List.map_append, List.map_singleton, dedI_snoc, ← ih]
    split
    · rfl
    · simp

theorem dedI_mem (S : Int → Int) (L : List Int) : ∀ j, j ∈ dedI S L ↔ ∃ c ∈ L, S c = j := by
  induction L using snoc_rec with
  | h0 => intro j; simp [dedI]
  | h1 L c ih =>
    intro j
    rw [dedI_snoc]
    split
    · rename_i hin
      rw [ih]
      constructor
      · rintro ⟨d, h1, h2⟩; exact ⟨d, List.mem_append_left _ h1, h2⟩
      · rintro ⟨d, h1, h2⟩
        rcases List.mem_append.1 h1 with h1 | h1
        · exact ⟨d, h1, h2⟩
        · have : d = c := by simpa using h1
          subst this
          rw [h2] at hin
          exact (ih j).1 hin
    · rw [List.mem_append, ih]
      constructor
      · rintro (⟨d, h1, h2⟩ | h)
        · exact ⟨d, List.mem_append_left _ h1, h2⟩
        · exact ⟨c, by simp, by simpa using (List.mem_singleton.1 h).symm⟩
      · rintro ⟨d, h1, h2⟩
        rcases List.mem_append.1 h1 with h1 | h1
        · exact .inl ⟨d, h1, h2⟩
        · have : d = c := by simpa using h1
          subst this
          exact .inr (by simp [h2])

theorem dedI_nodup (S : Int → Int) (L : List Int) : (dedI S L).Nodup := by
  induction L using snoc_rec with
  | h0 => simp [dedI]
  | h1 L c ih =>
    rw [dedI_snoc]
    split
    · exact ih
    · rename_i hin
      rw [List.nodup_append]
      exact ⟨ih, by simp, fun x hx y hy heq => hin (by rw [List.mem_singleton.1 hy] at heq; exact heq ▸ hx)⟩

theorem nodup_idx {l : List Int} (h : l.Nodup) {i j : Nat} {x : Int} (hi : l[i]? = some x) (hj : l[j]? = some x) : i = j := by
  obtain ⟨q1, q2⟩ := List.getElem?_eq_some_iff.1 hi
  obtain ⟨p1, p2⟩ := List.getElem?_eq_some_iff.1 hj
  rcases Nat.lt_trichotomy i j with hlt | he | hlt
  · exact absurd (q2.trans p2.symm) (List.pairwise_iff_getElem.1 h i j q1 p1 hlt)
  · exact he
  · exact absurd (p2.trans q2.symm) (List.pairwise_iff_getElem.1 h j i p1 q1 hlt)

theorem dedI_len (S : Int → Int) (L : List Int) : (dedI S L).length ≤ L.length := by
  induction L using snoc_rec with
  | h0 => simp [dedI]
  | h1 L c ih =>
    rw [dedI_snoc]
    split
    · simp; omega
    · simp; omega

abbrev I69 := List Bool × List Int × Int × Int × List Txt × Int × List Cls × Int × List Int × List Int × Unit

theorem v69_inner (n : Nat) (hf : Fuel n) {b : Book} (h : GoodB b) (hn : ∀ c ∈ b.2.2, c.1.length ≤ 1000) (known : List Bool) (order : List Int) (i : Nat) (c : Int) (hi : order[i]? = some c) (hc : inB b c) (heads number : List Int) (hl : heads.length ≤ 1000) (hh : ∀ d ∈ heads, inB b d)
    (k0 : I69 → Option Book) :
    loopG (s69_l0_0 n) n (known, order, (i : Int), (-1 : Int), (0 : Int), b.1, b.2.1, b.2.2, (0 : Int), heads, number, ()) (k0, ()) = k0 (known, order, (i : Int), lastF (fun d => !apB b d c) 0 (-1) heads, b.1, b.2.1, b.2.2, (0 : Int), heads, number, ()) := by
  have hlo := hf.lo
  have ho : geti order (i : Int) = some c := by rw [geti_nat, hi]
  refine list_loop (A := Int) heads (fun k acc => (known, order, (i : Int), acc, (k : Int), b.1, b.2.1, b.2.2, (0 : Int), heads, number, ())) (fun k acc r => k0 (known, order, (i : Int), lastF (fun d => !apB b d c) k acc r, b.1, b.2.1, b.2.2, (0 : Int), heads, number, ())) (fun _ _ => True) (by unfold maxLen; omega) ?_ ?_ (-1) trivial (by omega)
  · intro k acc x r hk hx hd hg hlt hw _ again ih
    simp only [s69_l0_0, hlt, cond_true, hg, ho, Option.bind_some, show ((b.1, b.2.1, b.2.2) : Book) = b from rfl, v121 n hf h hn (hh x (List.mem_of_getElem? hx)) hc, hw]
    rw [lastF]
    cases hp : (!apB b x c)
    · exact ih _ trivial
    · exact ih _ trivial
  · intro acc hlt _ again
    simp only [s69_l0_0, hlt, cond_false]
    rfl

structure R69 (b : Book) (P heads number : List Int) : Prop where
  hd : heads = (dedI (setB b) P).map fun j => (mnS (setB b) P j).getD 0
  len : number.length = b.2.2.length
  num : ∀ c ∈ P, ∃ k : Nat, number[c.toNat]? = some (k : Int) ∧ (dedI (setB b) P)[k]? = some (setB b c)

theorem R69.step {b : Book} (h : GoodB b) {P heads number : List Int} (r : R69 b P heads number) (hP : ∀ c ∈ P, inB b c) {c : Int} (hc : inB b c) :
    (setB b c ∉ dedI (setB b) P ∧ R69 b (P ++ [c]) (heads ++ [c]) (number.set c.toNat ((heads.length : Nat) : Int))) ∨
    ∃ (k : Nat) (d : Int), (dedI (setB b) P)[k]? = some (setB b c) ∧ heads[k]? = some d ∧ R69 b (P ++ [c]) (heads.set k (if c < d then c else d)) (number.set c.toNat (k : Int)) := by
  have hct : c.toNat < number.length := by rw [r.len]; have := hc.1; have := hc.2; omega
  by_cases hin : setB b c ∈ dedI (setB b) P
  · right
    obtain ⟨k, hk⟩ := List.getElem?_of_mem hin
    have hkl := (List.getElem?_eq_some_iff.1 hk).1
    refine ⟨k, (mnS (setB b) P (setB b c)).getD 0, hk, by rw [r.hd, List.getElem?_map, hk]; rfl, ?_⟩
    obtain ⟨d, hd, hds⟩ := (dedI_mem _ _ _).1 hin
    have hmn : ∃ y, mnS (setB b) P (setB b c) = some y := by
      rcases mnS_spec (setB b) P (setB b c) with ⟨_, h2⟩ | ⟨y, h1, _⟩
      · exact absurd hds (h2 d hd)
      · exact ⟨y, h1⟩
    obtain ⟨y, hy⟩ := hmn
    have hnd := dedI_nodup (setB b) P
    refine ⟨?_, by simpa using r.len, fun e he => ?_⟩
    · rw [dedI_snoc, if_pos hin, r.hd]
      apply List.ext_getElem?
      intro m
      rw [List.getElem?_set, List.getElem?_map, List.length_map]
      by_cases hm : k = m
      · subst hm
        rw [if_pos rfl, if_pos hkl, List.getElem?_map, hk]
        simp only [Option.map_some, mnS_snoc, if_true, hy, Option.getD_some]
      · rw [if_neg hm, List.getElem?_map]
        cases hj : (dedI (setB b) P)[m]? with
        | none => rfl
        | some j =>
          have hne : ¬ setB b c = j := by
            intro e
            subst e
            exact hm (nodup_idx hnd hk hj)
          simp only [Option.map_some, mnS_snoc, if_neg hne]
    · rw [dedI_snoc, if_pos hin]
      by_cases hec : e.toNat = c.toNat
      · have hei : inB b e := by
          rcases List.mem_append.1 he with he | he
          · exact hP e he
          · have : e = c := by simpa using he
            rw [this]; exact hc
        have : e = c := by have := hei.1; have := hc.1; omega
        subst this
        exact ⟨k, by rw [List.getElem?_set_self hct], hk⟩
      · rcases List.mem_append.1 he with he | he
        · obtain ⟨m, h1, h2⟩ := r.num e he
          exact ⟨m, by rw [List.getElem?_set_ne (fun q => hec q.symm)]; exact h1, h2⟩
        · have : e = c := by simpa using he
          exact absurd (by rw [this]) hec
  · left
    refine ⟨hin, ?_, by simpa using r.len, fun e he => ?_⟩
    · rw [dedI_snoc, if_neg hin, r.hd, List.map_append]
      have hnone : mnS (setB b) P (setB b c) = none := by
        rcases mnS_spec (setB b) P (setB b c) with ⟨h1, _⟩ | ⟨y, _, h2, h3⟩
        · exact h1
        · exact absurd ((dedI_mem _ _ _).2 ⟨y, h2, h3⟩) hin
      congr 1
      · refine List.map_congr_left fun j hj => ?_
        have hne : ¬ setB b c = j := fun e => hin (e ▸ hj)
        rw [mnS_snoc, if_neg hne]
      · simp only [List.map_singleton, mnS_snoc, if_true, hnone, Option.getD_some]
    · rw [dedI_snoc, if_neg hin]
      have hlen : heads.length = (dedI (setB b) P).length := by rw [r.hd, List.length_map]
      by_cases hec : e.toNat = c.toNat
      · have hei : inB b e := by
          rcases List.mem_append.1 he with he | he
          · exact hP e he
          · have : e = c := by simpa using he
            rw [this]; exact hc
        have : e = c := by have := hei.1; have := hc.1; omega
        subst this
        exact ⟨heads.length, by rw [List.getElem?_set_self hct], by rw [hlen]; simp⟩
      · rcases List.mem_append.1 he with he | he
        · obtain ⟨m, h1, h2⟩ := r.num e he
          exact ⟨m, by rw [List.getElem?_set_ne (fun q => hec q.symm)]; exact h1, by rw [List.getElem?_append_left (List.getElem?_eq_some_iff.1 h2).1]; exact h2⟩
        · have : e = c := by simpa using he
          exact absurd (by rw [this]) hec

abbrev O69 := List Bool × List Txt × Int × List Cls × Int × List Int × List Int × Unit

theorem v69_order (n : Nat) (hf : Fuel n) {b : Book} (h : GoodB b) (hn : ∀ c ∈ b.2.2, c.1.length ≤ 1000) (known : List Bool) (order : List Int) (hol : order.length ≤ 900) (ho : ∀ c ∈ order, inB b c) (k0 : O69 → Option Book) :
    ∃ heads number, R69 b order heads number ∧ loopG (s69_l0 n) n (known, order, (0 : Int), b.1, b.2.1, b.2.2, (0 : Int), ([] : List Int), (List.replicate (Int.toNat ((List.length b.2.2 : Nat) : Int)) (0 : Int)), ()) (k0, ()) =
      k0 (known, b.1, b.2.1, b.2.2, (0 : Int), heads, number, ()) := by
  have hlo := hf.lo
  -- what the loop leads to, from any of its states
  have key : ∀ (k i fuel : Nat) (heads number : List Int), i + k = order.length → k < fuel → R69 b (order.take i) heads number →
      ∃ heads' number', R69 b order heads' number' ∧ loopG (s69_l0 n) fuel (known, order, (i : Int), b.1, b.2.1, b.2.2, (0 : Int), heads, number, ()) (k0, ()) = k0 (known, b.1, b.2.1, b.2.2, (0 : Int), heads', number', ()) := by
    intro k
    induction k with
    | zero =>
      intro i fuel heads number hi hfu r
      obtain ⟨fuel', rfl⟩ : ∃ k, fuel = k + 1 := ⟨fuel - 1, by omega⟩
      have : i = order.length := by omega
      subst this
      rw [List.take_length] at r
      refine ⟨heads, number, r, ?_⟩
      rw [loopG]
      have hlt : decide (((order.length : Nat) : Int) < ((List.length order : Nat) : Int)) = false := by simp
      simp only [s69_l0, hlt, cond_false]
    | succ k ih =>
      intro i fuel heads number hi hfu r
      obtain ⟨fuel', rfl⟩ : ∃ k, fuel = k + 1 := ⟨fuel - 1, by omega⟩
      have hio : i < order.length := by omega
      have hoi : order[i]? = some order[i] := List.getElem?_eq_getElem hio
      have hcin := ho _ (List.getElem_mem hio)
      generalize order[i] = c at hoi hcin
      have hg : geti order (i : Int) = some c := by rw [geti_nat, hoi]
      have hlt : decide ((i : Int) < ((List.length order : Nat) : Int)) = true := by rw [decide_eq_true_eq]; omega
      have hw : IntKind.wrap .i64 ((i : Int) + 1) = ((i + 1 : Nat) : Int) := by rw [wrap_id] <;> omega
      have hlen : heads.length = (dedI (setB b) (order.take i)).length := by rw [r.hd, List.length_map]
      have hdl := dedI_len (setB b) (order.take i)
      have htl : (order.take i).length ≤ i := List.length_take_le _ _
      have hP : ∀ d ∈ order.take i, inB b d := fun d hd => ho d (List.mem_of_mem_take hd)
      have ht : order.take (i + 1) = order.take i ++ [c] := by rw [List.take_add_one, hoi]; rfl
      -- heads stand for their sets
      have hhd : ∀ (m : Nat) (d : Int), heads[m]? = some d → ∃ j, (dedI (setB b) (order.take i))[m]? = some j ∧ setB b d = j ∧ d ∈ order.take i := by
        intro m d hm
        rw [r.hd, List.getElem?_map] at hm
        cases hj : (dedI (setB b) (order.take i))[m]? with
        | none => rw [hj] at hm; cases hm
        | some j =>
          rw [hj] at hm
          simp only [Option.map_some, Option.some.injEq] at hm
          obtain ⟨e, he, hes⟩ := (dedI_mem _ _ _).1 (List.mem_of_getElem? hj)
          rcases mnS_spec (setB b) (order.take i) j with ⟨_, h2⟩ | ⟨y, h1, h2, h3⟩
          · exact absurd hes (h2 e he)
          · rw [h1] at hm
            simp only [Option.getD_some] at hm
            subst hm
            exact ⟨j, rfl, h3, h2⟩
      rw [loopG]
      simp only [s69_l0, hlt, cond_true]
      rw [v69_inner n hf h hn known order i c hoi hcin heads number (by omega) (fun d hd => by
        obtain ⟨m, hm⟩ := List.getElem?_of_mem hd
        obtain ⟨j, _, _, q⟩ := hhd m d hm
        exact hP d q)]
      have hidx : lastF (fun d => !apB b d c) 0 (-1) heads = idxF (fun d => !apB b d c) 0 heads := by
        refine lastF_idx _ _ _ fun j m x y hj hm hx hy => ?_
        obtain ⟨a1, a2, a3, a4⟩ := hhd j x hj
        obtain ⟨b1, b2, b3, b4⟩ := hhd m y hm
        have e1 := (setB_eq h (hP x a4) hcin).2 (by simpa using hx)
        have e2 := (setB_eq h (hP y b4) hcin).2 (by simpa using hy)
        have e3 : a1 = b1 := by rw [← a3, ← b3, e1, e2]
        subst e3
        exact nodup_idx (dedI_nodup (setB b) (order.take i)) a2 b2
      rw [hidx]
      have hct : c.toNat < number.length := by rw [r.len]; have := hcin.1; have := hcin.2; omega
      have hcn : ((c.toNat : Nat) : Int) = c := by have := hcin.1; omega
      have hgn : geti number c = some number[c.toNat] := by
        have := geti_nat number c.toNat
        rw [hcn] at this
        rw [this, List.getElem?_eq_getElem hct]
      have hsn : ∀ x : Int, seti number c x = some (number.set c.toNat x) := fun x => by
        have := seti_nat number c.toNat x hct
        rw [hcn] at this
        exact this
      rcases r.step h hP hcin with ⟨hnin, r'⟩ | ⟨m, d, hm, hd, r'⟩
      · have hx : idxF (fun d => !apB b d c) 0 heads = -1 := by
          rcases idxF_spec (fun d => !apB b d c) heads 0 with ⟨h1, _⟩ | ⟨m, d, h1, _, h3⟩
          · exact h1
          · exfalso
            obtain ⟨j, a2, a3, a4⟩ := hhd m d h1
            have := (setB_eq h (hP d a4) hcin).2 (by simpa using h3)
            rw [← this, a3] at hnin
            exact hnin (List.mem_of_getElem? a2)
        rw [hx]
        have e : decide ((-1 : Int) < 0) = true := rfl
        have c1 : chk (List.length heads + List.length ([c] : List Int)) = some () := chk_ok (by simp; omega)
        have g2 : geti (heads ++ ([c] : List Int)) ((List.length heads : Nat) : Int) = some c := by rw [geti_nat]; simp
        have e2 : decide (c < c) = false := by simp
        simp only [e, cond_true, hg, c1, hgn, hsn, g2, e2, cond_false, Option.bind_some, hw]
        exact ih (i + 1) fuel' _ _ (by omega) (by omega) (by rw [ht]; exact r')
      · obtain ⟨j, a2, a3, a4⟩ := hhd m d hd
        have hjc : j = setB b c := by rw [hm] at a2; exact (Option.some.inj a2).symm
        have hx : idxF (fun d => !apB b d c) 0 heads = (m : Int) := by
          rcases idxF_spec (fun d => !apB b d c) heads 0 with ⟨_, h2⟩ | ⟨m', d', h1, h2, h3⟩
          · exfalso
            have := h2 d (List.mem_of_getElem? hd)
            have e := (setB_eq h (hP d a4) hcin).1 (by rw [a3, hjc])
            rw [e] at this
            cases this
          · obtain ⟨j', b2, b3, b4⟩ := hhd m' d' h1
            have e := (setB_eq h (hP d' b4) hcin).2 (by simpa using h3)
            have : j' = setB b c := by rw [← b3, e]
            rw [this] at b2
            have := nodup_idx (dedI_nodup (setB b) (order.take i)) hm b2
            rw [h2]; congr 1; omega
        rw [hx]
        have hml := (List.getElem?_eq_some_iff.1 hd).1
        have e : decide ((m : Int) < 0) = false := by rw [decide_eq_false_iff_not]; omega
        have g2 : geti heads (m : Int) = some d := by rw [geti_nat, hd]
        have g3 : seti heads (m : Int) c = some (heads.set m c) := seti_nat _ _ _ hml
        simp only [e, cond_false, hg, hgn, hsn, g2, g3, Option.bind_some, hw]
        cases hcd : decide (c < d)
        · simp only [cond_false]
          rw [decide_eq_false_iff_not] at hcd
          rw [if_neg hcd] at r'
          have : heads.set m d = heads := by
            apply List.ext_getElem?
            intro z
            rw [List.getElem?_set]
            split
            · rename_i hz; subst hz; exact hd.symm
            · rfl
          rw [this] at r'
          exact ih (i + 1) fuel' _ _ (by omega) (by omega) (by rw [ht]; exact r')
        · simp only [cond_true]
          rw [decide_eq_true_eq] at hcd
          rw [if_pos hcd] at r'
          exact ih (i + 1) fuel' _ _ (by omega) (by omega) (by rw [ht]; exact r')
  exact key order.length 0 n [] _ (by omega) (by omega) ⟨rfl, by simp, fun c hc => by simp at hc⟩

theorem v69_next (n : Nat) (hf : Fuel n) (b : Book) (known : List Bool) (i : Int) (heads number : List Int) (mk : List Txt) (out : List Cls) (nam : Txt) (rs : List Txt) (cc : Cls) (f : Int → Int) (hc1 : cc.2.1.length ≤ 1000) (hin : ∀ to ∈ cc.2.1, geti number to = some (f to))
    (k0 : List Bool × Int × List Txt × Int × List Cls × Int × List Int × List Int × List Txt × Int × List Cls × Txt × List Txt × List Int × Unit → Option Book) :
    loopG (s69_l1_0 n) n (known, i, (0 : Int), b.1, b.2.1, b.2.2, (0 : Int), heads, number, mk, (0 : Int), out, cc.1, cc.2.1, cc.2.2, nam, rs, ([] : List Int), ()) (k0, ()) =
      k0 (known, i, b.1, b.2.1, b.2.2, (0 : Int), heads, number, mk, (0 : Int), out, nam, rs, cc.2.1.map f, ()) := by
  have hlo := hf.lo
  refine (list_loop (A := List Int) cc.2.1 (fun m acc => (known, i, (m : Int), b.1, b.2.1, b.2.2, (0 : Int), heads, number, mk, (0 : Int), out, cc.1, cc.2.1, cc.2.2, nam, rs, acc, ()))
    (fun m acc r => k0 (known, i, b.1, b.2.1, b.2.2, (0 : Int), heads, number, mk, (0 : Int), out, nam, rs, acc ++ r.map f, ())) (fun i acc => acc.length = i) (by unfold maxLen; omega) ?_ ?_ [] rfl (by omega)).trans (by simp)
  · intro m acc x r hi hx hd hg hlt hw hinv again ih
    have cc2 : chk (List.length acc + List.length ([f x] : List Int)) = some () := chk_ok (by simp; omega)
    simp only [s69_l1_0, hlt, cond_true, hg, Option.bind_some, hin x (List.mem_of_getElem? hx), cc2, hw]
    rw [ih _ (by simp [hinv])]
    simp
  · intro acc hlt _ again
    simp only [s69_l1_0, hlt, cond_false]
    simp

theorem v69_classes (n : Nat) (hf : Fuel n) {b : Book} (h : GoodB b) (hb : fitB n b) (known : List Bool) (heads number : List Int) (mk : List Txt) (f : Int → Int) (hl : heads.length ≤ 1000) (hh : ∀ d ∈ heads, inB b d) (hin : ∀ d ∈ heads, ∀ to ∈ (qB b d).2.1, geti number to = some (f to))
    (k0 : List Bool × List Txt × Int × List Cls × Int × List Txt × Int × List Cls × Unit → Option Book) :
    loopG (s69_l1 n) n (known, (0 : Int), b.1, b.2.1, b.2.2, (0 : Int), heads, number, mk, (0 : Int), ([] : List Cls), ()) (k0, ()) =
      k0 (known, b.1, b.2.1, b.2.2, (0 : Int), mk, (0 : Int), heads.map (fun d => ((qB b d).1, (qB b d).2.1.map f, (qB b d).2.2)), ()) := by
  have hlo := hf.lo
  have hhi := hf.hi
  have hM := h.marks
  refine (list_loop (A := List Cls) heads (fun i acc => (known, (i : Int), b.1, b.2.1, b.2.2, (0 : Int), heads, number, mk, (0 : Int), acc, ()))
    (fun i acc r => k0 (known, b.1, b.2.1, b.2.2, (0 : Int), mk, (0 : Int), acc ++ r.map (fun d => ((qB b d).1, (qB b d).2.1.map f, (qB b d).2.2)), ())) (fun i acc => acc.length = i) (by unfold maxLen; omega) ?_ ?_ [] rfl (by omega)).trans (by simp)
  · intro i acc x r hi hx hd hg hlt hw hinv again ih
    have hxm := List.mem_of_getElem? hx
    obtain ⟨g1, g2⟩ := geti_cls (hh x hxm)
    have g1' : geti b.2.2 x = some (qB b x) := g1
    have g2' : qB b x ∈ b.2.2 := g2
    have hnx := h.next _ g2'
    have hfc := hb.2.2.2 _ g2'
    simp only [s69_l1, hlt, cond_true, hg, Option.bind_some, g1', v84 n (qB b x).2.2 hf hfc.2.2.1, hw]
    rw [v69_next n hf b known _ heads number mk acc _ _ (qB b x) f (by omega) (hin x hxm)]
    have cc : ∀ z : Cls, chk (List.length acc + List.length ([z] : List Cls)) = some () := fun z => chk_ok (by simp; omega)
    simp only [cc, Option.bind_some, hw]
    rw [ih _ (by simp [hinv])]
    simp
  · intro acc hlt _ again
    simp only [s69_l1, hlt, cond_false]
    simp

theorem v69 (n : Nat) (hf : Fuel n) {b : Book} (h : GoodB b) (hb : fitB n b) (hn : ∀ c ∈ b.2.2, c.1.length ≤ 1000) : s69 n b = some (leastB b) := by
  have hlo := hf.lo
  have hc := h.classes
  have hM := h.marks
  unfold s69
  have hrl := reachB_len h h.begin'
  simp only [show ((b.1, (b.2.1, b.2.2)) : Book) = b from rfl, v122 n hf b h, chki_ok (n := ((List.length b.2.2 : Nat) : Int)) (by omega) (by omega), Option.bind_some]
  have hF := reachB_found h h.begin'
  obtain ⟨heads, number, r, hloop⟩ := v69_order n hf h hn (knownOf b.2.2.length (reachB b b.2.1)) ((reachB b b.2.1).map Prod.fst) (by rw [List.length_map]; omega) (fun c hc => reC_in h hc) _
  refine Eq.trans hloop ?_
  clear hloop
  have hQ : dedI (setB b) ((reachB b b.2.1).map Prod.fst) = orB b := by rw [← dedI_E, ← orB_ded h]
  have hheads : heads = (orB b).map (mrB b) := by rw [r.hd, hQ]; rfl
  have hol := orB_len h
  have hmr : ∀ d ∈ heads, d ∈ reC b := by
    intro d hd
    rw [hheads] at hd
    obtain ⟨j, hj, rfl⟩ := List.mem_map.1 hd
    exact (mrB_spec h ((orB_mem h).1 hj)).1
  have hnum : ∀ c ∈ reC b, geti number c = some (numB b (setB b c)) := by
    intro c hc
    obtain ⟨k, h1, h2⟩ := r.num c hc
    rw [hQ] at h2
    have hcin := reC_in h hc
    have hcn : ((c.toNat : Nat) : Int) = c := by have := hcin.1; omega
    have := geti_nat number c.toNat
    rw [hcn] at this
    rw [this, h1, numB_at h h2]
  simp only [v84 n b.1 hf hb.1, Option.bind_some]
  rw [v69_classes n hf h hb _ heads number b.1 (fun to => numB b (setB b to)) (by rw [hheads, List.length_map]; omega) (fun d hd => reC_in h (hmr d hd)) (fun d hd to hto => by
    have hq := qB_get (reC_in h (hmr d hd))
    obtain ⟨m, hmm⟩ := List.getElem?_of_mem hto
    have hlen := (h.next _ (List.mem_of_getElem? hq)).1
    have hlt : m < b.1.length := by rw [← hlen]; exact (List.getElem?_eq_some_iff.1 hmm).1
    have e : to = nxB b d m := by
      have := nxB_q h (reC_in h (hmr d hd)) hlt
      rw [hmm] at this
      exact Option.some.inj this
    exact hnum to (by rw [e]; exact reC_next h (hmr d hd) hlt))]
  have hkn : geti (knownOf b.2.2.length (reachB b b.2.1)) b.2.1 = some true := by
    have hb1 := h.begin'.1
    have hb2 := h.begin'.2
    obtain ⟨k, hk⟩ : ∃ k : Nat, b.2.1 = (k : Int) := ⟨b.2.1.toNat, by omega⟩
    have hkl : k < b.2.2.length := by omega
    have := range_get (N := b.2.2.length) (g := fun (k : Nat) => (reachB b b.2.1).any fun e => e.1 == (k : Int)) hkl
    rw [← hk] at this
    unfold knownOf
    rw [this, any_mem]
    congr 1
    rw [decide_eq_true_eq]
    exact reC_begin h
  simp only [hkn, Option.bind_some, Bool.not_true, cond_false]
  rw [hheads, List.map_map]
  rfl

end Go.Abs

set_option linter.unusedSimpArgs false
set_option linter.unusedVariables false
namespace Go.Abs
open Go

theorem least_cls {b : Book} (h : GoodB b) {c : Cls} (hc : c ∈ (leastB b).2.2) : ∃ q ∈ b.2.2, c.1 = q.1 ∧ c.2.1.length = q.2.1.length ∧ c.2.2 = q.2.2 := by
  obtain ⟨j, hj, rfl⟩ := List.mem_map.1 hc
  have hin := reC_in h (mrB_spec h ((orB_mem h).1 hj)).1
  exact ⟨qB b (mrB b j), List.mem_of_getElem? (qB_get hin), rfl, by show ((qB b (mrB b j)).2.1.map _).length = _; rw [List.length_map], rfl⟩

theorem least_fit {b : Book} (h : GoodB b) {n : Nat} (hf : Fuel n) (hb : fitB n b) : fitB n (leastB b) := by
  have hlo := hf.lo
  have hol := orB_len h
  have hc := h.classes
  refine ⟨hb.1, hb.2.1, by unfold Lt; rw [least_len]; omega, fun c hcm => ?_⟩
  obtain ⟨q, hq, e1, e2, e3⟩ := least_cls h hcm
  obtain ⟨f1, f2, f3, f4⟩ := hb.2.2.2 q hq
  exact ⟨by rw [e1]; exact f1, by unfold Lt at *; rw [e2]; exact f2, by rw [e3]; exact f3, by rw [e3]; exact f4⟩

theorem least_le {b : Book} (h : GoodB b) : (orB b).length ≤ (reachL b b.2.1).length := by
  have e : (reachL b b.2.1).length = (reC b).length := by
    rw [← reachL_sort h h.begin', List.length_mergeSort]
    rfl
  rw [e, orB_ded h, dedI_E]
  exact dedI_len _ _

theorem taste_least (b : Book) (l : List Int) : ∃ n, s12 n b l = some true := by
  refine ⟨0 + 2000, ?_⟩
  generalize hm : (0 : Nat) = m
  have hm0 : m = 0 := hm.symm
  clear hm
  have hf : Fuel (m + 2000) := ⟨by omega, by omega⟩
  have ht := awake_ok m
  generalize hn : m + 2000 = n at *
  have hlo := hf.lo
  unfold s12
  simp only [ht, Option.bind_some, Bool.not_true, cond_false, show ((b.1, b.2.1, b.2.2) : Book) = b from rfl, v16 n b hf, show decide (((List.length l : Nat) : Int) > (12 : Int)) = !decide (l.length ≤ 12) from dec_gt _ 12]
  cases c1 : fewB b
  · rfl
  · obtain ⟨hb, _⟩ := few_fit c1 hf
    have hnm := few_names c1
    cases c2 : decide (l.length ≤ 12)
    · rfl
    · have hl : l.length ≤ 12 := by simpa using c2
      have hlt : Lt n l := by unfold Lt; omega
      simp only [Bool.not_true, Bool.or_self, cond_false, v21 n b hf hb, Option.bind_some, v64 n hf b hb hnm, v65 n hf b hb hnm, v17 n b hf hb, bne]
      cases c3 : ((bookErr b).2 == 0)
      · have h66 : s66 n ([], (0, [])) ([], (0, [])) = some true := by
          rw [v66 n hf ([], (0, [])) ([], (0, [])) ⟨by unfold Lt; simp; omega, by simp, by unfold Lt; simp; omega, by simp⟩]
          rfl
        simp only [Bool.not_false, cond_true, cond_false, beq_self_eq_true, List.length_nil, Bool.and_true]
        have e : (((0 : Nat) : Int) == (0 : Int)) = true := rfl
        simp only [e, Bool.and_self, part_true, h66, Option.bind_some]
      · have h0 : (bookErr b).2 = 0 := by simpa using c3
        have h := bookErr_good h0
        have h0' := least_right h0
        have h' := bookErr_good h0'
        have hc := h.classes
        have hfit := least_fit h hf hb
        have hnm' : ∀ c ∈ (leastB b).2.2, c.1.length ≤ 1000 := by
          intro c hcm
          obtain ⟨q, hq, e1, _⟩ := least_cls h hcm
          rw [e1]; exact hnm q hq
        have s := stB_ok h _ (Nat.le_refl b.2.2.length)
        have h67 : s67 n (stB b b.2.2.length).2.2 (stB b b.2.2.length).2.2 = some true := by
          rw [v67 n hf _ _ (by unfold Lt; have := s.l2; have := s.l3; omega) (fun g hg => by
            obtain ⟨k, hk⟩ := List.getElem?_of_mem hg
            obtain ⟨r, _, q⟩ := s.fst k g hk
            unfold Lt; omega)]
          simp
        have h66 : s66 n (leastB b) (leastB b) = some true := by rw [v66 n hf _ _ hfit]; simp
        have e0 : ((0 : Int) == 0) = true := rfl
        simp only [Bool.not_true, cond_true, cond_false, e0, Bool.not_false, Bool.or_self, Bool.false_or, part_true, Option.bind_some, v68 n hf h hnm, h67, v69 n hf h hb hnm,
          show (((leastB b).1, (leastB b).2.1, (leastB b).2.2) : Book) = leastB b from rfl, h66, v70 n b hf h]
        have hle : decide (((List.length (leastB b).2.2 : Nat) : Int) > ((List.length (reachL b b.2.1) : Nat) : Int)) = false := by
          rw [decide_eq_false_iff_not, least_len]
          have := least_le h
          omega
        have h65 : s65 n (leastB b) = some (leastB b, 0) := by
          rw [v65 n hf (leastB b) hfit hnm', h0', least_self h0]
          rfl
        simp only [hle, cond_false, v21 n (leastB b) hf hfit, h65, Option.bind_some, e0, Bool.not_true, Bool.not_false, part_true, h66, Bool.or_self, v18 n b l hf hb.1 hlt,
          show (((leastB b).1, (leastB b).2.1, (leastB b).2.2) : Book) = leastB b from rfl]
        cases c4 : (marksErr b l == 0)
        · rfl
        · have hml := (marksErr_zero.1 (show marksErr b l = 0 by simpa using c4)).2
          obtain ⟨a1, a2⟩ := at_cls h n hf l hml hl
          obtain ⟨b1, b2⟩ := at_cls h' n hf l hml hl
          obtain ⟨ca1, ca2⟩ := geti_cls a2
          obtain ⟨cb1, cb2⟩ := geti_cls b2
          simp only [Bool.not_true, cond_false, a1, b1, Option.bind_some, ca1, cb1, v63 n hf _ (hnm _ ca2), v63 n hf _ (hnm' _ cb2)]
          have hr := least_rank h0 (w := l) hml
          have hra : rankW (b.2.2.getD (runW (nxB b) b.2.1 l).toNat ([], [], [])).1 = rankC b (runW (nxB b) b.2.1 l) := rfl
          have hrb : rankW ((leastB b).2.2.getD (runW (nxB (leastB b)) (leastB b).2.1 l).toNat ([], [], [])).1 = rankC (leastB b) (runW (nxB (leastB b)) 0 l) := rfl
          rw [hra, hrb, hr]
          simp

end Go.Abs
