/- The evaluator's tables are checked against the program's by evaluation. -/
import Derived.Test.YtbcbiemjokpghaaNAbsW
set_option linter.unusedSimpArgs false
set_option linter.unusedVariables false
namespace Go.Abs
open Go
variable {P : Program}

def veq1 : Value → Value → Bool
  | .bool a, .bool b => a == b
  | .int k n, .int j m => decide (k = j) && decide (n = m)
  | .string a, .string b => decide (a.data.toList = b.data.toList)
  | .slice none a b, .slice none c d => Nat.beq a c && Nat.beq b d
  | .nilFunc, .nilFunc => true
  | .map none, .map none => true
  | _, _ => false

theorem veq1_eq {a b : Value} (h : veq1 a b = true) : a = b := by
  unfold veq1 at h
  split at h
  · have := eq_of_beq h; rw [this]
  · simp only [Bool.and_eq_true, decide_eq_true_eq] at h; rw [h.1, h.2]
  · rename_i a b
    have : a.data.toList = b.data.toList := of_decide_eq_true h
    obtain ⟨⟨a⟩⟩ := a
    obtain ⟨⟨b⟩⟩ := b
    simp at this
    rw [this]
  · simp only [Bool.and_eq_true] at h
    rw [nbeq_true h.1, nbeq_true h.2]
  · rfl
  · rfl
  · cases h

def veqL : List Value → List Value → Bool
  | [], [] => true
  | a :: l, b :: m => veq1 a b && veqL l m
  | _, _ => false

theorem veqL_eq : {l m : List Value} → veqL l m = true → l = m
  | [], [], _ => rfl
  | a :: l, b :: m, h => by
    simp only [veqL, Bool.and_eq_true] at h
    rw [veq1_eq h.1, veqL_eq h.2]
  | [], _ :: _, h => by cases h
  | _ :: _, [], h => by cases h

def veq : Value → Value → Bool
  | .agg a, .agg b => veqL a.toList b.toList
  | a, b => veq1 a b

theorem veq_eq {a b : Value} (h : veq a b = true) : a = b := by
  unfold veq at h
  split at h
  · rename_i a b
    have := veqL_eq h
    rw [show a = b from Array.toList_inj.1 this]
  · exact veq1_eq h

def chkEl (P : Program) (T : Nat) (t : Ty) : Bool :=
  match P.info? T with
  | some i => Nat.beq i.size t.sz && Nat.ble i.bytes 32768 && (match i.zero with | some z => veq z (t.val (zeroVals t)) | none => false) && Nat.blt 0 t.sz
  | none => false

theorem chkEl_ok {T : Nat} {t : Ty} (h : chkEl P T t = true) : ElOK P T t := by
  unfold chkEl at h
  split at h
  · rename_i i hi
    simp only [Bool.and_eq_true] at h
    obtain ⟨⟨⟨h1, h2⟩, h3⟩, h4⟩ := h
    refine ⟨i, hi, nbeq_true h1, Nat.le_of_ble_eq_true h2, ?_, Nat.le_of_ble_eq_true h4⟩
    split at h3
    · rename_i z hz
      rw [hz, veq_eq h3]
    · cases h3
  · cases h

def chkFields (P : Program) (te : TyE) : Nat → List Field → Bool
  | _, [] => true
  | i, f :: r => (match offOf te.nf i te.ty with | some o => Nat.beq o f.offset | none => false) && (match P.info? f.type with | some inf => !Nat.beq inf.size 0 | none => false) && chkFields P te (i + 1) r

theorem chkFields_ok {te : TyE} : (l : List Field) → (i : Nat) → chkFields P te i l = true → ∀ k f, l[k]? = some f → offOf te.nf (i + k) te.ty = some f.offset ∧ ∃ inf, P.info? f.type = some inf ∧ inf.size ≠ 0
  | [], i, h, k, f, hf => by simp at hf
  | g :: r, i, h, k, f, hf => by
    simp only [chkFields, Bool.and_eq_true] at h
    cases k with
    | zero =>
      simp only [List.getElem?_cons_zero, Option.some.injEq] at hf
      subst hf
      obtain ⟨⟨h1, h2⟩, _⟩ := h
      refine ⟨?_, ?_⟩
      · split at h1
        · rename_i o ho
          rw [Nat.add_zero, ho, nbeq_true h1]
        · cases h1
      · split at h2
        · rename_i inf hinf
          refine ⟨inf, hinf, fun e => ?_⟩
          rw [e] at h2
          cases h2
        · cases h2
    | succ k =>
      have := chkFields_ok r (i + 1) h.2 k f (by simpa using hf)
      rw [show i + 1 + k = i + (k + 1) from by omega] at this
      exact this

def chkPlaces (P : Program) : List Field → List (Nat × Nat) → Bool
  | [], [] => true
  | f :: r, (o, n) :: q => (match P.info? f.type with | some i => Nat.beq f.offset o && Nat.beq i.size n | none => false) && chkPlaces P r q
  | _, _ => false

theorem chkPlaces_ok : (l : List Field) → (q : List (Nat × Nat)) → chkPlaces P l q = true → l.mapM (fun f => (P.info? f.type).map fun i => (f.offset, i.size)) = some q
  | [], [], _ => rfl
  | f :: r, (o, n) :: q, h => by
    simp only [chkPlaces, Bool.and_eq_true] at h
    obtain ⟨h1, h2⟩ := h
    split at h1
    · rename_i i hi
      simp only [Bool.and_eq_true] at h1
      rw [List.mapM_cons, hi, chkPlaces_ok r q h2]
      have e1 := nbeq_true h1.1
      have e2 := nbeq_true h1.2
      subst e1
      subst e2
      rfl
    · cases h1
  | [], _ :: _, h => by cases h
  | _ :: _, [], h => by simp [chkPlaces] at h

def chkBytes (P : Program) (T : Nat) : Ty → Bool
  | .slice (.int .u8) => match P.underlying T with
    | some (.slice T') => match P.underlying T' with
      | some (.int .u8) => true
      | _ => false
    | _ => false
  | _ => true

theorem chkBytes_ok {T : Nat} {t : Ty} (h : chkBytes P T t = true) (ht : t = .slice (.int .u8)) : ∃ T', P.underlying T = some (.slice T') ∧ P.underlying T' = some (.int .u8) := by
  subst ht
  simp only [chkBytes] at h
  split at h
  · rename_i T' hT
    split at h
    · rename_i hu
      exact ⟨T', hT, hu⟩
    · cases h
  · cases h

def chkKey (P : Program) (K : Nat) : Ty → Bool
  | .int q => match P.underlying K with
    | some (.int k) => decide (k = q)
    | _ => false
  | _ => false

theorem chkKey_ok {K : Nat} {t : Ty} (h : chkKey P K t = true) : KeyOK P K t := by
  unfold chkKey at h
  split at h
  · split at h
    · rename_i hu
      have := of_decide_eq_true h
      subst this
      exact hu
    · cases h
  · cases h

def chkTy (P : Program) (T : Nat) (te : TyE) : Bool :=
  chkEl P T te.ty && chkBytes P T te.ty && match P.underlying T, te.ty with
    | some (.int k), .int k' => decide (k = k')
    | some .bool, .bool => true
    | some .string, .str => true
    | some (.slice T'), .slice e => chkEl P T' e
    | some (.struct fs), .pair _ _ => Nat.beq fs.size te.nf && chkFields P te 0 fs.toList && chkPlaces P fs.toList (placesOf te.nf te.ty)
    | some (.func _ _ _), .fn1 _ _ => true
    | some (.func _ _ _), .fn2 _ _ _ => true
    | some (.func _ _ _), .seq _ => true
    | some (.func _ _ _), .seq2 _ _ => true
    | some (.map K V), .map k v => chkKey P K k && chkEl P V v
    | _, _ => false

theorem chkTy_ok {T : Nat} {te : TyE} (h : chkTy P T te = true) : TyOK P T te := by
  unfold chkTy at h
  simp only [Bool.and_eq_true] at h
  obtain ⟨⟨h1, hby⟩, h2⟩ := h
  have hi := chkEl_ok h1
  have hby := chkBytes_ok hby
  have no : ∀ {d : TypeDesc}, P.underlying T = some d → (∀ fs, d ≠ .struct fs) → ∀ fs, P.underlying T = some (.struct fs) → (∀ i f, fs[i]? = some f → offOf te.nf i te.ty = some f.offset ∧ ∃ inf, P.info? f.type = some inf ∧ inf.size ≠ 0) ∧
      fs.toList.mapM (fun f => (P.info? f.type).map fun i => (f.offset, i.size)) = some (placesOf te.nf te.ty) := by
    intro d hd hn fs hfs
    rw [hd] at hfs
    cases hfs
    exact absurd rfl (hn fs)
  split at h2
  · rename_i k k' hu ht
    have hk : k = k' := of_decide_eq_true h2
    subst hk
    exact ⟨hi, by rw [ht]; exact hu, no hu (fun _ e => nomatch e), hby⟩
  · rename_i hu ht
    exact ⟨hi, by rw [ht]; exact hu, no hu (fun _ e => nomatch e), hby⟩
  · rename_i hu ht
    exact ⟨hi, by rw [ht]; exact hu, no hu (fun _ e => nomatch e), hby⟩
  · rename_i T' e hu ht
    exact ⟨hi, by rw [ht]; exact ⟨T', hu, chkEl_ok h2⟩, no hu (fun _ e => nomatch e), hby⟩
  · rename_i fs a b hu ht
    simp only [Bool.and_eq_true] at h2
    obtain ⟨⟨g1, g2⟩, g3⟩ := h2
    refine ⟨hi, by rw [ht]; exact ⟨fs, hu, nbeq_true g1⟩, fun fs' hfs => ?_, hby⟩
    rw [hu] at hfs
    cases hfs
    refine ⟨fun i f hf => ?_, chkPlaces_ok _ _ g3⟩
    have := chkFields_ok fs.toList 0 g2 i f (by simpa using hf)
    rwa [Nat.zero_add] at this
  · rename_i p q r a b hu ht
    exact ⟨hi, by rw [ht]; exact ⟨p, q, r, hu⟩, no hu (fun _ e => nomatch e), hby⟩
  · rename_i p q r a b c hu ht
    exact ⟨hi, by rw [ht]; exact ⟨p, q, r, hu⟩, no hu (fun _ e => nomatch e), hby⟩
  · rename_i p q r a hu ht
    exact ⟨hi, by rw [ht]; exact ⟨p, q, r, hu⟩, no hu (fun _ e => nomatch e), hby⟩
  · rename_i p q r a b hu ht
    exact ⟨hi, by rw [ht]; exact ⟨p, q, r, hu⟩, no hu (fun _ e => nomatch e), hby⟩
  · rename_i K V k v hu ht
    simp only [Bool.and_eq_true] at h2
    exact ⟨hi, by rw [ht]; exact ⟨K, V, hu, chkKey_ok h2.1, chkEl_ok h2.2⟩, no hu (fun _ e => nomatch e), hby⟩
  · cases h2

def chkG (P : Program) (G : List (Nat × TyE)) : Bool := G.all fun p => chkTy P p.1 p.2

theorem env_nil {G : List (Nat × TyE)} (h : chkG P G = true) : EnvOK P ⟨G, [], [], []⟩ where
  ty := fun T te hT => chkTy_ok (List.all_eq_true.1 h _ (Map.get_mem hT))
  con := (fun f c h => nomatch h)
  it := (fun f c h => nomatch h)
  eq := (fun f c h => nomatch h)

theorem env_add {G : List (Nat × TyE)} {C : List (Nat × Con)} {Q : List (Nat × Ty)} {I : List (Nat × ICon)} (h : EnvOK P ⟨G, C, Q, I⟩) {f : Nat} {c : Con} (hc : ConOK P f c) : EnvOK P ⟨G, (f, c) :: C, Q, I⟩ where
  ty := h.ty
  con := fun g d hg => by
    simp only [Map.get, nbeq] at hg
    by_cases e : f = g
    · subst e
      simp at hg
      subst hg
      exact hc
    · simp [e] at hg
      exact h.con g d hg
  it := h.it
  eq := h.eq

theorem env_it {G : List (Nat × TyE)} {C : List (Nat × Con)} {Q : List (Nat × Ty)} {I : List (Nat × ICon)} (h : EnvOK P ⟨G, C, Q, I⟩) {f : Nat} {c : ICon} (hc : IConOK P f c) : EnvOK P ⟨G, C, Q, (f, c) :: I⟩ where
  ty := h.ty
  con := h.con
  it := fun g d hg => by
    simp only [Map.get, nbeq] at hg
    by_cases e : f = g
    · subst e
      simp at hg
      subst hg
      exact hc
    · simp [e] at hg
      exact h.it g d hg
  eq := h.eq

end Go.Abs
