/- From a contract and a plain fact to a law's statement. -/
import Derived.Test.YtbcbiemjokpghaaNAbsZ
import Derived.ChangeSlices
set_option linter.unusedSimpArgs false
set_option linter.unusedVariables false
namespace Go.Abs
open Go Go.ChangeShapes Go.WideShapes Go.RowKit
variable {P : Program}

def wfL : (ts : List Ty) → denL ts → Prop
  | [], _ => True
  | [t], x => t.wf x
  | t :: u :: ts, (x, y) => t.wf x ∧ wfL (u :: ts) y

def shpL (P : Program) (n : Nat) : List Nat → List Ty → Bool
  | [], [] => true
  | T :: Ts, t :: ts => shp P n T t && shpL P n Ts ts
  | _, _ => false

theorem shp_val {n T : Nat} {t : Ty} (h : shp P n T t = true) {w : World} {r : Reach} {b0 : Nat} {v : Value} (hv : Value.okWide P w r b0 T v) : v = t.val v.cells.toList := by
  cases n with
  | zero => simp [shp] at h
  | succ n =>
    unfold shp at h
    split at h
    · rename_i k k' hu
      obtain ⟨m, rfl⟩ := okWide_int hu hv
      rfl
    · rename_i hu
      obtain ⟨m, rfl⟩ := okWide_bool hu hv
      rfl
    · rename_i hu
      obtain ⟨m, rfl⟩ := okWide_string hu hv
      rfl
    · rename_i hu
      obtain ⟨a, l, c, rfl⟩ := okWide_slice hu hv
      rfl
    · rename_i hu
      obtain ⟨cs, rfl, _⟩ := okWide_struct hu hv
      simp [Ty.val, Ty.isPair, Value.cells]
    · cases h

section
variable {H : Type} {enc : TypeId × Value → H} {W : World} {spare : Nat → Bool} {held : Bool}

theorem open_args (n : Nat) : (Ts : List Nat) → (ts : List Ty) → shpL P n Ts ts = true → ∀ (vs : List Value) (ds : List (DataW H)) (ps : List MemPlace) (b0 : Nat),
    (∀ (j : Nat) T v, Ts[j]? = some T → vs[j]? = some v → Value.okWide P W .any b0 T v) → DataW.TrodAll enc P W 0 spare held Ts vs ds ps →
    ∃ x : denL ts, ArgsRep P W (fun b => b < W.heap.size) ts vs x ∧ wfL ts x
  | [], [], _, vs, ds, ps, b0, _, h => by
    obtain ⟨rfl, _⟩ := trodAll_nil h
    exact ⟨(), rfl, trivial⟩
  | [T], [t], hs, vs, ds, ps, b0, hv, h => by
    obtain ⟨v, vs', d, ds', p, q, rfl, rfl, rfl, h1, h2⟩ := trodAll_cons h
    obtain ⟨rfl, _⟩ := trodAll_nil h2
    simp only [shpL, Bool.and_true] at hs
    obtain ⟨fuel, h1⟩ := h1
    obtain ⟨x, k1, k2⟩ := open_ty n T t hs fuel _ d p h1
    exact ⟨x, ⟨_, by rw [← shp_val hs (hv 0 T v rfl rfl)], k1⟩, k2⟩
  | T :: U :: Ts, t :: u :: ts, hs, vs, ds, ps, b0, hv, h => by
    obtain ⟨v, vs', d, ds', p, q, rfl, rfl, rfl, h1, h2⟩ := trodAll_cons h
    rw [shpL] at hs
    simp only [Bool.and_eq_true] at hs
    obtain ⟨hs1, hs2⟩ := hs
    obtain ⟨fuel, h1⟩ := h1
    obtain ⟨x, k1, k2⟩ := open_ty n T t hs1 fuel _ d p h1
    obtain ⟨y, k3, k4⟩ := open_args n (U :: Ts) (u :: ts) hs2 vs' ds' q b0 (fun j T' v' hT hv' => hv (j + 1) T' v' (by simpa using hT) (by simpa using hv')) h2
    exact ⟨(x, y), ⟨v.cells.toList, vs', by rw [← shp_val hs1 (hv 0 T v rfl rfl)], k1, k3⟩, k2, k4⟩
  | [], _ :: _, hs, _, _, _, _, _, _ => by simp [shpL] at hs
  | _ :: _, [], hs, _, _, _, _, _, _ => by simp [shpL] at hs
  | [_], _ :: _ :: _, hs, _, _, _, _, _, _ => by simp [shpL] at hs
  | _ :: _ :: _, [_], hs, _, _, _, _, _, _ => by simp [shpL] at hs

theorem trodAll_stays {W' : World} (hl : laidOutB P = true) (hb : Below W.heap.size W W') : (Ts : List Nat) → (∀ T ∈ Ts, P.readableRec T = true ∧ T < P.types.size) → ∀ (vs : List Value) (ds : List (DataW H)) (ps : List MemPlace),
    DataW.TrodAll enc P W 0 (fun _ => true) true Ts vs ds ps → (∀ x ∈ ps, x.block < W.heap.size) → DataW.TrodAll enc P W' 0 (fun b => decide (b < W.heap.size)) true Ts vs ds ps
  | [], _, vs, ds, ps, h, _ => by
    obtain ⟨rfl, rfl, rfl⟩ := trodAll_nil h
    rfl
  | T :: Ts, hT, vs, ds, ps, h, hlt => by
    obtain ⟨v, vs', d, ds', p, q, rfl, rfl, rfl, h1, h2⟩ := trodAll_cons h
    obtain ⟨g1, g2⟩ := hT T (List.mem_cons_self ..)
    refine ⟨p, q, Below.trod hl g1 g2 h1 hb (fun x hx => hlt x (List.mem_append_left _ hx)), ?_, rfl⟩
    exact trodAll_stays hl hb Ts (fun T' h' => hT T' (List.mem_cons_of_mem _ h')) vs' ds' q h2 (fun x hx => hlt x (List.mem_append_right _ hx))
end

theorem Keeps.below {w w' : World} (h : Keeps w w') : Below w.heap.size w w' := ⟨h.os, h.tape, h.output, h.size, h.block⟩

theorem law_lifted {C : Checked} {os : Os} {f : FuncId} {fn : Func} {s : ChangeSpec} {ins : List Ty} {Ts : List Nat} {tb : Nat} {g : Nat → denL ins → Option Bool} {nn : Nat} {apart : Bool}
    {H : Type} {enc : TypeId × Value → H}
    (own : ownKnob C.prog.godebug = none) (started : os.Started) (noInit : C.prog.inits.idxOf? f = none) (hfn : C.prog.funcs[f]? = some fn)
    (witness : ∃ (w : World) (tape : Tape) (i : Input), w.os = os ∧ (w.forCall tape i).Shaped C.prog ∧ i.vars = [] ∧ Input.okWide C.prog (w.forCall tape i) .any w.heap.size f i ∧
      s.pre6 enc C.prog fn [] apart (w.forCall tape i).memory i.args ∧ ({} : Assume).holds C.prog (lone (Frame.enter C.prog f i.args .normal) [] (w.forCall tape i)))
    (hpar : fn.params.toList = Ts) (hres : fn.resultTypes = #[tb]) (hb : C.prog.underlying tb = some .bool) (hl : laidOutB C.prog = true)
    (hsh : shpL C.prog nn Ts ins = true) (hrd : (Ts.all fun T => C.prog.readableRec T && decide (T < C.prog.types.size)) = true) (hvars : s.vars = [])
    (hspec : ∀ (ds : List (DataW H)), ds.length = Ts.length → s.fn H ds = { results := [.lit (.bool true)], args := ds })
    (hcon : ∀ n, ConOK C.prog f ⟨ins, [], [.bool], fun x _ => g n x, false⟩)
    (hplain : ∀ x, wfL ins x → ∃ n, g n x = some true) :
    ReturnsInHanded {} C os f .any (s.pre6 enc C.prog fn [] apart) (s.post enc C.prog fn apart true false false) := by
  refine returnsInHanded_of_change own started noInit hfn witness ?_
  intro W base args ds gs before hval hW _ _
  have hW' := hW
  obtain ⟨p, q, hA, hV, rfl, _, _⟩ := hW
  rw [hvars] at hV
  have hgs : gs = [] ∧ q = [] := by
    cases gs with
    | nil => exact ⟨rfl, hV⟩
    | cons a b => simp [DataW.TrodVars] at hV
  obtain ⟨rfl, rfl⟩ := hgs
  rw [hpar] at hA
  have hlen : ds.length = Ts.length := by
    have : ∀ (Ts : List Nat) (vs : List Value) (ds : List (DataW H)) ps, DataW.TrodAll enc C.prog W 0 (fun _ => true) true Ts vs ds ps → ds.length = Ts.length := by
      intro Ts
      induction Ts with
      | nil => intro vs ds ps h; obtain ⟨_, rfl, _⟩ := trodAll_nil h; rfl
      | cons T Ts ih =>
        intro vs ds ps h
        obtain ⟨v, vs', d, ds', p, q, rfl, rfl, rfl, h1, h2⟩ := trodAll_cons h
        simp [ih _ _ _ h2]
    exact this _ _ _ _ hA
  obtain ⟨x, hx, hwf⟩ := open_args nn Ts ins hsh args.toList ds p base (fun j T v hT hv => by
    refine hval j T v ?_ (by simpa using hv)
    have : fn.params.toList[j]? = some T := by rw [hpar]; exact hT
    simpa using this) hA
  obtain ⟨n, hn⟩ := hplain x hwf
  obtain ⟨_, hc⟩ := hcon n
  have hcall := hc W _ args.toList [] x () true hx rfl hn
  simp only [List.append_nil, Array.toArray_toList] at hcall
  refine hcall.mono ?_
  rintro e w' ⟨v, rfl, hk, hr, _⟩
  obtain ⟨cs, rfl, hr⟩ := hr
  simp only [Rep] at hr
  subst hr
  have hbl := hk.below
  refine ⟨_, rfl, ds, [], p ++ [], [], p, [], hW', ?_, ?_, ?_, ?_, fun h => nomatch h⟩
  · rw [hres]
    have : s.fn H (ds ++ []) = { results := [.lit (.bool true)], args := ds } := by rw [List.append_nil]; exact hspec ds hlen
    rw [this]
    exact trodAll_mk1 (shut_bool hb true)
  · have : s.fn H (ds ++ []) = { results := [.lit (.bool true)], args := ds } := by rw [List.append_nil]; exact hspec ds hlen
    rw [this, hpar]
    refine trodAll_stays hl hbl Ts (fun T hT => ?_) _ _ _ hA (fun x hx => hW'.lt x (List.mem_append_left _ hx))
    have := List.all_eq_true.1 hrd T hT
    simpa using this
  · have : s.fn H (ds ++ []) = { results := [.lit (.bool true)], args := ds } := by rw [List.append_nil]; exact hspec ds hlen
    rw [this, hvars]
    rfl
  · exact hbl.frame _

end Go.Abs
