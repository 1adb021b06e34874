/- Parts of one proof, joined: Definitions: abstract values of a Go program's slots, and an evaluator of its operations on them. Nothing is claimed here. What it means that a world and a frame are as an abstract state says. How a state's frame and objects are changed. What is read: the values that the evaluator reads are those in the frame and in memory. Values, cells, arguments: more of what is read. Operations that give a value. Operations that give a value: addresses, loads, slices. Operations that give a value: all of them. Maps: what is found in them, and how they are set. Operations that give a value: the theorem. Operations that change objects: the means. -/
import Derived.Calls
import Derived.KernelRfl
import Derived.CheckFast
import Derived.Orders
import Derived.Laws.AppendOwn
import Derived.OwnWalk
import Derived.RangeFuncSeq
import Derived.Laws.Strings
import Derived.Laws.Entries
import Derived.Laws.Cells
import Derived.Laws.Rows
import Derived.Laws.Tables
set_option linter.unusedVariables false
namespace Go.Abs

/-- The types of the data that the evaluator knows. A struct is a chain of pairs. -/
inductive Ty where
  | int (k : IntKind)
  | bool
  | str
  | unit
  | slice (e : Ty)
  | pair (a b : Ty)
  | fn1 (a r : Ty)
  | fn2 (a b r : Ty)
  | seq (e : Ty)
  | seq2 (a b : Ty)
  | map (k v : Ty)
  | ptr (e : Ty)
  | sliceN (e : Ty)
  deriving DecidableEq

@[reducible] def Ty.den : Ty → Type
  | .int _ => Int
  | .bool => Bool
  | .str => List UInt8
  | .unit => Unit
  | .slice e => List e.den
  | .pair a b => a.den × b.den
  | .fn1 a r => a.den → Option r.den
  | .fn2 a b r => a.den → b.den → Option r.den
  | .seq e => List e.den
  | .seq2 a b => List (a.den × b.den)
  | .map k v => List (k.den × v.den)
  | .ptr e => e.den
  | .sliceN e => Option (List e.den)

def Ty.sz : Ty → Nat
  | .unit => 0
  | .pair a b => a.sz + b.sz
  | _ => 1

def Ty.isPair : Ty → Bool
  | .pair _ _ => true
  | _ => false

def Ty.isUnit : Ty → Bool
  | .unit => true
  | _ => false

/-- An array of n elements. -/
def Ty.arr (e : Ty) : Nat → Ty
  | 0 => .unit
  | 1 => e
  | n + 2 => .pair e (Ty.arr e (n + 1))

def Ty.beq : (t : Ty) → t.den → t.den → Bool
  | .int _, x, y => (x : Int) == y
  | .bool, x, y => (x : Bool) == y
  | .str, x, y => (x : List UInt8) == y
  | .pair a b, (x, x'), (y, y') => a.beq x y && b.beq x' y'
  | _, _, _ => false

/-- Types whose data can be compared. -/
def Ty.eqs : Ty → Bool
  | .int _ | .bool | .str => true
  | .pair a b => a.eqs && b.eqs
  | _ => false

def Ty.dflt : (t : Ty) → t.den
  | .int _ => (0 : Int)
  | .bool => false
  | .str => ([] : List UInt8)
  | .unit => ()
  | .slice _ => []
  | .pair a b => (a.dflt, b.dflt)
  | .fn1 _ _ => fun _ => none
  | .fn2 _ _ _ => fun _ _ => none
  | .seq _ => []
  | .seq2 _ _ => []
  | .map _ _ => []
  | .ptr e => e.dflt
  | .sliceN _ => none

/-- No memory hangs on data of this type. -/
def Ty.flat : Ty → Bool
  | .int _ | .bool | .str | .unit => true
  | .pair a b => a.flat && b.flat
  | _ => false

def Ty.noFn : Ty → Bool
  | .fn1 _ _ | .fn2 _ _ _ | .seq _ | .seq2 _ _ | .map _ _ | .ptr _ => false
  | .pair a b => a.noFn && b.noFn
  | _ => true

@[reducible] def denL : List Ty → Type
  | [] => Unit
  | [t] => t.den
  | t :: u :: ts => t.den × denL (u :: ts)

def dfltL : (ts : List Ty) → denL ts
  | [] => ()
  | [t] => t.dflt
  | t :: u :: ts => (t.dflt, dfltL (u :: ts))

def castTy {t t' : Ty} (d : t.den) : Option t'.den := if h : t = t' then some (h ▸ d) else none

/-- Data of one type as data of another: slices of which it is not known any more whether they are nil. -/
def coe : (t t' : Ty) → Option (t.den → t'.den)
  | .slice e, .slice e' => match coe e e' with
    | some f => some fun l => List.map f l
    | none => none
  | .pair a b, .pair a' b' => match coe a a', coe b b' with
    | some f, some g => some fun x => (f x.1, g x.2)
    | _, _ => none
  | .sliceN e, .slice e' => if h : e = e' then some fun (o : Option (List e.den)) => h ▸ o.getD [] else none
  | .slice e, .sliceN e' => if h : e = e' then some fun (l : List e.den) => (some (h ▸ l) : Option (List e'.den)) else none
  | t, t' => if h : t = t' then some fun d => h ▸ d else none

def castTo {t t' : Ty} (d : t.den) : Option t'.den := if h : t = t' then some (h ▸ d) else match coe t t' with
  | some f => some (f d)
  | none => none

/-- What one cell, or one whole piece of data, holds. An object of the call's own is named by its number and its version. -/
inductive AVal where
  | pure (t : Ty) (d : t.den)
  | nils
  | bptr (id ver off : Nat)
  | pptr (t : Ty) (d : t.den)
  | eptr (id ver : Nat) (e : Ty) (i : Int)
  | epart (id ver : Nat) (e : Ty) (i : Int) (off : Nat)
  | hand (id ver : Nat)
  | fref (f : Nat)
  | flt (w : Nat)
  | nhand (id ver : Nat)
  | nptr (id ver : Nat) (e : Ty) (i : Int)
  | nel (id ver : Nat) (e : Ty) (i : Int)
  | nelp (id ver : Nat) (e : Ty) (i j : Int)
  | oclo (f : Nat) (t : Ty) (d : t.den) (id ver : Nat)
  | junk
  | yld

inductive SVal where
  | v (a : AVal)
  | comp (l : List AVal)
  | tup (l : List AVal)

/-- A slot: under which tests it is set (slots with their Bools, and the same as one Bool), and what it holds. -/
structure Slot where
  L : List (Nat × Bool)
  g : Bool
  s : SVal

/-- Objects of the call's own: a box, a slice's buffer; and both when they are written no more. -/
inductive AObj where
  | box (t : Ty) (cells : List AVal)
  | buf (e : Ty) (l : List e.den)
  | fbox (t : Ty) (d : t.den)
  | fbuf (e : Ty) (l : List e.den)
  | map (k v : Ty) (l : List (k.den × v.den))
  | fmap (k v : Ty) (l : List (k.den × v.den))
  | nbuf (e : Ty) (l : List (List e.den))
  | nfbuf (e : Ty) (l : List (List e.den))
  | cbuf (a u e : Ty) (l : List (a.den × Option (List u.den) × e.den)) (i : Int) (j v : Nat)

namespace Map
variable {α : Type}
def get : List (Nat × α) → Nat → Option α
  | [], _ => none
  | (k', v) :: r, k => bif Nat.beq k' k then some v else get r k
def set : List (Nat × α) → Nat → α → List (Nat × α)
  | [], k, v => [(k, v)]
  | (k', v') :: r, k, v => bif Nat.blt k k' then (k, v) :: (k', v') :: r else bif Nat.beq k' k then (k, v) :: r else (k', v') :: set r k v
end Map

/-- N: how many slots there are. marks: the slots that labels name. heap: objects with their versions. fixed: slots that are not written. -/
structure ASt where
  N : Nat
  marks : List Nat
  slots : List (Nat × Slot)
  heap : List (Nat × (Nat × AObj))
  fixed : List Nat

/-! What an operation reads. -/

inductive RM (β : Type) : Type 1 where
  | ret (b : β)
  | fail
  | slot (d : Nat) (f : Option Slot → RM β)
  | obj (id : Nat) (f : Option (Nat × AObj) → RM β)
  | opt (α : Type) (m : Option α) (f : α → RM β)

namespace RM
variable {α β : Type}
def bind : RM α → (α → RM β) → RM β
  | .ret a, k => k a
  | .fail, _ => .fail
  | .slot d f, k => .slot d fun x => (f x).bind k
  | .obj id f, k => .obj id fun x => (f x).bind k
  | .opt γ m f, k => .opt γ m fun x => (f x).bind k

def run : RM β → ASt → Option β
  | .ret b, _ => some b
  | .fail, _ => none
  | .slot d f, st => (f (Map.get st.slots d)).run st
  | .obj id f, st => (f (Map.get st.heap id)).run st
  | .opt _ m f, st => m.bind fun x => (f x).run st

def runK {R : Type} : RM β → ASt → (β → Option R) → Option R
  | .ret b, _, K => K b
  | .fail, _, _ => none
  | .slot d f, st, K => (f (Map.get st.slots d)).runK st K
  | .obj id f, st, K => (f (Map.get st.heap id)).runK st K
  | .opt _ m f, st, K => m.bind fun x => (f x).runK st K

/-- What is read: slots (true) and objects (false). -/
abbrev _root_.Go.Abs.Key := Nat × Bool

def keys : RM β → ASt → List Key
  | .ret _, _ => []
  | .fail, _ => []
  | .slot d f, st => (d, true) :: (f (Map.get st.slots d)).keys st
  | .obj id f, st => (id, false) :: (f (Map.get st.heap id)).keys st
  | .opt _ m f, st => match m with
    | some x => (f x).keys st
    | none => []

def runKK {R : Type} : RM β → ASt → (β → List Key → Option R) → Option R
  | .ret b, _, K => K b []
  | .fail, _, _ => none
  | .slot d f, st, K => (f (Map.get st.slots d)).runKK st fun x ks => K x ((d, true) :: ks)
  | .obj id f, st, K => (f (Map.get st.heap id)).runKK st fun x ks => K x ((id, false) :: ks)
  | .opt _ m f, st, K => m.bind fun x => (f x).runKK st K

def ofOpt : Option β → RM β
  | some b => .ret b
  | none => .fail
end RM

structure TyE where
  ty : Ty
  nf : Nat
  arr : Bool

structure Con where
  ins : List Ty
  caps : List Ty
  outs : List Ty
  fn : denL ins → denL caps → Option (denL outs)
  fresh : Bool

/-- What an iterator yields: its captured variables, the type of what is made (.seq, .seq2), and the elements. -/
structure ICon where
  caps : List Ty
  out : Ty
  fn : denL caps → Option out.den

/-- What a call does to a slice of the caller's own that is its first argument; back: it returns the slice. -/
structure MCon where
  el : Ty
  ins : List Ty
  fn : List el.den → denL ins → Option (List el.den)
  back : Bool

/-- What a call does to a variable of the caller's own to which it gets a pointer: as its first argument, or as its last captured variable (clo). own: which cells are slices of the caller's own. -/
structure OCon where
  t : Ty
  own : List Bool
  clo : Bool
  ins : List Ty
  caps : List Ty
  outs : List Ty
  fn : t.den → denL ins → denL caps → Option (t.den × denL outs)

/-- Types, contracts, the types that are compared, iterators, calls that change a slice, roots of floats (functions), types of floats, slots that hold slices of slices that are all of the call's own. -/
structure Env where
  G : List (Nat × TyE)
  C : List (Nat × Con)
  Q : List (Nat × Ty)
  I : List (Nat × ICon)
  M : List (Nat × MCon)
  S : List Nat
  D : List Nat
  N : List Nat
  O : List (Nat × OCon)
  K : List (Nat × Ty)

def Env.ty (E : Env) (T : Nat) : Option Ty := (Map.get E.G T).map (·.ty)

/-- Whether T is a type of slices of such elements, or of the same without the knowledge that slices are nil. -/
def Env.sl (E : Env) (T : Nat) (e : Ty) : Bool := match E.ty T with
  | some (.slice e0) => decide (e = e0) || (coe e e0).isSome
  | _ => false

/-- The elements of a slice that is built in slot d. -/
def Env.elT (E : Env) (T : Nat) (d : Option Nat) : Option Ty := match E.ty T with
  | some (.slice e) => match d with
    | some d => match Map.get E.K d with
      | some e' => bif E.sl T e' then some e' else none
      | none => some e
    | none => some e
  | _ => none

def AVal.ofConst : Value → Option AVal
  | .int k n => some (.pure (.int k) n)
  | .bool b => some (.pure .bool b)
  | .string s => some (.pure .str s.data.toList)
  | .slice none 0 0 => some .nils
  | .nilFunc => some .junk
  | _ => none

def ofConsts : List Value → Option (List AVal)
  | [] => some []
  | v :: vs => match AVal.ofConst v, ofConsts vs with
    | some a, some l => some (a :: l)
    | _, _ => none

def SVal.ofConst : Value → Option SVal
  | .agg cs => (ofConsts cs.toList).map .comp
  | x => (AVal.ofConst x).map .v

/-- Which labels may be read: those that are among the given ones. -/
def labOk (L' L : List (Nat × Bool)) : Bool := L'.all fun p => L.any fun q => Nat.beq p.1 q.1 && (bif p.2 then q.2 else !q.2)

def rd (L : List (Nat × Bool)) : Operand → RM SVal
  | .tmp t => .slot t fun
    | some sl => bif labOk sl.L L then .ret sl.s else .fail
    | none => .fail
  | .const v => .ofOpt (SVal.ofConst v)
  | .func f => .ret (.v (.fref f))
  | .global _ => .fail

def SVal.one : SVal → RM AVal
  | .v a => .ret a
  | _ => .fail

def rdA (L : List (Nat × Bool)) (x : Operand) : RM AVal := (rd L x).bind SVal.one

def rdS (L : List (Nat × Bool)) : List Operand → RM (List SVal)
  | [] => .ret []
  | x :: r => (rd L x).bind fun s => (rdS L r).bind fun l => .ret (s :: l)

/-- Objects that are to be written: number, version, content. -/
abbrev W := List (Nat × (Nat × AObj))

def Con.fn1? (c : Con) (a r : Ty) : Option (a.den → Option r.den) :=
  match c with
  | ⟨[a'], [], [r'], f, _⟩ => if h : a' = a ∧ r' = r then some (fun x => h.2 ▸ f (h.1 ▸ x) ()) else none
  | _ => none

/-- The type of elements of which it is known whether their second field is nil. -/
@[reducible] def cellTy (a u e : Ty) : Ty := .pair a (.pair (.sliceN u) e)

/-- The elements, when the open one is closed. -/
def closeL {α β γ : Type} (l : List (α × Option β × γ)) (i : Int) (m : β) : List (α × Option β × γ) :=
  if 0 ≤ i then (match l[i.toNat]? with
    | some x => l.set i.toNat (x.1, some m, x.2.2)
    | none => l) else l

/-- A piece of data of a type, and what of the call's own must be written no more if it is kept. -/
def peekA (E : Env) (t : Ty) : AVal → RM (t.den × W)
  | .pure u d => match castTo (t := u) (t' := t) d with
    | some x => .ret (x, [])
    | none => .fail
  | .nils => match t with
    | .slice _ => .ret ([], [])
    | .sliceN _ => .ret (none, [])
    | _ => .fail
  | .hand id ver => .obj id fun
    | some (cv, .buf e l) => bif Nat.beq cv ver then (match castTo (t := .slice e) (t' := t) l with
      | some x => .ret (x, [(id, (cv, .fbuf e l))])
      | none => .fail) else .fail
    | some (cv, .fbuf e l) => bif Nat.beq cv ver then (match castTo (t := .slice e) (t' := t) l with
      | some x => .ret (x, [])
      | none => .fail) else .fail
    | some (cv, .map k v l) => bif Nat.beq cv ver then (match castTy (t := .map k v) (t' := t) l with
      | some x => .ret (x, [(id, (cv, .fmap k v l))])
      | none => .fail) else .fail
    | some (cv, .fmap k v l) => bif Nat.beq cv ver then (match castTy (t := .map k v) (t' := t) l with
      | some x => .ret (x, [])
      | none => .fail) else .fail
    | some (cv, .cbuf a u e l i j v) => bif Nat.beq cv ver then .obj j fun
      | some (cj, .buf u' lj) => bif Nat.beq cj v then (if h : u' = u then (match castTo (t := .slice (cellTy a u e)) (t' := t) (closeL l i (h ▸ lj)) with
        | some x => .ret (x, [(j, (cj, .fbuf u' lj)), (id, (cv, .fbuf (cellTy a u e) (closeL l i (h ▸ lj))))])
        | none => .fail) else .fail) else .fail
      | _ => .fail else .fail
    | _ => .fail
  | .nhand id ver => .obj id fun
    | some (cv, .nbuf e l) => bif Nat.beq cv ver then (match castTy (t := .slice (.slice e)) (t' := t) l with
      | some x => .ret (x, [(id, (cv, .nfbuf e l))])
      | none => .fail) else .fail
    | some (cv, .nfbuf e l) => bif Nat.beq cv ver then (match castTy (t := .slice (.slice e)) (t' := t) l with
      | some x => .ret (x, [])
      | none => .fail) else .fail
    | _ => .fail
  | .fref f => match t, Map.get E.C f with
    | .fn1 a r, some c => match c.fn1? a r with
      | some g => .ret (g, [])
      | none => .fail
    | _, _ => .fail
  | _ => .fail

/-- .. whose elements are copied: no slice of slices of the call's own. -/
def peekB (E : Env) (t : Ty) : AVal → RM (t.den × W)
  | .nhand _ _ => .fail
  | .hand id ver => .obj id fun
    | some (_, .cbuf _ _ _ _ _ _ _) => .fail
    | _ => peekA E t (.hand id ver)
  | a => peekA E t a

def implode (E : Env) : (t : Ty) → List AVal → RM ((t.den × W) × List AVal)
  | .unit, l => .ret (((), []), l)
  | .pair a b, l => (implode E a l).bind fun x => (implode E b x.2).bind fun y => .ret (((x.1.1, y.1.1), x.1.2 ++ y.1.2), y.2)
  | .int k, a :: l => (peekA E (.int k) a).bind fun x => .ret (x, l)
  | .bool, a :: l => (peekA E .bool a).bind fun x => .ret (x, l)
  | .str, a :: l => (peekA E .str a).bind fun x => .ret (x, l)
  | .slice e, a :: l => (peekA E (.slice e) a).bind fun x => .ret (x, l)
  | .fn1 p r, a :: l => (peekA E (.fn1 p r) a).bind fun x => .ret (x, l)
  | .fn2 p q r, a :: l => (peekA E (.fn2 p q r) a).bind fun x => .ret (x, l)
  | .seq e, a :: l => (peekA E (.seq e) a).bind fun x => .ret (x, l)
  | .seq2 p q, a :: l => (peekA E (.seq2 p q) a).bind fun x => .ret (x, l)
  | .map p q, a :: l => (peekA E (.map p q) a).bind fun x => .ret (x, l)
  | .ptr p, a :: l => (peekA E (.ptr p) a).bind fun x => .ret (x, l)
  | .sliceN p, a :: l => (peekA E (.sliceN p) a).bind fun x => .ret (x, l)
  | _, [] => .fail

def peek (E : Env) (t : Ty) : SVal → RM (t.den × W)
  | .v a => peekA E t a
  | .comp l => bif t.isPair then (implode E t l).bind fun x => match x.2 with
    | [] => .ret x.1
    | _ => .fail else .fail
  | .tup _ => .fail

def explode : (t : Ty) → t.den → List AVal
  | .unit, _ => []
  | .pair a b, (x, y) => explode a x ++ explode b y
  | .int k, d => [.pure (.int k) d]
  | .bool, d => [.pure .bool d]
  | .str, d => [.pure .str d]
  | .slice e, d => [.pure (.slice e) d]
  | .fn1 a r, d => [.pure (.fn1 a r) d]
  | .fn2 a b r, d => [.pure (.fn2 a b r) d]
  | .seq e, d => [.pure (.seq e) d]
  | .seq2 a b, d => [.pure (.seq2 a b) d]
  | .map a b, d => [.pure (.map a b) d]
  | .ptr e, d => [.pure (.ptr e) d]
  | .sliceN e, d => [.pure (.sliceN e) d]

/-- The cells of a value. -/
def SVal.cells : SVal → RM (List AVal)
  | .v (.pure t d) => bif t.isUnit then .fail else .ret (explode t d)
  | .v .junk => .fail
  | .v a => .ret [a]
  | .comp l => .ret l
  | .tup _ => .fail

def zeroCells : Ty → List AVal
  | .unit => []
  | .pair a b => zeroCells a ++ zeroCells b
  | .slice _ => [.nils]
  | .int k => [.pure (.int k) (0 : Int)]
  | .bool => [.pure .bool false]
  | .str => [.pure .str ([] : List UInt8)]
  | .sliceN _ => [.nils]
  | .fn1 _ _ | .fn2 _ _ _ | .seq _ | .seq2 _ _ | .map _ _ | .ptr _ => [.junk]

def geti {α : Type} (l : List α) (i : Int) : Option α := if 0 ≤ i then l[i.toNat]? else none
def seti {α : Type} (l : List α) (i : Int) (x : α) : Option (List α) := if 0 ≤ i ∧ i.toNat < l.length then some (l.set i.toNat x) else none
def cut {α : Type} (l : List α) (lo hi : Int) : Option (List α) :=
  if 0 ≤ lo ∧ lo ≤ hi ∧ hi ≤ (l.length : Int) then some ((l.take hi.toNat).drop lo.toNat) else none
def qdiv (k : IntKind) (x y : Int) : Option Int := if y = 0 then none else some (k.wrap (x.tdiv y))
def qrem (x y : Int) : Option Int := if y = 0 then none else some (x.tmod y)
/-- Lengths that memory bears. -/
def most : Nat := 4294967296
def chk (n : Nat) : Option Unit := if n ≤ most then some () else none
def chki (n : Int) : Option Unit := if 0 ≤ n ∧ n ≤ (most : Int) then some () else none
def imax (x y : Int) : Int := if y > x then y else x
def imin (x y : Int) : Int := if y < x then y else x
/-- Floats as words: of a whole number, the root, and as a whole number. -/
def fofI (n : Int) : Nat := FloatKind.f64.nearest n
def froot (w : Nat) : Option Nat := FloatKind.f64.format.sqrt w
def ftoI (k : IntKind) (w : Nat) : Option Int := match (FloatKind.f64.decode w).toInt .zero with
  | some n => if k.min ≤ n ∧ n ≤ k.max then some n else none
  | none => none
def eqI (i n : Int) : Option Unit := if i = n then some () else none
def isIn (l : List Nat) (n : Nat) : Bool := l.any (Nat.beq n)
def part {α : Type} (g : Bool) (m : Option α) (d : α) : Option α := bif g then m else some d

/-- Field i of n fields. -/
def proj : (n i : Nat) → (t : Ty) → t.den → Option (Σ u : Ty, u.den)
  | 1, 0, t, d => some ⟨t, d⟩
  | _ + 2, 0, .pair a _, (x, _) => some ⟨a, x⟩
  | n + 2, i + 1, .pair _ b, (_, y) => proj (n + 1) i b y
  | _, _, _, _ => none

/-- The type of field i. -/
def typAt : (n i : Nat) → Ty → Option Ty
  | 1, 0, t => some t
  | _ + 2, 0, .pair a _ => some a
  | n + 2, i + 1, .pair _ b => typAt (n + 1) i b
  | _, _, _ => none

def offOf : (n i : Nat) → Ty → Option Nat
  | 1, 0, _ => some 0
  | _ + 2, 0, .pair _ _ => some 0
  | n + 2, i + 1, .pair a b => match offOf (n + 1) i b with
    | some o => some (a.sz + o)
    | none => none
  | _, _, _ => none

/-- Where the fields lie, and how many cells they have. -/
def placesOf : Nat → Ty → List (Nat × Nat)
  | 1, t => [(0, t.sz)]
  | n + 2, .pair a b => (0, a.sz) :: (placesOf (n + 1) b).map fun p => (a.sz + p.1, p.2)
  | _, _ => []

def beqTy : (t : Ty) → t.den → t.den → Option Bool
  | .int _, x, y => some ((x : Int) == y)
  | .bool, x, y => some ((x : Bool) == y)
  | .str, x, y => some ((x : List UInt8) == y)
  | .pair a b, (x, x'), (y, y') => match beqTy a x y, beqTy b x' y' with
    | some p, some q => some (p && q)
    | _, _ => none
  | _, _, _ => none

/-- Bits of whole numbers, and shifts of them. -/
def bandI (k : IntKind) (x y : Int) : Int := k.wrap ((BitVec.ofInt k.bits x &&& BitVec.ofInt k.bits y).toNat : Nat)
def borI (k : IntKind) (x y : Int) : Int := k.wrap ((BitVec.ofInt k.bits x ||| BitVec.ofInt k.bits y).toNat : Nat)
def bxorI (k : IntKind) (x y : Int) : Int := k.wrap ((BitVec.ofInt k.bits x ^^^ BitVec.ofInt k.bits y).toNat : Nat)
def shlI (k : IntKind) (x y : Int) : Option Int := if y < 0 then none else some (k.wrap (x * 2 ^ (min y.toNat k.bits)))
def shrI (k : IntKind) (x y : Int) : Option Int := if y < 0 then none else some (x.fdiv (2 ^ (min y.toNat k.bits)))

def shiftOp (g : Bool) (op : BinOp) (k : IntKind) (x y : Int) : RM AVal :=
  match op with
  | .shl => .opt Int (part g (shlI k x y) 0) fun q => .ret (.pure (.int k) q)
  | .shr => .opt Int (part g (shrI k x y) 0) fun q => .ret (.pure (.int k) q)
  | _ => .fail

def isShift : BinOp → Bool
  | .shl | .shr => true
  | _ => false

def intOp (g : Bool) (op : BinOp) (k : IntKind) (x y : Int) : RM AVal :=
  match op with
  | .add => .ret (.pure (.int k) (k.wrap (x + y)))
  | .sub => .ret (.pure (.int k) (k.wrap (x - y)))
  | .mul => .ret (.pure (.int k) (k.wrap (x * y)))
  | .quo => .opt Int (part g (qdiv k x y) 0) fun q => .ret (.pure (.int k) q)
  | .rem => .opt Int (part g (qrem x y) 0) fun q => .ret (.pure (.int k) q)
  | .and => .ret (.pure (.int k) (bandI k x y))
  | .or => .ret (.pure (.int k) (borI k x y))
  | .xor => .ret (.pure (.int k) (bxorI k x y))
  | .eql => .ret (.pure .bool (x == y))
  | .neq => .ret (.pure .bool (x != y))
  | .lss => .ret (.pure .bool (decide (x < y)))
  | .leq => .ret (.pure .bool (decide (x ≤ y)))
  | .gtr => .ret (.pure .bool (decide (x > y)))
  | .geq => .ret (.pure .bool (decide (x ≥ y)))
  | _ => .fail

def strOp (g : Bool) (op : BinOp) (x y : List UInt8) : RM AVal :=
  match op with
  | .eql => .ret (.pure .bool (x == y))
  | .neq => .ret (.pure .bool (x != y))
  | .add => .opt Unit (part g (chk (x.length + y.length)) ()) fun _ => .ret (.pure .str (x ++ y))
  | _ => .fail

def eqOp (E : Env) (op : BinOp) (t : Ty) (s s' : SVal) : RM AVal :=
  (peek E t s).bind fun d => (peek E t s').bind fun d' => match beqTy t d.1 d'.1 with
  | some b => match op with
    | .eql => .ret (.pure .bool b)
    | .neq => .ret (.pure .bool (!b))
    | _ => .fail
  | none => .fail

def binOp (E : Env) (g : Bool) (op : BinOp) (T : Nat) (s s' : SVal) : RM AVal :=
  match E.ty T with
  | some (.int k) => bif isShift op then (peek E (.int k) s).bind fun x => (match s' with
      | .v (.pure (.int _) y) => shiftOp g op k x.1 y
      | _ => .fail)
    else (peek E (.int k) s).bind fun x => (peek E (.int k) s').bind fun y => intOp g op k x.1 y.1
  | some .str => (peek E .str s).bind fun x => (peek E .str s').bind fun y => strOp g op x.1 y.1
  | some .bool => eqOp E op .bool s s'
  | some (.pair a b) => match Map.get E.Q T with
    | some t => if t = .pair a b then eqOp E op (.pair a b) s s' else .fail
    | none => .fail
  | _ => .fail

/-- A slice, a string: how long it is. -/
def lenOf : AVal → RM Nat
  | .pure (.slice _) l => .ret (List.length l)
  | .nils => .ret 0
  | .hand id ver => .obj id fun
    | some (cv, .buf _ l) => bif Nat.beq cv ver then .ret l.length else .fail
    | some (cv, .fbuf _ l) => bif Nat.beq cv ver then .ret l.length else .fail
    | _ => .fail
  | .nhand id ver => .obj id fun
    | some (cv, .nbuf _ l) => bif Nat.beq cv ver then .ret l.length else .fail
    | _ => .fail
  | _ => .fail

/-- Some cells as a value of a type. -/
def ofCells (t : Ty) (l : List AVal) : RM SVal :=
  match t.isPair, l with
  | false, [c] => .ret (.v c)
  | true, l => bif Nat.beq l.length t.sz then .ret (.comp l) else .fail
  | _, _ => .fail

def loadOp (g : Bool) (t : Ty) : AVal → RM SVal
  | .bptr id ver off => .obj id fun
    | some (cv, .box u cells) => bif Nat.beq cv ver then ofCells t ((cells.drop off).take t.sz) else .fail
    | some (cv, .fbox u d) => bif Nat.beq cv ver then
        (if t = u ∧ off = 0 then .ret (.v (.pure u d)) else ofCells t (((explode u d).drop off).take t.sz)) else .fail
    | _ => .fail
  | .pptr u d => if t = u then .ret (.v (.pure u d)) else .fail
  | .eptr id ver u i => .obj id fun
    | some (cv, .buf e l) => bif Nat.beq cv ver then
        (if t = e ∧ u = e then .opt e.den (part g (geti l i) e.dflt) fun x => .ret (.v (.pure e x)) else .fail) else .fail
    | some (cv, .fbuf e l) => bif Nat.beq cv ver then
        (if t = e ∧ u = e then .opt e.den (part g (geti l i) e.dflt) fun x => .ret (.v (.pure e x)) else .fail) else .fail
    | _ => .fail
  | .epart id ver u i off => .obj id fun
    | some (cv, .buf e l) => bif Nat.beq cv ver then
        (if u = e then .opt e.den (part g (geti l i) e.dflt) fun x => ofCells t (((explode e x).drop off).take t.sz) else .fail) else .fail
    | some (cv, .cbuf ta tu te l n j v) => bif Nat.beq cv ver && Nat.beq off ta.sz then
        (if t = .slice tu ∧ u = cellTy ta tu te then .opt Unit (eqI i n) fun _ => .opt (cellTy ta tu te).den (part g (geti (α := (cellTy ta tu te).den) l i) (cellTy ta tu te).dflt) fun _ => .ret (.v (.hand j v)) else .fail) else .fail
    | _ => .fail
  | .nptr id ver u i => .obj id fun
    | some (cv, .nbuf e l) => bif Nat.beq cv ver then
        (if t = .slice e ∧ u = e then .opt (List e.den) (part g (geti l i) []) fun _ => .ret (.v (.nel id ver e i)) else .fail) else .fail
    | _ => .fail
  | .nelp id ver u i j => .obj id fun
    | some (cv, .nbuf e l) => bif Nat.beq cv ver then
        (if t = e ∧ u = e then .opt (List e.den) (part g (geti l i) []) fun li => .opt e.den (part g (geti li j) e.dflt) fun x => .ret (.v (.pure e x)) else .fail) else .fail
    | _ => .fail
  | _ => .fail

def fieldAddrOp (te : TyE) (i : Nat) : AVal → RM SVal
  | .bptr id ver off => .obj id fun
    | some (cv, _) => bif Nat.beq cv ver then (match offOf te.nf i te.ty with
      | some o => .ret (.v (.bptr id ver (off + o)))
      | none => .fail) else .fail
    | none => .fail
  | .pptr t d => if te.ty = t then
      (match proj te.nf i t d with
      | some ⟨u, x⟩ => .ret (.v (.pptr u x))
      | none => .fail) else .fail
  | .eptr id ver u n => .obj id fun
    | some (cv, _) => bif Nat.beq cv ver then (match offOf te.nf i te.ty with
      | some o => .ret (.v (.epart id ver u n o))
      | none => .fail) else .fail
    | none => .fail
  | .epart id ver u n off => .obj id fun
    | some (cv, _) => bif Nat.beq cv ver then (match offOf te.nf i te.ty with
      | some o => .ret (.v (.epart id ver u n (off + o)))
      | none => .fail) else .fail
    | none => .fail
  | _ => .fail

def indexAddrOp (g : Bool) (e : Ty) (n : Int) : AVal → RM SVal
  | .pure (.slice u) l => if e = u then .opt u.den (part g (geti l n) u.dflt) fun x => .ret (.v (.pptr u x)) else .fail
  | .hand id ver => .obj id fun
    | some (cv, .buf u l) => bif Nat.beq cv ver then
        (if e = u then .opt u.den (part g (geti l n) u.dflt) fun _ => .ret (.v (.eptr id ver u n)) else .fail) else .fail
    | some (cv, .fbuf u l) => bif Nat.beq cv ver then
        (if e = u then .opt u.den (part g (geti l n) u.dflt) fun x => .ret (.v (.pptr u x)) else .fail) else .fail
    | some (cv, .cbuf ta tu te l _ _ _) => bif Nat.beq cv ver then
        (if (coe (cellTy ta tu te) e).isSome = true then .opt (cellTy ta tu te).den (part g (geti (α := (cellTy ta tu te).den) l n) (cellTy ta tu te).dflt) fun _ => .ret (.v (.eptr id ver (cellTy ta tu te) n)) else .fail) else .fail
    | _ => .fail
  | .nhand id ver => .obj id fun
    | some (cv, .nbuf u l) => bif Nat.beq cv ver then
        (if e = .slice u then .opt (List u.den) (part g (geti l n) []) fun _ => .ret (.v (.nptr id ver u n)) else .fail) else .fail
    | _ => .fail
  | .nel id ver u i => .obj id fun
    | some (cv, .nbuf u' l) => bif Nat.beq cv ver then
        (if e = u ∧ u = u' then .opt (List u'.den) (part g (geti l i) []) fun li => .opt u'.den (part g (geti li n) u'.dflt) fun _ => .ret (.v (.nelp id ver u i n)) else .fail) else .fail
    | _ => .fail
  | _ => .fail

def buildL (L : List (Nat × Bool)) (te : TyE) (cells : List AVal) : List (Nat × Operand) → RM (List AVal)
  | [] => .ret cells
  | (i, x) :: r => (rd L x).bind fun s => s.cells.bind fun l => match (placesOf te.nf te.ty)[i]? with
    | some (o, n) => bif Nat.beq l.length n && Nat.ble (o + n) cells.length then buildL L te (cells.take o ++ l ++ cells.drop (o + n)) r else .fail
    | none => .fail

def rdInt (L : List (Nat × Bool)) (x : Operand) : RM Int := (rdA L x).bind fun
  | .pure (.int _) n => .ret n
  | _ => .fail

def rdBound (L : List (Nat × Bool)) (dflt : Int) : Option Operand → RM Int
  | none => .ret dflt
  | some x => rdInt L x

def sliceOp (L : List (Nat × Bool)) (g : Bool) (t : Ty) (lo hi : Option Operand) : AVal → RM SVal
  | .pure (.slice u) l => if t = .slice u then (rdBound L 0 lo).bind fun x => (rdBound L (List.length l : Nat) hi).bind fun y =>
      .opt (List u.den) (part g (cut l x y) []) fun z => .ret (.v (.pure (.slice u) z)) else .fail
  | .pure .str l => if t = .str then (rdBound L 0 lo).bind fun x => (rdBound L (List.length (α := UInt8) l : Nat) hi).bind fun y =>
      .opt (List UInt8) (part g (cut (α := UInt8) l x y) []) fun z => .ret (.v (.pure .str z)) else .fail
  | _ => .fail

/-! Maps, as lists of entries in the order in which they came. -/
def mgetE {κ α : Type} (eq : κ → κ → Bool) : List (κ × α) → κ → Option α
  | [], _ => none
  | p :: r, x => bif eq p.1 x then some p.2 else mgetE eq r x

def mputE {κ α : Type} (eq : κ → κ → Bool) : List (κ × α) → κ → α → List (κ × α)
  | [], x, y => [(x, y)]
  | p :: r, x, y => bif eq p.1 x then (x, y) :: r else p :: mputE eq r x y

@[reducible] def mget {α : Type} (l : List (Int × α)) (x : Int) : Option α := mgetE (fun (a b : Int) => a == b) l x
@[reducible] def mput {α : Type} (l : List (Int × α)) (x : Int) (y : α) : List (Int × α) := mputE (fun (a b : Int) => a == b) l x y

def mapOf (q : Ty) (u : Ty) : AVal → RM (List (q.den × u.den))
  | .pure t d => .ofOpt (castTy (t := t) (t' := .map q u) d)
  | .hand id ver => .obj id fun
    | some (cv, .map k v l) => bif Nat.beq cv ver then .ofOpt (castTy (t := .map k v) (t' := .map q u) l) else .fail
    | some (cv, .fmap k v l) => bif Nat.beq cv ver then .ofOpt (castTy (t := .map k v) (t' := .map q u) l) else .fail
    | _ => .fail
  | _ => .fail

def rdK (E : Env) (q : Ty) (L : List (Nat × Bool)) (x : Operand) : RM q.den := (rd L x).bind fun s => (peek E q s).bind fun d => match d.2 with
  | [] => .ret d.1
  | _ => .fail

def lookS (u : Ty) (ok : Bool) (r : Option u.den) : SVal :=
  bif ok then .tup [.pure u (r.getD u.dflt), .pure .bool r.isSome] else .v (.pure u (r.getD u.dflt))

def boolOf : AVal → RM Bool
  | .pure .bool b => .ret b
  | _ => .fail

def pickOp (L : List (Nat × Bool)) (c a b : Operand) : RM SVal :=
  match c with
  | .tmp s => (rdA L (.tmp s)).bind fun c => (boolOf c).bind fun t =>
    match a, b with
    | .const (.bool true), _ => (rdA ((s, false) :: L) b).bind fun y => (boolOf y).bind fun y => .ret (.v (.pure .bool (t || y)))
    | _, .const (.bool false) => (rdA ((s, true) :: L) a).bind fun x => (boolOf x).bind fun x => .ret (.v (.pure .bool (t && x)))
    | _, _ => .fail
  | _ => .fail

/-- Operations that give a value and change no object. g: they are carried out. -/
def valOp (E : Env) (L : List (Nat × Bool)) (g : Bool) (op : Op) : RM SVal :=
  match op with
  | .move x | .assign x => rd L x
  | .binOp b T x y _ => (rd L x).bind fun s => (rd L y).bind fun s' => (binOp E g b T s s').bind fun a => .ret (.v a)
  | .nilCheck x => (rdA L x).bind fun
    | .pure (.ptr e) d => .ret (.v (.pptr e d))
    | .pptr e d => .ret (.v (.pptr e d))
    | .bptr id ver off => .obj id fun
      | some (cv, _) => bif Nat.beq cv ver then .ret (.v (.bptr id ver off)) else .fail
      | none => .fail
    | _ => .fail
  | .unOp u _ x => (rdA L x).bind fun
    | .pure .bool b => match u with
      | .not => .ret (.v (.pure .bool (!b)))
      | _ => .fail
    | .pure (.int k) n => match u with
      | .neg => .ret (.v (.pure (.int k) (k.wrap (0 - (n : Int)))))
      | _ => .fail
    | _ => .fail
  | .pick c a b => pickOp L c a b
  | .load T a => match E.ty T with
    | some t => (rdA L a).bind (loadOp g t)
    | none => .fail
  | .fieldAddr T x i => match Map.get E.G T with
    | some te => bif te.ty.isPair && !te.arr then (rdA L x).bind (fieldAddrOp te i) else .fail
    | none => .fail
  | .field T x i => match Map.get E.G T with
    | some te => bif te.ty.isPair && !te.arr then (rdA L x).bind fun
      | .pure t d => match castTy (t := t) (t' := te.ty) d with
        | some d => match proj te.nf i te.ty d with
          | some u => bif u.1.isUnit then .fail else .ret (.v (.pure u.1 u.2))
          | none => .fail
        | none => .fail
      | _ => .fail else .fail
    | none => .fail
  | .indexAddr T x i => match Map.get E.G T with
    | some te => bif te.arr then (rdA L x).bind fun a => (rdInt L i).bind fun n => (.opt Unit (if 0 ≤ n then some () else none) fun _ => fieldAddrOp te n.toNat a) else match te.ty with
      | .slice e => (rdA L x).bind fun a => (rdInt L i).bind fun n => indexAddrOp g e n a
      | _ => .fail
    | none => .fail
  | .index T x i => match E.ty T with
    | some .str => (rdA L x).bind fun
      | .pure .str l => (rdInt L i).bind fun n => .opt UInt8 (part g (geti (α := UInt8) l n) 0) fun c => .ret (.v (.pure (.int .u8) (c.toNat : Int)))
      | _ => .fail
    | _ => .fail
  | .extract t i => (rd L t).bind fun
    | .tup l => match l[i]? with
      | some a => .ret (.v a)
      | none => .fail
    | _ => .fail
  | .slice T x lo hi none => match E.ty T with
    | some t => (rdA L x).bind (sliceOp L g t lo hi)
    | none => .fail
  | .lookup T m k ok => match E.ty T with
    | some (.map q u) => bif u.noFn then (rdA L m).bind fun a => (mapOf q u a).bind fun l => (rdK E q L k).bind fun n => .ret (lookS u ok (mgetE q.beq l n)) else .fail
    | _ => .fail
  | .convert S T x => match E.ty S, E.ty T with
    | some (.int _), some (.int k) => (rdInt L x).bind fun n => .ret (.v (.pure (.int k) (k.wrap n)))
    | some (.int _), none => bif isIn E.D T then (rdInt L x).bind fun n => .ret (.v (.flt (fofI n))) else .fail
    | none, some (.int k) => bif isIn E.D S then (rdA L x).bind fun
      | .flt w => .opt Int (part g (ftoI k w) 0) fun n => .ret (.v (.pure (.int k) n))
      | _ => .fail else .fail
    | _, _ => .fail
  | .build T ps => match Map.get E.G T with
    | some te => bif te.ty.noFn && te.ty.isPair then (buildL L te (zeroCells te.ty) ps.toList).bind fun l => .ret (.comp l) else .fail
    | none => .fail
  | .call { callee := .builtin .len, args, argTypes } => match args.toList, argTypes.toList with
    | [x], [T] => match E.ty T with
      | some (.slice _) => (rdA L x).bind fun a => (lenOf a).bind fun n => .ret (.v (.pure (.int .i64) (n : Int)))
      | some .str => (rdA L x).bind fun
        | .pure .str l => .ret (.v (.pure (.int .i64) (List.length (α := UInt8) l : Nat)))
        | _ => .fail
      | _ => .fail
    | _, _ => .fail
  | .call { callee := .builtin .max, args, .. } => match args.toList with
    | [x, y] => (rdA L x).bind fun
      | .pure (.int k) a => (rdA L y).bind fun
        | .pure (.int k') b => if k = k' then .ret (.v (.pure (.int k) (imax a b))) else .fail
        | _ => .fail
      | _ => .fail
    | _ => .fail
  | .call { callee := .builtin .min, args, .. } => match args.toList with
    | [x, y] => (rdA L x).bind fun
      | .pure (.int k) a => (rdA L y).bind fun
        | .pure (.int k') b => if k = k' then .ret (.v (.pure (.int k) (imin a b))) else .fail
        | _ => .fail
      | _ => .fail
    | _ => .fail
  | _ => .fail

/-- A captured variable: what it holds, and that it is written no more. -/
def capA (E : Env) (t : Ty) : AVal → RM (t.den × W)
  | .pptr u d => .ofOpt ((castTy (t := u) (t' := t) d).map fun d => (d, []))
  | .bptr id ver 0 => .obj id fun
    | some (cv, .box u cells) => bif Nat.beq cv ver then (implode E u cells).bind fun p => match p.2 with
      | [] => .ofOpt ((castTy (t := u) (t' := t) p.1.1).map fun d => (d, p.1.2 ++ [(id, (cv, .fbox u p.1.1))]))
      | _ => .fail else .fail
    | some (cv, .fbox u d) => bif Nat.beq cv ver then .ofOpt ((castTy (t := u) (t' := t) d).map fun d => (d, [])) else .fail
    | _ => .fail
  | _ => .fail

/-- An argument: data, or a pointer to data. -/
def peekP (E : Env) (t : Ty) (s : SVal) : RM (t.den × W) :=
  match t, s with
  | .ptr e, .v (.bptr id ver off) => capA E e (.bptr id ver off)
  | .ptr e, .v (.pptr u d) => capA E e (.pptr u d)
  | t, s => peek E t s

def packArgs (E : Env) : (ts : List Ty) → List SVal → RM (denL ts × W)
  | [], [] => .ret ((), [])
  | [t], [s] => peekP E t s
  | t :: u :: ts, s :: ss => (peekP E t s).bind fun x => (packArgs E (u :: ts) ss).bind fun y => .ret ((x.1, y.1), x.2 ++ y.2)
  | _, _ => .fail

def tupOf : (ts : List Ty) → denL ts → List AVal
  | [], _ => []
  | [t], x => [.pure t x]
  | t :: u :: ts, (x, y) => .pure t x :: tupOf (u :: ts) y

def resS : (ts : List Ty) → denL ts → SVal
  | [], _ => .tup []
  | [t], x => .v (.pure t x)
  | t :: u :: ts, r => .tup (tupOf (t :: u :: ts) r)

def freshFlat : List Ty → Bool
  | [.slice e] => e.flat
  | _ => false

/-- A result that hangs on no memory of the arguments. -/
def Con.light (c : Con) : Bool := c.outs.all Ty.flat || (c.fresh && freshFlat c.outs)

def Con.app (c : Con) (x : denL c.ins) : Option (denL c.outs) :=
  match c, x with
  | ⟨_, [], _, f, _⟩, x => f x ()
  | _, _ => none

/-- Calls: the result, whether it is new, and what may be written no more. -/
def callCon (E : Env) (L : List (Nat × Bool)) (g : Bool) (f : Nat) (args : List Operand) : RM ((Bool × SVal) × W) :=
  match Map.get E.C f with
  | some c => (rdS L args).bind fun l => (packArgs E c.ins l).bind fun x =>
    .opt (denL c.outs) (part g (c.app x.1) (dfltL c.outs)) fun r => .ret ((c.fresh, resS c.outs r), bif c.light then [] else x.2)
  | none => bif isIn E.S f then (rdS L args).bind fun
    | [.v (.flt w)] => .opt Nat (part g (froot w) 0) fun r => .ret ((false, .v (.flt r)), [])
    | _ => .fail else .fail

def callOp (E : Env) (L : List (Nat × Bool)) (g : Bool) (f : Operand) (args : List Operand) : RM ((Bool × SVal) × W) :=
  match f with
  | .func f => callCon E L g f args
  | .tmp t => (rdA L (.tmp t)).bind fun
    | .fref f => callCon E L g f args
    | .pure (.fn1 a r) f => (rdS L args).bind fun
      | [s] => (peek E a s).bind fun x => .opt r.den (part g (f x.1) r.dflt) fun y => .ret ((false, .v (.pure r y)), bif r.flat then [] else x.2)
      | _ => .fail
    | .pure (.fn2 a b r) f => (rdS L args).bind fun
      | [s, s'] => (peek E a s).bind fun x => (peek E b s').bind fun x' => .opt r.den (part g (f x.1 x'.1) r.dflt) fun y =>
        .ret ((false, .v (.pure r y)), bif r.flat then [] else x.2 ++ x'.2)
      | _ => .fail
    | _ => .fail
  | _ => .fail

/-- What an operation changes: its slot, and objects. -/
structure Upd where
  dst : Option (Nat × Slot)
  objs : W

def Upd.slot (d : Option Nat) (L : List (Nat × Bool)) (g : Bool) (s : SVal) (w : W) : Upd :=
  ⟨match d with | some d => some (d, ⟨L, g, s⟩) | none => none, w⟩

/-- A new object in the place of slot d, and what the slot holds. -/
def newObj (d : Nat) (o : AObj) (a : Nat → AVal) (w : W) : RM Upd :=
  .obj d fun
  | none => .ret ⟨some (d, ⟨[], true, .v (a 0)⟩), w ++ [(d, (0, o))]⟩
  | some (cv, _) => .ret ⟨some (d, ⟨[], true, .v (a (cv + 1))⟩), w ++ [(d, (cv + 1, o))]⟩

def fillL (E : Env) (e : Ty) (l : List e.den) (w : W) : List (Nat × Operand) → RM (List e.den × W)
  | [] => .ret (l, w)
  | (i, x) :: r => (rd [] x).bind fun s => (peek E e s).bind fun d => bif Nat.blt i l.length then fillL E e (l.set i d.1) (w ++ d.2) r else .fail

def cap1 (E : Env) (t : Ty) (x : Operand) : RM (t.den × W) := (rdA [] x).bind (capA E t)

def capsOf (E : Env) : (ts : List Ty) → List Operand → RM (denL ts × W)
  | [], [] => .ret ((), [])
  | [t], [x] => cap1 E t x
  | t :: u :: ts, x :: r => (cap1 E t x).bind fun d => (capsOf E (u :: ts) r).bind fun y => .ret ((d.1, y.1), d.2 ++ y.2)
  | _, _ => .fail

def funOfL (E : Env) : (ins caps outs : List Ty) → (denL ins → denL caps → Option (denL outs)) → denL caps → List SVal → RM (AVal × W)
  | [a], _, [r], f, caps, [] => .ret (.pure (.fn1 a r) fun x => f x caps, [])
  | [a, b], _, [r], f, caps, [] => .ret (.pure (.fn2 a b r) fun x y => f (x, y) caps, [])
  | [t, a], _, [r], f, caps, [s] => (peek E t s).bind fun d => .ret (.pure (.fn1 a r) fun x => f (d.1, x) caps, d.2)
  | [t, a, b], _, [r], f, caps, [s] => (peek E t s).bind fun d => .ret (.pure (.fn2 a b r) fun x y => f (d.1, x, y) caps, d.2)
  | _, _, _, _, _, _ => .fail

def funOf (E : Env) (c : Con) (caps : denL c.caps) (first : List SVal) : RM (AVal × W) := funOfL E c.ins c.caps c.outs c.fn caps first

def splice {α : Type} (l : List α) (off : Nat) (x : List α) : List α := l.take off ++ x ++ l.drop (off + x.length)

def storeOp (E : Env) (t : Ty) (x : Operand) : AVal → RM Upd
  | .bptr id ver off => (rd [] x).bind fun s => s.cells.bind fun l => .obj id fun
    | some (cv, .box u cells) => bif Nat.beq cv ver && Nat.beq l.length t.sz && Nat.ble (off + t.sz) cells.length then
        .ret ⟨none, [(id, (cv, .box u (splice cells off l)))]⟩ else .fail
    | _ => .fail
  | .eptr id ver u i => (rd [] x).bind fun s => (peek E t s).bind fun d => .obj id fun
    | some (cv, .buf e l) => bif Nat.beq cv ver && d.2.all (fun p => !Nat.beq p.1 id) then
        (if h : t = e ∧ u = e then .opt (List e.den) (seti l i (h.1 ▸ d.1)) fun l' => .ret ⟨none, d.2 ++ [(id, (cv, .buf e l'))]⟩ else .fail) else .fail
    | _ => .fail
  | .epart id ver u i off => (rd [] x).bind fun
    | .v (.hand j' v') => .obj id fun
      | some (cv, .cbuf ta tu te l n j v) => bif Nat.beq cv ver && Nat.beq off ta.sz then
          (if t = .slice tu ∧ u = cellTy ta tu te then .opt Unit (eqI i n) fun _ => .opt (cellTy ta tu te).den (geti (α := (cellTy ta tu te).den) l i) fun _ => .ret ⟨none, [(id, (cv, .cbuf ta tu te l n j' v'))]⟩ else .fail) else .fail
      | _ => .fail
    | _ => .fail
  | _ => .fail

def appendOp (E : Env) (T d : Nat) (x : Operand) : AVal → RM Upd
  | .hand id ver => (rdA [] x).bind fun a => .obj id fun
    | some (cv, .buf e l) => bif Nat.beq cv ver then (if E.sl T e = true then (peekB E (.slice e) a).bind fun m =>
        .opt Unit (chk (l.length + List.length m.1)) fun _ => .ret ⟨some (d, ⟨[], true, .v (.hand id (cv + 1))⟩), [(id, (cv + 1, .buf e (l ++ m.1)))]⟩ else .fail) else .fail
    | _ => .fail
  | .nils => match E.ty T with
    | some (.slice e) => (rdA [] x).bind fun a => (peekB E (.slice e) a).bind fun m =>
        .opt Unit (chk (List.length m.1)) fun _ => newObj d (.buf e m.1) (.hand d) []
    | _ => .fail
  | _ => .fail

/-- The bytes of a string, as numbers. -/
def bytesOf (l : List UInt8) : List Int := l.map fun c => (c.toNat : Int)

/-- New data: each slice is an object of the call's own. -/
def freshL (id : Nat) : (t : Ty) → t.den → RM (List AVal × W)
  | .slice e, l => .obj id fun
    | none => .ret ([.hand id 0], [(id, (0, .buf e l))])
    | some (cv, _) => .ret ([.hand id (cv + 1)], [(id, (cv + 1, .buf e l))])
  | .pair a b, (x, y) => (freshL id a x).bind fun p => (freshL (id + a.sz) b y).bind fun q => .ret (p.1 ++ q.1, p.2 ++ q.2)
  | .unit, _ => .ret ([], [])
  | t, d => .ret ([.pure t d], [])

def callUpd (d : Option Nat) (r : (Bool × SVal) × W) : RM Upd :=
  match r.1.1, r.1.2, d with
  | true, .v (.pure (.slice e) l), some d => newObj d (.buf e l) (.hand d) r.2
  | true, .v (.pure (.pair a b) x), some d => (freshL ((d + 1) * 4096) (.pair a b) x).bind fun p => .ret ⟨some (d, ⟨[], true, .comp p.1⟩), r.2 ++ p.2⟩
  | _, s, d => .ret (.slot d [] true s r.2)

/-- An entry of a map of the call's own is set. -/
def mapPut (E : Env) (T : Nat) (m k x : Operand) : RM Upd := match E.ty T with
  | some (.map q u) => (rdA [] m).bind fun
    | .hand id ver => (rdK E q [] k).bind fun n => (rd [] x).bind fun s => (peek E u s).bind fun d => .obj id fun
      | some (cv, .map q' u' l) => bif Nat.beq cv ver && d.2.all (fun p => !Nat.beq p.1 id) then
          (if h : q' = q ∧ u' = u then .ret ⟨none, d.2 ++ [(id, (cv, .map q' u' (mputE q'.beq l (h.1 ▸ n) (h.2 ▸ d.1))))]⟩ else .fail) else .fail
      | _ => .fail
    | _ => .fail
  | _ => .fail

/-- A call that changes a slice of the call's own. -/
def mutOp (E : Env) (d : Option Nat) (c : MCon) (args : List Operand) : RM Upd := match args with
  | [] => .fail
  | x :: r => (rdA [] x).bind fun
    | .hand id ver => (rdS [] r).bind fun ss => (packArgs E c.ins ss).bind fun y => .obj id fun
      | some (cv, .buf e l) => bif Nat.beq cv ver && y.2.all (fun p => !Nat.beq p.1 id) then
          (if h : e = c.el then .opt (List c.el.den) (c.fn (h ▸ l) y.1) fun l' => match c.back, d with
            | true, some d => .ret ⟨some (d, ⟨[], true, .v (.hand id (cv + 1))⟩), y.2 ++ [(id, (cv + 1, .buf c.el l'))]⟩
            | false, d => .ret ⟨d.map fun d => (d, ⟨[], true, .tup []⟩), y.2 ++ [(id, (cv, .buf c.el l'))]⟩
            | _, _ => .fail
          else .fail) else .fail
      | _ => .fail
    | _ => .fail

def nodupN : List Nat → Bool
  | [] => true
  | i :: r => !r.any (Nat.beq i) && nodupN r

def noW {t : Ty} (x : t.den × W) : RM (t.den × List Nat) := match x.2 with
  | [] => .ret (x.1, [])
  | _ => .fail

/-- A variable's cells as data, and which slices are of the call's own. -/
def oread (E : Env) : (t : Ty) → List Bool → List AVal → RM (t.den × List Nat)
  | .unit, _, [] => .ret ((), [])
  | .pair a b, fl, l => (oread E a (fl.take a.sz) (l.take a.sz)).bind fun x => (oread E b (fl.drop a.sz) (l.drop a.sz)).bind fun y => .ret ((x.1, y.1), x.2 ++ y.2)
  | .slice e, true :: _, [.hand id ver] => .obj id fun
    | some (cv, .buf e' l) => bif Nat.beq cv ver then (match castTy (t := .slice e') (t' := .slice e) l with
      | some x => .ret (x, [id])
      | none => .fail) else .fail
    | _ => .fail
  | .slice e, false :: _, [a] => (peekA E (.slice e) a).bind noW
  | .int k, false :: _, [a] => (peekA E (.int k) a).bind noW
  | .bool, false :: _, [a] => (peekA E (.bool) a).bind noW
  | .str, false :: _, [a] => (peekA E (.str) a).bind noW
  | _, _, _ => .fail

/-- .. and behind the call. -/
def owrite : (t : Ty) → List Bool → List AVal → t.den → List AVal × W
  | .unit, _, _, _ => ([], [])
  | .pair a b, fl, l, d => ((owrite a (fl.take a.sz) (l.take a.sz) d.1).1 ++ (owrite b (fl.drop a.sz) (l.drop a.sz) d.2).1, (owrite a (fl.take a.sz) (l.take a.sz) d.1).2 ++ (owrite b (fl.drop a.sz) (l.drop a.sz) d.2).2)
  | .slice e, true :: _, [.hand id ver], d => ([.hand id (ver + 1)], [(id, (ver + 1, .buf e d))])
  | t, _, _, d => ([.pure t d], [])

/-- A call by such a contract. -/
def objCall (E : Env) (dst : Option Nat) (c : OCon) (p : AVal) (args : List Operand) (y : denL c.caps) : RM Upd := match p with
  | .bptr id ver off => (rdS [] args).bind fun ss => (packArgs E c.ins ss).bind fun x => .obj id fun
    | some (cv, .box t cells) => bif Nat.beq cv ver && Nat.beq off 0 then (match x.2 with
      | [] => if t = c.t then (oread E c.t c.own cells).bind fun q => bif nodupN (id :: q.2) then
          .opt (c.t.den × denL c.outs) (c.fn q.1 x.1 y) fun r =>
            .ret ⟨dst.map fun d => (d, ⟨[], true, resS c.outs r.2⟩), (id, (cv, .box c.t (owrite c.t c.own cells r.1).1)) :: (owrite c.t c.own cells r.1).2⟩ else .fail else .fail
      | _ => .fail) else .fail
    | _ => .fail
  | _ => .fail

/-- Whether a call is one of these. -/
def oCallOp (E : Env) (dst : Option Nat) (f : Operand) (args : List Operand) : RM (Option Upd) := match f with
  | .func g => match Map.get E.O g, args with
    | some ⟨t, own, false, ins, [], outs, fn⟩, x :: r => (rdA [] x).bind fun p => (objCall E dst ⟨t, own, false, ins, [], outs, fn⟩ p r ()).bind fun u => .ret (some u)
    | some _, _ => .fail
    | none, _ => .ret none
  | .tmp t => (rdA [] (.tmp t)).bind fun
    | .oclo g s d id ver => match Map.get E.O g with
      | some ⟨t, own, true, ins, [s'], outs, fn⟩ => if h : s = s' then (objCall E dst ⟨t, own, true, ins, [s'], outs, fn⟩ (.bptr id ver 0) args (h ▸ d)).bind fun u => .ret (some u) else .fail
      | _ => .fail
    | _ => .ret none
  | _ => .ret none

/-- A function that is made, whose last captured variable is written by its calls. -/
def oMake (E : Env) (dst : Option Nat) (f : Nat) (c : OCon) (cap : List Operand) : RM Upd := match c, cap with
  | ⟨t, _, true, _, [s], _, _⟩, [x, y] => (cap1 E s x).bind fun d => (rdA [] y).bind fun
    | .bptr id ver off => .obj id fun
      | some (cv, .box u _) => bif Nat.beq cv ver && Nat.beq off 0 && d.2.all (fun p => !Nat.beq p.1 id) then (if u = t then .ret (.slot dst [] true (.v (.oclo f s d.1 id ver)) d.2) else .fail) else .fail
      | _ => .fail
    | _ => .fail
  | _, _ => .fail

/-- An operation without a guard. -/
def effOp (E : Env) (o : Oper) : RM Upd :=
  match o.op with
  | .assign (.const (.slice none 0 0)) => match o.dst, E.ty o.type with
    | some d, some (.slice e) => bif isIn E.N d then (match e with
      | .slice u => newObj d (.nbuf u []) (.nhand d) []
      | _ => .fail) else newObj d (.buf e []) (.hand d) []
    | _, _ => .fail
  | .alloc T => match o.dst, E.ty T with
    | some d, some t => newObj d (.box t (zeroCells t)) (fun v => .bptr d v 0) []
    | _, _ => .fail
  | .box T x => match o.dst, E.ty T with
    | some d, some t => (rd [] x).bind fun s => s.cells.bind fun l => bif Nat.beq l.length t.sz then newObj d (.box t l) (fun v => .bptr d v 0) [] else .fail
    | _, _ => .fail
  | .buildSlice T n ps => match o.dst, E.elT T o.dst with
    | some d, some e => (fillL E e (List.replicate n e.dflt) [] ps.toList).bind fun l =>
      bif e.noFn && Nat.ble (n * e.sz) 16777216 then newObj d (.buf e l.1) (.hand d) l.2 else .fail
    | _, _ => .fail
  | .makeSlice T (.tmp x) (.tmp y) => match o.dst, E.ty T with
    | some d, some (.slice e) => (rdA [] (.tmp x)).bind fun
      | .pure (.int .i64) n => bif Nat.beq x y && e.noFn then .opt Unit (chki n) fun _ => newObj d (.buf e (List.replicate (n : Int).toNat e.dflt)) (.hand d) [] else .fail
      | _ => .fail
    | _, _ => .fail
  | .store T a x => match o.dst, E.ty T with
    | none, some t => (rdA [] a).bind (storeOp E t x)
    | _, _ => .fail
  | .call { callee := .builtin .append, args, argTypes } => match o.dst, args.toList, argTypes.toList with
    | some d, [s, x], [T, T'] => bif Nat.beq T T' then (rdA [] s).bind (appendOp E T d x) else .fail
    | _, _, _ => .fail
  | .makeFunc (.func f) first cap => match Map.get E.C f with
    | some c => (capsOf E c.caps cap.toList).bind fun y => (rdS [] first.toList).bind fun l => (funOf E c y.1 l).bind fun a =>
      .ret (.slot o.dst [] true (.v a.1) (y.2 ++ a.2))
    | none => match Map.get E.O f with
      | some c => bif first.toList.isEmpty then oMake E o.dst f c cap.toList else .fail
      | none => match Map.get E.I f with
      | some c => bif first.toList.isEmpty then (capsOf E c.caps cap.toList).bind fun y => .opt c.out.den (c.fn y.1) fun xs => .ret (.slot o.dst [] true (.v (.pure c.out xs)) y.2) else .fail
      | none => .fail
  | .makeMap T none => match o.dst, E.ty T with
    | some d, some (.map k u) => newObj d (.map k u []) (.hand d) []
    | _, _ => .fail
  | .mapUpdate T m k x => match o.dst with
    | none => mapPut E T m k x
    | some _ => .fail
  | .insert T m k x => match o.dst with
    | none => mapPut E T m k x
    | some _ => .fail
  | .slice T x lo hi none => (rdA [] x).bind fun a => match a, o.dst with
    | .hand id ver, some d => .obj id fun
      | some (cv, .buf e l) => bif Nat.beq cv ver then (if E.ty T = some (.slice e) then (rdBound [] 0 lo).bind fun p => (rdBound [] (List.length l : Nat) hi).bind fun q =>
          .opt (List e.den) (cut l p q) fun z => .ret ⟨some (d, ⟨[], true, .v (.hand id (cv + 1))⟩), [(id, (cv + 1, .buf e z))]⟩ else .fail) else .fail
      | _ => .fail
    | _, _ => (valOp E [] true (.slice T x lo hi none)).bind fun s => .ret (.slot o.dst [] true s [])
  | .call { callee := .value f, args, .. } => match (match f with | .func g => Map.get E.M g | _ => none) with
    | some c => mutOp E o.dst c args.toList
    | none => (oCallOp E o.dst f args.toList).bind fun
      | some u => .ret u
      | none => (callOp E [] true f args.toList).bind (callUpd o.dst)
  | .convert S T x => match E.ty S, E.ty T with
    | some .str, some (.slice (.int .u8)) => (rdA [] x).bind fun
      | .pure .str l => .ret (.slot o.dst [] true (.v (.pure (.slice (.int .u8)) (bytesOf l))) [])
      | _ => .fail
    | _, _ => (valOp E [] true (.convert S T x)).bind fun s => .ret (.slot o.dst [] true s [])
  | op => (valOp E [] true op).bind fun s => .ret (.slot o.dst [] true s [])

def gAnd (L : List (Nat × Bool)) (g b : Bool) : Bool :=
  match L with
  | [] => b
  | _ :: _ => g && b

/-- An operation under a guard: slot s holds want. -/
def guardOp (E : Env) (o : Oper) (s : Nat) (want : Bool) : RM Upd :=
  .slot s fun
  | some ⟨L, g, .v (.pure .bool b)⟩ =>
    let L' := (s, want) :: L
    let g' : Bool := gAnd L g (bif want then b else !b)
    match o.op with
    | .call { callee := .value f, args, .. } => (callOp E L' g' f args.toList).bind fun r => match r.2 with
      | [] => .ret (.slot o.dst L' g' r.1.2 [])
      | _ => .fail
    | .buildSlice T n ps => match E.ty T with
      | some (.slice e) => (fillL E e (List.replicate n e.dflt) [] ps.toList).bind fun l => match l.2 with
        | [] => bif e.noFn && Nat.ble (n * e.sz) 16777216 then .ret (.slot o.dst L' g' (.v (.pure (.slice e) l.1)) []) else .fail
        | _ => .fail
      | _ => .fail
    | op => (valOp E L' g' op).bind fun s => .ret (.slot o.dst L' g' s [])
  | _ => .fail

def opRM (E : Env) (ops : Array Oper) (o : Oper) : RM Upd :=
  match o.guard with
  | none => effOp E o
  | some (j, want) => match (ops[j]?).bind (·.dst) with
    | some s => guardOp E o s want
    | none => .fail

/-- The slot that a guard reads. -/
def guardSlot (ops : Array Oper) (o : Oper) : Option Nat :=
  match o.guard with
  | none => none
  | some (j, _) => (ops[j]?).bind (·.dst)

def setObjs : List (Nat × (Nat × AObj)) → W → List (Nat × (Nat × AObj))
  | h, [] => h
  | h, (id, o) :: r => setObjs (Map.set h id o) r

/-- May slot d be written? -/
def ASt.may (st : ASt) (d : Nat) : Bool := Nat.blt d st.N && !st.marks.any (Nat.beq d) && !st.fixed.any (Nat.beq d)

def moreMarks (m : Option Nat) (l : List Nat) : List Nat :=
  match m with
  | some s => s :: l
  | none => l

def isMark (m : Option Nat) (d : Nat) : Bool :=
  match m with
  | some s => Nat.beq d s
  | none => false

def applyU (st : ASt) (m : Option Nat) (u : Upd) : Option ASt :=
  match u.dst with
  | some (d, sl) => bif st.may d && !isMark m d then
      some { N := st.N, marks := moreMarks m st.marks, slots := Map.set st.slots d sl, heap := setObjs st.heap u.objs, fixed := st.fixed } else none
  | none => some { N := st.N, marks := moreMarks m st.marks, slots := st.slots, heap := setObjs st.heap u.objs, fixed := st.fixed }

def opR {R : Type} (E : Env) (ops : Array Oper) (o : Oper) (st : ASt) (K : ASt → Option R) : Option R :=
  (opRM E ops o).runK st fun u => match applyU st (guardSlot ops o) u with
  | some st => K st
  | none => none

def opsR {R : Type} (E : Env) (ops : Array Oper) : List Oper → ASt → (ASt → Option R) → Option R
  | [], st, K => K st
  | o :: r, st, K => opR E ops o st fun st => opsR E ops r st K

/-! Slices of slices that are all of the call's own: pieces of several operations. -/

/-- Slot d holds nothing that is known. -/
def putJ (st : ASt) (d : Nat) : Option ASt := bif st.may d then some { N := st.N, marks := st.marks, slots := Map.set st.slots d ⟨[], true, .v .junk⟩, heap := st.heap, fixed := st.fixed } else none

/-- The same slice of slices, behind a change of an element. -/
def bumpS (id cv : Nat) (sl : Slot) : Slot :=
  match sl.s with
  | .v (.nhand i v) => bif Nat.beq i id && Nat.beq v cv then ⟨sl.L, sl.g, .v (.nhand id (cv + 1))⟩ else sl
  | _ => sl

/-- A slice is appended: x, of the call's own or nil, in slot a's literal slice. -/
def mac2 {R : Type} (E : Env) (T : Nat) (x s : Operand) (a d : Nat) (st : ASt) (K : ASt → Option R) : Option R :=
  match E.ty T with
  | some (.slice (.slice e)) => (rdA [] x).runK st fun b => match putJ st a with
    | some st1 => (rdA [] s).runK st1 fun
      | .nhand id ver => match Map.get st1.heap id with
        | some (cv, .nbuf u l) => bif Nat.beq cv ver && st1.may d then (if u = e then (chk (l.length + 1)).bind fun _ => match b with
            | .nils => K { N := st1.N, marks := st1.marks, slots := Map.set st1.slots d ⟨[], true, .v (.nhand id (cv + 1))⟩, heap := Map.set st1.heap id (cv + 1, .nbuf u (l ++ [[]])), fixed := st1.fixed }
            | .hand i v => match Map.get st1.heap i with
              | some (cv', .buf u' li) => bif Nat.beq cv' v && !Nat.beq i id then (if h : u' = u then
                  K { N := st1.N, marks := st1.marks, slots := Map.set st1.slots d ⟨[], true, .v (.nhand id (cv + 1))⟩, heap := Map.set (Map.set st1.heap i (cv' + 1, .buf u [])) id (cv + 1, .nbuf u (l ++ [h ▸ li])), fixed := st1.fixed } else none) else none
              | _ => none
            | _ => none else none) else none
        | _ => none
      | _ => none
    | none => none
  | _ => none

/-- An element, in slot a, is appended to and stored again. -/
def mac3 {R : Type} (E : Env) (S T S' : Nat) (a y s ix : Operand) (d d' : Nat) (st : ASt) (K : ASt → Option R) : Option R :=
  match E.ty S with
  | some (.slice e) => if E.ty T = some (.slice (.slice e)) ∧ E.ty S' = some (.slice e) then
    (rdA [] a).runK st fun
      | .nel id ver u i => (rdA [] y).runK st fun b => (peekB E (.slice e) b).runK st fun m => match putJ st d with
        | some st1 => (rdA [] s).runK st1 fun
          | .nhand id' ver' => (rdInt [] ix).runK st1 fun n => match Map.get st1.heap id with
            | some (cv, .nbuf u' l) => bif Nat.beq cv ver && Nat.beq id' id && Nat.beq ver' cv && !Nat.beq d d' then (if h : e = u' ∧ u = u' then (if i = n then
                (geti l n).bind fun li => (chk (li.length + List.length m.1)).bind fun _ => (seti l n (li ++ (h.1 ▸ m.1 : List u'.den))).bind fun l' => match putJ st1 d' with
                | some st2 => K { N := st2.N, marks := st2.marks, slots := st2.slots.map fun p => (p.1, bumpS id cv p.2), heap := Map.set st2.heap id (cv + 1, .nbuf u' l'), fixed := st2.fixed }
                | none => none else none) else none) else none
            | _ => none
          | _ => none
        | none => none
      | _ => none else none
  | _ => none

inductive Mac where
  | two (T : Nat) (x s : Operand) (a d : Nat)
  | three (S T S' : Nat) (a y s ix : Operand) (d d' : Nat)

def Oper.bare (o : Oper) : Bool := match o.guard with
  | none => true
  | some _ => false

/-- Whether a piece begins here, and what stands behind it. -/
def mac? (E : Env) (o : Oper) (r : List Oper) : Option (Mac × List Oper) :=
  match o.op, o.dst, r with
  | .buildSlice T n ps, some a, o2 :: r2 => match ps.toList, o2.op, o2.dst, E.ty T with
    | [(i, x)], .call { callee := .builtin .append, args, argTypes }, some d, some (.slice (.slice _)) => match args.toList, argTypes.toList with
      | [s, .tmp t], [T1, T2] => bif Nat.beq n 1 && Nat.beq i 0 && Nat.beq t a && Nat.beq T1 T && Nat.beq T2 T && Oper.bare o && Oper.bare o2 then some (.two T x s a d, r2) else none
      | _, _ => none
    | _, _, _, _ => none
  | .call { callee := .builtin .append, args, argTypes }, some d, o2 :: o3 :: r3 => match args.toList, argTypes.toList, o2.op, o2.dst, o3.op, o3.dst with
    | [a, y], [S1, S2], .indexAddr T s ix, some d', .store S' (.tmp p) (.tmp q), none =>
      bif Nat.beq S1 S2 && Nat.beq p d' && Nat.beq q d && Oper.bare o && Oper.bare o2 && Oper.bare o3 then some (.three S1 T S' a y s ix d d', r3) else none
    | _, _, _, _, _, _ => none
  | _, _, _ => none

def opsM {R : Type} (E : Env) (ops : Array Oper) : Nat → List Oper → ASt → (ASt → Option R) → Option R
  | _, [], st, K => K st
  | 0, _ :: _, _, _ => none
  | n + 1, o :: r, st, K => match mac? E o r with
    | some (.two T x s a d, r2) => mac2 E T x s a d st fun st => opsM E ops n r2 st K
    | some (.three S T S' a y s ix d d', r3) => mac3 E S T S' a y s ix d d' st fun st => opsM E ops n r3 st K
    | none => opR E ops o st fun st => opsM E ops n r st K

/-! An order that is drawn. -/

structure FP where
  r : List Key
  w : List Key

def Upd.keys (u : Upd) : List Key :=
  (match u.dst with
  | some (d, _) => [(d, true)]
  | none => []) ++ u.objs.map fun p => (p.1, false)

def keyEq (k k' : Key) : Bool := Nat.beq k.1 k'.1 && (bif k.2 then k'.2 else !k'.2)
def disj (l m : List Key) : Bool := l.all fun k => !m.any (keyEq k)
def indep (f g : FP) : Bool := disj f.w g.r && disj g.w f.r && disj f.w g.w

/-- Whether each earlier operation stands ahead by an edge (before: as bits), or does not touch the later one. -/
def indepTo (bits : Nat) (g : FP) : Nat → List FP → Bool
  | _, [] => true
  | i, f :: r => (Nat.testBit bits i || indep f g) && indepTo bits g (i + 1) r

/-- The operations with their edges, in the order of the text: fs are the records so far. -/
def opsRD {R : Type} (E : Env) (ops : Array Oper) (bs : List Nat) : List Oper → List FP → ASt → (ASt → Option R) → Option R
  | [], _, st, K => K st
  | o :: r, fs, st, K => (opRM E ops o).runKK st fun u ks => match applyU st (guardSlot ops o) u with
    | some st => bif indepTo (bs.getD fs.length 0) ⟨ks, u.keys⟩ 0 fs then opsRD E ops bs r (fs ++ [⟨ks, u.keys⟩]) st K else none
    | none => none

/-- Captured variables that are written no more, ahead of an order that is drawn. -/
def preF (E : Env) : List Nat → ASt → Option ASt
  | [], st => some st
  | n :: r, st => bif Nat.ble 1000000 n then (match Map.get st.slots (n - 1000000) with
    | some ⟨[], _, .v (.bptr id ver 0)⟩ => match Map.get st.heap id with
      | some (cv, .box u cells) => ((capA E u (.bptr id ver 0)).run st).bind fun d => preF E r { N := st.N, marks := st.marks, slots := st.slots, heap := setObjs st.heap d.2, fixed := st.fixed }
      | _ => preF E r st
    | _ => preF E r st) else preF E r st

/-- Without what stands under a test. -/
def unlab (st : ASt) : ASt := { st with marks := [], slots := st.slots.map fun p => (p.1, if p.2.L.isEmpty then p.2 else ⟨[], true, .v .junk⟩) }

/-- What stands ahead of each operation, as bits: what its edges say, and what stands ahead of those. -/
def bitsE : List Edge → List Nat → Nat → Nat
  | [], _, s => s
  | e :: r, acc, s => bitsE r acc (bif Region.binds .any e then s ||| 2 ^ e.on ||| acc.getD e.on 0 else s)

def bef : List Oper → List Nat → List Nat
  | [], acc => acc
  | o :: r, acc => CheckFast.force (bitsE o.after.toList acc 0) fun v => bef r (acc ++ [v])

/-- All edges point to earlier operations. -/
def fwd : Nat → List Oper → Bool
  | _, [] => true
  | i, o :: r => (o.after.toList.all fun e => !Region.binds .any e || Nat.blt e.on i) && fwd (i + 1) r

def regR {R : Type} (E : Env) (ops : Array Oper) (draw : Bool) (st : ASt) (K : ASt → Option R) : Option R :=
  bif draw then (bif fwd 0 ops.toList then opsRD E ops (bef ops.toList []) ops.toList [] st fun st => K (unlab st) else none)
  else opsR E ops ops.toList st fun st => K (unlab st)

abbrev Ev (R : Type) := ASt → (Exit → ASt → Option R) → Option R

def condR {R : Type} (c : Operand) (st : ASt) (x y : Option R) : Option R :=
  ((rdA [] c).bind boolOf).runK st fun t => bif t then x else y

/-- The results of a call. -/
def resOf (E : Env) : List ResultVar → RM (List SVal)
  | [] => .ret []
  | .tmp t :: r => (rd [] (.tmp t)).bind fun s => (resOf E r).bind fun l => .ret (s :: l)
  | .cell a T :: r => match E.ty T with
    | some t => (rdA [] (.tmp a)).bind fun b => (loadOp true t b).bind fun s => (resOf E r).bind fun l => .ret (s :: l)
    | none => .fail

def freshOne (t : Ty) (a : AVal) (r : List AVal) : RM ((t.den × List Nat) × List AVal) :=
  match a with
  | .pure u d => match castTy (t := u) (t' := t) d with
    | some x => .ret ((x, []), r)
    | none => .fail
  | _ => .fail

/-- Data whose slices are all of the call's own, and which objects these are. -/
def freshCells : (t : Ty) → List AVal → RM ((t.den × List Nat) × List AVal)
  | .slice e, .hand id ver :: r => .obj id fun
    | some (cv, .buf e' l) => bif Nat.beq cv ver then (match castTy (t := .slice e') (t' := .slice e) l with
      | some x => .ret ((x, [id]), r)
      | none => .fail) else .fail
    | _ => .fail
  | .slice e, .nils :: r => .ret ((([] : List e.den), []), r)
  | .pair a b, l => (freshCells a l).bind fun x => (freshCells b x.2).bind fun y => .ret (((x.1.1, y.1.1), x.1.2 ++ y.1.2), y.2)
  | .int k, x :: r => freshOne (.int k) x r
  | .bool, x :: r => freshOne .bool x r
  | .str, x :: r => freshOne .str x r
  | _, _ => .fail

/-- A result that must be a slice of the call's own. -/
def freshOf : (outs : List Ty) → List SVal → RM (denL outs)
  | [.slice e], [.v (.hand id ver)] => .obj id fun
    | some (cv, .buf e' l) => bif Nat.beq cv ver then (match castTy (t := .slice e') (t' := .slice e) l with
      | some x => .ret x
      | none => .fail) else .fail
    | _ => .fail
  | [.slice e], [.v .nils] => .ret ([] : List e.den)
  | [.pair a b], [.comp l] => (freshCells (.pair a b) l).bind fun x => match x.2 with
    | [] => bif nodupN x.1.2 then .ret x.1.1 else .fail
    | _ => .fail
  | _, _ => .fail

def finR (E : Env) (fresh : Bool) (rs : List ResultVar) (outs : List Ty) : Exit → ASt → Option (denL outs)
  | .normal, st | .ret, st => bif fresh then ((resOf E rs).bind fun l => freshOf outs l).runK st some
    else ((resOf E rs).bind fun l => packArgs E outs l).runK st fun x => some x.1
  | _, _ => none

def ptrs : List AVal → List AVal
  | [] => []
  | .pure t d :: r => .pptr t d :: ptrs r
  | a :: r => a :: ptrs r

def number (n : Nat) : List AVal → List (Nat × Slot)
  | [] => []
  | a :: r => (n, ⟨[], true, .v a⟩) :: number (n + 1) r

/-- The cells of a variable as it comes to a call, and its slices. -/
def ocells (id : Nat) : (t : Ty) → List Bool → t.den → List AVal × W
  | .unit, _, _ => ([], [])
  | .pair a b, fl, d => ((ocells id a (fl.take a.sz) d.1).1 ++ (ocells (id + a.sz) b (fl.drop a.sz) d.2).1, (ocells id a (fl.take a.sz) d.1).2 ++ (ocells (id + a.sz) b (fl.drop a.sz) d.2).2)
  | .slice e, true :: _, d => ([.hand id 0], [(id, (0, .buf e d))])
  | t, _, d => ([.pure t d], [])

def OCon.pos (c : OCon) : Nat := bif c.clo then c.ins.length + c.caps.length else 0

def OCon.slots (c : OCon) (x : denL c.ins) (y : denL c.caps) : List AVal :=
  bif c.clo then tupOf c.ins x ++ ptrs (tupOf c.caps y) ++ [.bptr c.pos 0 0] else .bptr c.pos 0 0 :: (tupOf c.ins x ++ ptrs (tupOf c.caps y))

def entryO (N : Nat) (c : OCon) (d : c.t.den) (x : denL c.ins) (y : denL c.caps) : ASt :=
  { N, marks := [], slots := number 0 (c.slots x y), heap := setObjs [] ((c.pos, (0, .box c.t (ocells 4096 c.t c.own d).1)) :: (ocells 4096 c.t c.own d).2), fixed := [c.pos] }

def backO (E : Env) (c : OCon) (rs : List ResultVar) : RM (c.t.den × denL c.outs) :=
  (resOf E rs).bind fun l => (packArgs E c.outs l).bind fun r => match r.2 with
  | [] => (rdA [] (.tmp c.pos)).bind fun
    | .bptr id ver off => .obj id fun
      | some (cv, .box t cells) => bif Nat.beq cv ver && Nat.beq off 0 then (if t = c.t then (oread E c.t c.own cells).bind fun q => bif nodupN (id :: q.2) then .ret (q.1, r.1) else .fail else .fail) else .fail
      | _ => .fail
    | _ => .fail
  | _ => .fail

def finO (E : Env) (c : OCon) (rs : List ResultVar) : Exit → ASt → Option (c.t.den × denL c.outs)
  | .normal, st | .ret, st => bif isIn st.fixed c.pos then (backO E c rs).runK st some else none
  | _, _ => none

def entry (N : Nat) (ins caps : List Ty) (x : denL ins) (y : denL caps) : ASt :=
  { N, marks := [], slots := number 0 (tupOf ins x ++ ptrs (tupOf caps y)), heap := [], fixed := [] }

end Go.Abs

set_option linter.unusedSimpArgs false
set_option linter.unusedVariables false
namespace Go.Abs
open Go

/-! Maps. -/
theorem nbeq (a b : Nat) : Nat.beq a b = decide (a = b) := by
  rw [Bool.eq_iff_iff]; simp [Nat.beq_eq]

namespace Map
variable {α β : Type}
theorem get_set (m : List (Nat × α)) (k : Nat) (v : α) (k' : Nat) : get (set m k v) k' = if k = k' then some v else get m k' := by
  induction m with
  | nil => by_cases h : k = k' <;> simp [set, get, nbeq, h]
  | cons p r ih =>
    obtain ⟨q, u⟩ := p
    simp only [set, nbeq]
    by_cases h1 : k.blt q = true
    · simp only [h1, cond_true, get, nbeq]
      by_cases h : k = k' <;> simp [h]
    · simp only [h1, cond_false]
      by_cases h2 : q = k
      · subst h2
        by_cases h : q = k' <;> simp [h, get, nbeq]
      · simp only [h2, decide_false, cond_false, get, ih, nbeq]
        by_cases h : k = k'
        · subst h
          simp [h2]
        · simp [h]

theorem get_map (f : α → β) (m : List (Nat × α)) (k : Nat) : get (m.map fun p => (p.1, f p.2)) k = (get m k).map f := by
  induction m with
  | nil => rfl
  | cons p r ih =>
    obtain ⟨q, u⟩ := p
    simp only [List.map_cons, get, ih]
    cases Nat.beq q k <;> rfl

theorem get_filter (f : Nat → Bool) (m : List (Nat × α)) (k : Nat) : get (m.filter fun p => f p.1) k = if f k then get m k else none := by
  induction m with
  | nil => simp [get]
  | cons p r ih =>
    obtain ⟨q, u⟩ := p
    simp only [List.filter_cons]
    by_cases hq : q = k
    · subst hq
      cases hf : f q <;> simp [get, ih, hf, nbeq]
    · cases hf : f q <;> simp [get, ih, hq, nbeq]
end Map

/-! What data look like in memory. -/

def Ty.val (t : Ty) (vs : List Value) : Value := if t.isPair then .agg vs.toArray else vs.headD undef

def chunk (l : List Value) (off n : Nat) : List Value := (l.drop off).take n

structure Keeps (w w' : World) : Prop where
  os : w'.os = w.os
  tape : w'.tape = w.tape
  output : w'.output = w.output
  size : w.heap.size ≤ w'.heap.size
  block : ∀ b, b < w.heap.size → w'.heap[b]? = w.heap[b]?

theorem Keeps.refl (w : World) : Keeps w w := ⟨rfl, rfl, rfl, Nat.le_refl _, fun _ _ => rfl⟩
theorem Keeps.trans {w w1 w2 : World} (h : Keeps w w1) (h' : Keeps w1 w2) : Keeps w w2 :=
  ⟨h'.os.trans h.os, h'.tape.trans h.tape, h'.output.trans h.output, Nat.le_trans h.size h'.size,
    fun b hb => (h'.block b (Nat.lt_of_lt_of_le hb h.size)).trans (h.block b hb)⟩
theorem Keeps.alloc (w : World) (o : Obj) : Keeps w (w.alloc o) := ⟨rfl, rfl, rfl, by simp, fun b hb => RowKit.Below.heap_alloc w o b hb⟩
theorem Keeps.drew (w : World) : Keeps w w.drew := ⟨rfl, rfl, rfl, Nat.le_refl _, fun _ _ => rfl⟩

/-- Some blocks are as they were. -/
structure Ext (ok : Nat → Prop) (w w' : World) : Prop where
  size : w.heap.size ≤ w'.heap.size
  block : ∀ b, ok b → b < w.heap.size → w'.heap[b]? = w.heap[b]?

theorem Keeps.ext {w w' : World} (h : Keeps w w') (ok : Nat → Prop) : Ext ok w w' := ⟨h.size, fun b _ hb => h.block b hb⟩

/-- What is ok, as far as it is there. -/
def Sub (w : World) (ok ok' : Nat → Prop) : Prop := ∀ b, ok b → b < w.heap.size → ok' b

theorem Sub.refl (w : World) (ok : Nat → Prop) : Sub w ok ok := fun _ h _ => h

theorem Ext.trans {ok ok' : Nat → Prop} {w w1 w2 : World} (h : Ext ok w w1) (h' : Ext ok' w1 w2) (hok : Sub w ok ok') : Ext ok w w2 :=
  ⟨Nat.le_trans h.size h'.size, fun b hb hl => (h'.block b (hok b hb hl) (Nat.lt_of_lt_of_le hl h.size)).trans (h.block b hb hl)⟩

theorem Sub.trans {w w1 : World} {ok ok1 ok2 : Nat → Prop} (hs : w.heap.size ≤ w1.heap.size) (h : Sub w ok ok1) (h' : Sub w1 ok1 ok2) : Sub w ok ok2 :=
  fun b hb hl => h' b (h b hb hl) (Nat.lt_of_lt_of_le hl hs)

/-- A function with a body. -/
def Bodied (P : Program) (f : Nat) : Prop := ∃ fn, P.funcs[f]? = some fn ∧ (fn.name == "runtime.NumGoroutine") = false ∧ fn.body.isNone = false

def newOk (ok : Nat → Prop) (w : World) (b : Nat) : Prop := ok b ∨ w.heap.size ≤ b

/-- An iterator takes a step: its own blocks S (which may be written), all that it has made A. -/
structure Steps (A S : Nat → Prop) (w : World) (A' S' : Nat → Prop) (w' : World) : Prop where
  os : w'.os = w.os
  tape : w'.tape = w.tape
  output : w'.output = w.output
  size : w.heap.size ≤ w'.heap.size
  block : ∀ b, b < w.heap.size → ¬ S b → w'.heap[b]? = w.heap[b]?
  A1 : ∀ b, A b → A' b
  A2 : ∀ b, A' b → A b ∨ w.heap.size ≤ b
  A3 : ∀ b, A' b → b < w'.heap.size
  S2 : ∀ b, S' b → S b ∨ w.heap.size ≤ b
  SA : ∀ b, S' b → A' b

/-- What a round keeps of what the iterator has, and of what it hangs on. -/
structure KeepsY (K : Nat → Prop) (w w' : World) : Prop where
  os : w'.os = w.os
  tape : w'.tape = w.tape
  output : w'.output = w.output
  size : w.heap.size ≤ w'.heap.size
  block : ∀ b, b < w.heap.size → K b → w'.heap[b]? = w.heap[b]?

/-- The function g with what it has captured yields xs, to whatever loop. J: what holds between two rounds; Jx: behind a round that has said 'no more'. -/
def SeqOK {α : Type} (P : Program) (AR : World → (Nat → Prop) → Array Value → α → Prop) (g : FuncId) (lb : Array Value) (w : World) (ok : Nat → Prop) (xs : List α) : Prop :=
  ∀ (l : Nat) (J : Nat → (Nat → Prop) → (Nat → Prop) → World → Prop) (Jx : (Nat → Prop) → (Nat → Prop) → World → Prop),
    (∀ k A S W A' S' W', J k A S W → Steps A S W A' S' W' → J k A' S' W') → (∀ A S W A' S' W', Jx A S W → Steps A S W A' S' W' → Jx A' S' W') →
    (∀ k x A S W vas, J k A S W → xs[k]? = some x → (∀ b, S b → A b) → (∀ b, A b → w.heap.size ≤ b ∧ b < W.heap.size) → w.heap.size ≤ W.heap.size → AR W (fun b => (ok b ∧ b < w.heap.size) ∨ (A b ∧ ¬ S b)) vas x →
      YieldAt Fence.wide 5 P l vas W fun e W' => KeepsY (fun b => (ok b ∧ b < w.heap.size) ∨ A b) W W' ∧
        ((e = .returned (.bool true) ∧ J (k + 1) A S W') ∨ (e = .returned (.bool false) ∧ Jx A S W'))) →
    J 0 (fun _ => False) (fun _ => False) w →
    Calls P g (#[.func (.yield l) #[] #[]] ++ lb) w fun e W' => (∃ v, e = .returned v) ∧ ((∃ A S, J xs.length A S W') ∨ (∃ A S, Jx A S W'))

/-- The entries of a map. -/
def EntRep (K V : List Value → Prop) (kv vv : List Value → Value) (x : MapEntry) : Prop := (∃ ks, x.key = kv ks ∧ K ks) ∧ ∃ vs, x.val = vv vs ∧ V vs

/-- The cells vs read as d, in blocks that are ok. -/
def Rep (P : Program) : (t : Ty) → World → (Nat → Prop) → List Value → t.den → Prop
  | .int k, _, _, vs, n => vs = [.int k n]
  | .bool, _, _, vs, b => vs = [.bool b]
  | .str, _, _, vs, s => vs = [.string ⟨⟨s⟩⟩]
  | .unit, _, _, vs, _ => vs = []
  | .slice e, w, ok, vs, l => ∃ a cap, vs = [.slice a l.length cap] ∧ l.length ≤ cap ∧ (l = [] ∨ ∃ b off cs T fr, a = some ⟨b, off, none⟩ ∧ ok b ∧
      w.heap[b]? = some (.cells cs T fr) ∧ off + l.length * e.sz ≤ cs.size ∧ ∀ i x, l[i]? = some x → Rep P e w ok (chunk cs.toList (off + i * e.sz) e.sz) x)
  | .pair a b, w, ok, vs, (x, y) => Rep P a w ok (vs.take a.sz) x ∧ Rep P b w ok (vs.drop a.sz) y
  | .fn1 a r, w, ok, vs, f => ∃ fid first cap, vs = [.func (.func fid) first cap] ∧ Bodied P fid ∧ ∀ w' (ok' : Nat → Prop), Ext ok w w' → Sub w ok ok' →
      ∀ xs x, Rep P a w' ok' xs x → ∀ y, f x = some y → Calls P fid (first ++ #[a.val xs] ++ cap) w' fun e w'' =>
        ∃ ys, e = .returned (r.val ys) ∧ Keeps w' w'' ∧ Rep P r w'' (newOk ok' w') ys y
  | .fn2 a a' r, w, ok, vs, f => ∃ fid first cap, vs = [.func (.func fid) first cap] ∧ Bodied P fid ∧ ∀ w' (ok' : Nat → Prop), Ext ok w w' → Sub w ok ok' →
      ∀ xs x xs' x', Rep P a w' ok' xs x → Rep P a' w' ok' xs' x' → ∀ y, f x x' = some y → Calls P fid (first ++ #[a.val xs, a'.val xs'] ++ cap) w' fun e w'' =>
        ∃ ys, e = .returned (r.val ys) ∧ Keeps w' w'' ∧ Rep P r w'' (newOk ok' w') ys y
  | .seq e, w, ok, vs, xs => ∃ g lb, vs = [.func (.func g) #[] lb] ∧ Bodied P g ∧ ∀ w' (ok' : Nat → Prop), Ext ok w w' → Sub w ok ok' →
      SeqOK P (fun W o vas x => ∃ cs, vas = #[e.val cs] ∧ Rep P e W o cs x) g lb w' ok' xs
  | .seq2 a b, w, ok, vs, xs => ∃ g lb, vs = [.func (.func g) #[] lb] ∧ Bodied P g ∧ ∀ w' (ok' : Nat → Prop), Ext ok w w' → Sub w ok ok' →
      SeqOK P (fun W o vas x => ∃ cs ds, vas = #[a.val cs, b.val ds] ∧ Rep P a W o cs x.1 ∧ Rep P b W o ds x.2) g lb w' ok' xs
  | .map k v, w, ok, vs, l => ∃ b es clock, vs = [.map (some b)] ∧ ok b ∧ w.heap[b]? = some (.map es clock) ∧ es.size = l.length ∧
      ∀ (i : Nat) (x : k.den × v.den) (e : MapEntry), l[i]? = some x → es[i]? = some e → (∃ ks, e.key = k.val ks ∧ Rep P k w ok ks x.1) ∧ ∃ us, e.val = v.val us ∧ Rep P v w ok us x.2
  | .ptr e, w, ok, vs, d => ∃ b off cs T fr, vs = [.pointer (some ⟨b, off, none⟩)] ∧ ok b ∧ w.heap[b]? = some (.cells cs T fr) ∧ off + e.sz ≤ cs.size ∧ Rep P e w ok (chunk cs.toList off e.sz) d
  | .sliceN e, w, ok, vs, d => (d = none → vs = [.slice none 0 0]) ∧ ∃ a cap, vs = [.slice a (d.getD []).length cap] ∧ (d.getD []).length ≤ cap ∧ ((d.getD []) = [] ∨ ∃ b off cs T fr, a = some ⟨b, off, none⟩ ∧ ok b ∧
      w.heap[b]? = some (.cells cs T fr) ∧ off + (d.getD []).length * e.sz ≤ cs.size ∧ ∀ i x, (d.getD [])[i]? = some x → Rep P e w ok (chunk cs.toList (off + i * e.sz) e.sz) x)

variable {P : Program}

theorem Rep.mono : (t : Ty) → {w w' : World} → {ok ok' : Nat → Prop} → {vs : List Value} → {d : t.den} → Ext ok w w' → Sub w ok ok' → Rep P t w ok vs d → Rep P t w' ok' vs d
  | .int _, _, _, _, _, _, _, _, _, h => h
  | .bool, _, _, _, _, _, _, _, _, h => h
  | .str, _, _, _, _, _, _, _, _, h => h
  | .unit, _, _, _, _, _, _, _, _, h => h
  | .slice e, w, w', ok, ok', vs, l, hx, hok, h => by
    obtain ⟨a, cap, h1, h2, h3⟩ := h
    refine ⟨a, cap, h1, h2, ?_⟩
    rcases h3 with h3 | ⟨b, off, cs, T, fr, h4, h5, h6, h7, h8⟩
    · exact .inl h3
    · refine .inr ⟨b, off, cs, T, fr, h4, hok b h5 (Array.getElem?_eq_some_iff.1 h6).1, ?_, h7, fun i x hi => Rep.mono e hx hok (h8 i x hi)⟩
      rw [hx.block b h5 (Array.getElem?_eq_some_iff.1 h6).1]; exact h6
  | .pair a b, w, w', ok, ok', vs, (x, y), hx, hok, h => ⟨Rep.mono a hx hok h.1, Rep.mono b hx hok h.2⟩
  | .fn1 a r, w, w', ok, ok', vs, f, hx, hok, h => by
    obtain ⟨fid, first, cap, h1, h2, h3⟩ := h
    exact ⟨fid, first, cap, h1, h2, fun w2 ok2 hx2 hok2 => h3 w2 ok2 (hx.trans hx2 hok) (hok.trans hx.size hok2)⟩
  | .fn2 a a' r, w, w', ok, ok', vs, f, hx, hok, h => by
    obtain ⟨fid, first, cap, h1, h2, h3⟩ := h
    exact ⟨fid, first, cap, h1, h2, fun w2 ok2 hx2 hok2 => h3 w2 ok2 (hx.trans hx2 hok) (hok.trans hx.size hok2)⟩
  | .seq e, w, w', ok, ok', vs, xs, hx, hok, h => by
    obtain ⟨g, lb, h1, h2, h3⟩ := h
    exact ⟨g, lb, h1, h2, fun w2 ok2 hx2 hok2 => h3 w2 ok2 (hx.trans hx2 hok) (hok.trans hx.size hok2)⟩
  | .seq2 a b, w, w', ok, ok', vs, xs, hx, hok, h => by
    obtain ⟨g, lb, h1, h2, h3⟩ := h
    exact ⟨g, lb, h1, h2, fun w2 ok2 hx2 hok2 => h3 w2 ok2 (hx.trans hx2 hok) (hok.trans hx.size hok2)⟩
  | .map k v, w, w', ok, ok', vs, l, hx, hok, h => by
    obtain ⟨b, es, clock, h1, h2, h3, h4, h5⟩ := h
    have hb := (Array.getElem?_eq_some_iff.1 h3).1
    refine ⟨b, es, clock, h1, hok b h2 hb, (hx.block b h2 hb).trans h3, h4, fun i x e hi he => ?_⟩
    obtain ⟨⟨ks, g1, g2⟩, us, g3, g4⟩ := h5 i x e hi he
    exact ⟨⟨ks, g1, Rep.mono k hx hok g2⟩, us, g3, Rep.mono v hx hok g4⟩
  | .ptr e, w, w', ok, ok', vs, d, hx, hok, h => by
    obtain ⟨b, off, cs, T, fr, h1, h2, h3, h4, h5⟩ := h
    have hb := (Array.getElem?_eq_some_iff.1 h3).1
    exact ⟨b, off, cs, T, fr, h1, hok b h2 hb, (hx.block b h2 hb).trans h3, h4, Rep.mono e hx hok h5⟩
  | .sliceN e, w, w', ok, ok', vs, d, hx, hok, h => by
    obtain ⟨h0, h⟩ := h
    refine ⟨h0, ?_⟩
    obtain ⟨a, cap, h1, h2, h3⟩ := h
    refine ⟨a, cap, h1, h2, ?_⟩
    rcases h3 with h3 | ⟨b, off, cs, T, fr, h4, h5, h6, h7, h8⟩
    · exact .inl h3
    · refine .inr ⟨b, off, cs, T, fr, h4, hok b h5 (Array.getElem?_eq_some_iff.1 h6).1, ?_, h7, fun i x hi => Rep.mono e hx hok (h8 i x hi)⟩
      rw [hx.block b h5 (Array.getElem?_eq_some_iff.1 h6).1]; exact h6

theorem Rep.len : (t : Ty) → {w : World} → {ok : Nat → Prop} → {vs : List Value} → {d : t.den} → Rep P t w ok vs d → vs.length = t.sz
  | .int _, _, _, _, _, h => by simp only [Rep] at h; subst h; rfl
  | .bool, _, _, _, _, h => by simp only [Rep] at h; subst h; rfl
  | .str, _, _, _, _, h => by simp only [Rep] at h; subst h; rfl
  | .unit, _, _, _, _, h => by simp only [Rep] at h; subst h; rfl
  | .slice e, _, _, _, _, h => by obtain ⟨a, cap, h1, _⟩ := h; subst h1; rfl
  | .fn1 a r, _, _, _, _, h => by obtain ⟨fid, first, cap, h1, _⟩ := h; subst h1; rfl
  | .fn2 a a' r, _, _, _, _, h => by obtain ⟨fid, first, cap, h1, _⟩ := h; subst h1; rfl
  | .seq _, _, _, _, _, h => by obtain ⟨fid, cap, h1, _⟩ := h; subst h1; rfl
  | .seq2 _ _, _, _, _, _, h => by obtain ⟨fid, cap, h1, _⟩ := h; subst h1; rfl
  | .map _ _, _, _, _, _, h => by obtain ⟨b, es, clock, h1, _⟩ := h; subst h1; rfl
  | .ptr _, _, _, _, _, h => by obtain ⟨b, off, cs, T, fr, h1, _⟩ := h; subst h1; rfl
  | .sliceN _, _, _, _, _, h => by obtain ⟨_, a, cap, h1, _⟩ := h; subst h1; rfl
  | .pair a b, w, ok, vs, (x, y), h => by
    have h1 := Rep.len a h.1
    have h2 := Rep.len b h.2
    simp only [List.length_take, List.length_drop] at h1 h2
    simp only [Ty.sz]
    omega

/-- Flat data hang on no memory. -/
theorem Rep.flat : (t : Ty) → {w w' : World} → {ok ok' : Nat → Prop} → {vs : List Value} → {d : t.den} → t.flat = true → Rep P t w ok vs d → Rep P t w' ok' vs d
  | .int _, _, _, _, _, _, _, _, h => h
  | .bool, _, _, _, _, _, _, _, h => h
  | .str, _, _, _, _, _, _, _, h => h
  | .unit, _, _, _, _, _, _, _, h => h
  | .slice e, _, _, _, _, _, _, hf, _ => by simp [Ty.flat] at hf
  | .fn1 a r, _, _, _, _, _, _, hf, _ => by simp [Ty.flat] at hf
  | .fn2 a a' r, _, _, _, _, _, _, hf, _ => by simp [Ty.flat] at hf
  | .seq _, _, _, _, _, _, _, hf, _ => by simp [Ty.flat] at hf
  | .seq2 _ _, _, _, _, _, _, _, hf, _ => by simp [Ty.flat] at hf
  | .map _ _, _, _, _, _, _, _, hf, _ => by simp [Ty.flat] at hf
  | .ptr _, _, _, _, _, _, _, hf, _ => by simp [Ty.flat] at hf
  | .sliceN _, _, _, _, _, _, _, hf, _ => by simp [Ty.flat] at hf
  | .pair a b, _, _, _, _, _, (x, y), hf, h => by
    simp only [Ty.flat, Bool.and_eq_true] at hf
    exact ⟨Rep.flat a hf.1 h.1, Rep.flat b hf.2 h.2⟩

/-- A value of one cell. -/
def one : Value → Bool
  | .agg _ | .tuple _ => false
  | _ => true

theorem Rep.ones : (t : Ty) → {w : World} → {ok : Nat → Prop} → {vs : List Value} → {d : t.den} → Rep P t w ok vs d → ∀ v ∈ vs, one v = true
  | .int _, _, _, _, _, h => by simp only [Rep] at h; subst h; simp [one]
  | .bool, _, _, _, _, h => by simp only [Rep] at h; subst h; simp [one]
  | .str, _, _, _, _, h => by simp only [Rep] at h; subst h; simp [one]
  | .unit, _, _, _, _, h => by simp only [Rep] at h; subst h; simp
  | .slice e, _, _, _, _, h => by obtain ⟨a, cap, h1, _⟩ := h; subst h1; simp [one]
  | .fn1 a r, _, _, _, _, h => by obtain ⟨fid, first, cap, h1, _⟩ := h; subst h1; simp [one]
  | .fn2 a a' r, _, _, _, _, h => by obtain ⟨fid, first, cap, h1, _⟩ := h; subst h1; simp [one]
  | .seq _, _, _, _, _, h => by obtain ⟨fid, cap, h1, _⟩ := h; subst h1; simp [one]
  | .seq2 _ _, _, _, _, _, h => by obtain ⟨fid, cap, h1, _⟩ := h; subst h1; simp [one]
  | .map _ _, _, _, _, _, h => by obtain ⟨b, es, clock, h1, _⟩ := h; subst h1; simp [one]
  | .ptr _, _, _, _, _, h => by obtain ⟨b, off, cs, T, fr, h1, _⟩ := h; subst h1; simp [one]
  | .sliceN _, _, _, _, _, h => by obtain ⟨_, a, cap, h1, _⟩ := h; subst h1; simp [one]
  | .pair a b, w, ok, vs, (x, y), h => by
    have h1 := Rep.ones a h.1
    have h2 := Rep.ones b h.2
    intro v hv
    rw [← List.take_append_drop a.sz vs] at hv
    rcases List.mem_append.1 hv with hv | hv
    · exact h1 v hv
    · exact h2 v hv

/-! Values, objects, states. -/

def blockOf : Value → Option Nat
  | .pointer (some a) => some a.block
  | .slice (some a) _ _ => some a.block
  | .map (some b) => some b
  | _ => none

/-- A value's blocks: of a tuple, those of its parts. -/
abbrev hasB : Value → Nat → Prop
  | .tuple vs, b => ∃ v ∈ vs.toList, blockOf v = some b
  | c, b => blockOf c = some b

theorem hasB_of {c : Value} {b : Nat} (h : blockOf c = some b) : hasB c b := by
  cases c <;> first | exact h | cases h

/-- Of each object: its version, the value that names it, and whether it may be written. -/
structure Conc where
  m : Nat → Option (Nat × Value × Bool)
  B : Nat → Prop
  yl : Nat

instance : CoeFun Conc fun _ => Nat → Option (Nat × Value × Bool) := ⟨Conc.m⟩

/-- The world at a call's start (or at a later point from which on all is told), the blocks that its arguments hang on, or new ones; older blocks that may be written (M); the calls that are deferred; the slots as they are. -/
structure Start where
  w : World
  B : Nat → Prop
  M : Nat → Prop
  ds : List Deferred
  tmps : Array Value
  yl : Nat
  lo : Nat

/-- What may not be written is as it was. -/
structure KeepsM (s : Start) (w : World) : Prop where
  os : w.os = s.w.os
  tape : w.tape = s.w.tape
  output : w.output = s.w.output
  size : s.w.heap.size ≤ w.heap.size
  block : ∀ b, b < s.w.heap.size → ¬ s.M b → w.heap[b]? = s.w.heap[b]?

theorem KeepsM.trans {s : Start} {w w' : World} (h : KeepsM s w) (h' : Keeps w w') : KeepsM s w' :=
  ⟨h'.os.trans h.os, h'.tape.trans h.tape, h'.output.trans h.output, Nat.le_trans h.size h'.size,
    fun b hb hm => (h'.block b (Nat.lt_of_lt_of_le hb h.size)).trans (h.block b hb hm)⟩

theorem KeepsM.keeps {s : Start} {w : World} (h : KeepsM s w) (hm : ∀ b, ¬ s.M b) : Keeps s.w w := ⟨h.os, h.tape, h.output, h.size, fun b hb => h.block b hb (hm b)⟩

structure StartOK (s : Start) : Prop where
  up : ∀ b, s.w.heap.size ≤ b → s.B b
  mB : ∀ b, s.M b → s.B b
  ds : ∀ d ∈ s.ds, ∃ D, d = { target := .collected D, args := #[] } ∧ s.w.heap[D]? = some (.deferred (some [])) ∧ ¬ s.B D ∧ s.lo ≤ D
  dn : s.ds.Nodup
  lo : s.lo ≤ s.w.heap.size

def VRel (P : Program) (w : World) (conc : Conc) (ok : Nat → Prop) : AVal → Value → Prop
  | .pure t d, v => ∃ vs, v = t.val vs ∧ Rep P t w ok vs d
  | .nils, v => v = .slice none 0 0
  | .bptr id ver off, v => ∃ cv c ow, conc id = some (cv, c, ow) ∧ ver ≤ cv ∧ one v = true ∧ (ver = cv → ∃ b, c = .pointer (some ⟨b, 0, none⟩) ∧ v = .pointer (some ⟨b, off, none⟩))
  | .pptr t d, v => ∃ b off cs T fr, v = .pointer (some ⟨b, off, none⟩) ∧ ok b ∧ w.heap[b]? = some (.cells cs T fr) ∧ off + t.sz ≤ cs.size ∧ Rep P t w ok (chunk cs.toList off t.sz) d
  | .eptr id ver e i, v => ∃ cv c ow, conc id = some (cv, c, ow) ∧ ver ≤ cv ∧ one v = true ∧ (ver = cv → ∃ b off n cap, c = .slice (some ⟨b, off, none⟩) n cap ∧ 0 ≤ i ∧ v = .pointer (some ⟨b, off + i.toNat * e.sz, none⟩))
  | .epart id ver e i o, v => ∃ cv c ow, conc id = some (cv, c, ow) ∧ ver ≤ cv ∧ one v = true ∧ (ver = cv → ∃ b off n cap, c = .slice (some ⟨b, off, none⟩) n cap ∧ 0 ≤ i ∧ v = .pointer (some ⟨b, off + i.toNat * e.sz + o, none⟩))
  | .hand id ver, v => ∃ cv c ow, conc id = some (cv, c, ow) ∧ ver ≤ cv ∧ one v = true ∧ (ver = cv → v = c)
  | .fref f, v => v = .func (.func f) #[] #[]
  | .flt x, v => v = .float .f64 x
  | .nhand id ver, v => ∃ cv c ow, conc id = some (cv, c, ow) ∧ ver ≤ cv ∧ one v = true ∧ (ver = cv → ∃ vs, c = .tuple (v :: vs).toArray)
  | .nptr id ver e i, v => ∃ cv c ow, conc id = some (cv, c, ow) ∧ ver ≤ cv ∧ one v = true ∧ (ver = cv → ∃ b off n cap vs, c = .tuple (.slice (some ⟨b, off, none⟩) n cap :: vs).toArray ∧ 0 ≤ i ∧ v = .pointer (some ⟨b, off + i.toNat, none⟩))
  | .nel id ver e i, v => ∃ cv c ow, conc id = some (cv, c, ow) ∧ ver ≤ cv ∧ one v = true ∧ (ver = cv → ∃ o vs, c = .tuple (o :: vs).toArray ∧ 0 ≤ i ∧ vs[i.toNat]? = some v)
  | .nelp id ver e i j, v => ∃ cv c ow, conc id = some (cv, c, ow) ∧ ver ≤ cv ∧ one v = true ∧ (ver = cv → ∃ o vs b off n cap, c = .tuple (o :: vs).toArray ∧ 0 ≤ i ∧ vs[i.toNat]? = some (.slice (some ⟨b, off, none⟩) n cap) ∧ 0 ≤ j ∧ v = .pointer (some ⟨b, off + j.toNat * e.sz, none⟩))
  | .oclo f t d id ver, v => ∃ cv c ow q p, conc id = some (cv, c, ow) ∧ ver ≤ cv ∧ v = .func (.func f) #[] #[q, p] ∧ one p = true ∧ (ver = cv → ∃ b, c = .pointer (some ⟨b, 0, none⟩) ∧ p = c) ∧
      ∃ b off cs T fr, q = .pointer (some ⟨b, off, none⟩) ∧ ok b ∧ w.heap[b]? = some (.cells cs T fr) ∧ off + t.sz ≤ cs.size ∧ Rep P t w ok (chunk cs.toList off t.sz) d
  | .junk, _ => True
  | .yld, v => v = .func (.yield conc.yl) #[] #[]

def All2 {α β : Type} (R : α → β → Prop) : List α → List β → Prop
  | [], [] => True
  | a :: l, b :: m => R a b ∧ All2 R l m
  | _, _ => False

def SRel (P : Program) (w : World) (conc : Conc) (ok : Nat → Prop) : SVal → Value → Prop
  | .v a, v => VRel P w conc ok a v
  | .comp l, v => ∃ vs, v = .agg vs.toArray ∧ (∀ v ∈ vs, one v = true) ∧ All2 (VRel P w conc ok) l vs
  | .tup l, v => ∃ vs, v = .tuple vs.toArray ∧ All2 (VRel P w conc ok) l vs

def labs (tmps : Array Value) (L : List (Nat × Bool)) : Prop := ∀ p ∈ L, tmps[p.1]? = some (.bool p.2)

structure SlotRel (P : Program) (w : World) (conc : Conc) (ok : Nat → Prop) (tmps : Array Value) (sl : Slot) (v : Value) : Prop where
  yes : labs tmps sl.L → sl.g = true ∧ SRel P w conc ok sl.s v
  no : ¬ labs tmps sl.L → v = undef

/-- A slice of the call's own: its elements. -/
def OwnB (P : Program) (w : World) (ok : Nat → Prop) (e : Ty) (c : Value) (l : List e.den) : Prop :=
  (c = .slice none 0 0 ∧ l = []) ∨ ∃ b off cap cs T, c = .slice (some ⟨b, off, none⟩) l.length cap ∧ w.heap[b]? = some (.cells cs T (0, 0)) ∧ l.length ≤ cap ∧ cap ≤ maxLen ∧
    off + cap * e.sz ≤ cs.size ∧ ∀ i x, l[i]? = some x → Rep P e w ok (chunk cs.toList (off + i * e.sz) e.sz) x

/-- A slice of the call's own whose elements are these values, one cell each. -/
def NRow (w : World) (v : Value) (vs : List Value) : Prop :=
  (v = .slice none 0 0 ∧ vs = []) ∨ ∃ b off cap cs T, v = .slice (some ⟨b, off, none⟩) vs.length cap ∧ w.heap[b]? = some (.cells cs T (0, 0)) ∧ vs.length ≤ cap ∧ cap ≤ maxLen ∧
    off + cap ≤ cs.size ∧ ∀ i u, vs[i]? = some u → cs[off + i]? = some u

theorem OwnB.mono {P : Program} {w w' : World} {ok ok' : Nat → Prop} {e : Ty} {c : Value} {l : List e.den} (hx : Ext ok w w') (hok : Sub w ok ok') (hb : ∀ b, blockOf c = some b → w'.heap[b]? = w.heap[b]?) (h : OwnB P w ok e c l) : OwnB P w' ok' e c l := by
  rcases h with h | ⟨b, off, cap, cs, T, h1, h2, h3, h4, h5, h6⟩
  · exact .inl h
  · exact .inr ⟨b, off, cap, cs, T, h1, (hb b (by rw [h1]; rfl)).trans h2, h3, h4, h5, fun i x hi => (h6 i x hi).mono e hx hok⟩

theorem NRow.mono {w w' : World} {v : Value} {vs : List Value} (hb : ∀ b, blockOf v = some b → w'.heap[b]? = w.heap[b]?) (h : NRow w v vs) : NRow w' v vs := by
  rcases h with h | ⟨b, off, cap, cs, T, h1, h2, h3⟩
  · exact .inl h
  · exact .inr ⟨b, off, cap, cs, T, h1, (hb b (by rw [h1]; rfl)).trans h2, h3⟩

def ORel (P : Program) (w : World) (conc : Conc) (ok : Nat → Prop) (c : Value) (ow : Bool) : AObj → Prop
  | .box t l => ow = true ∧ ∃ b cs T, c = .pointer (some ⟨b, 0, none⟩) ∧ w.heap[b]? = some (.cells cs T (0, 0)) ∧ l.length = t.sz ∧ (∀ v ∈ cs.toList, one v = true) ∧ All2 (VRel P w conc ok) l cs.toList
  | .buf e l => ow = true ∧ ((c = .slice none 0 0 ∧ l = []) ∨ ∃ b off cap cs T, c = .slice (some ⟨b, off, none⟩) l.length cap ∧ w.heap[b]? = some (.cells cs T (0, 0)) ∧ l.length ≤ cap ∧ cap ≤ maxLen ∧
      off + cap * e.sz ≤ cs.size ∧ ∀ i x, l[i]? = some x → Rep P e w ok (chunk cs.toList (off + i * e.sz) e.sz) x)
  | .fbox t d => ow = false ∧ ∃ b cs T fr, c = .pointer (some ⟨b, 0, none⟩) ∧ ok b ∧ w.heap[b]? = some (.cells cs T fr) ∧ t.sz ≤ cs.size ∧ Rep P t w ok (chunk cs.toList 0 t.sz) d
  | .fbuf e l => ow = false ∧ Rep P (.slice e) w ok [c] l
  | .map k v l => ow = true ∧ ∃ b es clock, c = .map (some b) ∧ w.heap[b]? = some (.map es clock) ∧ es.size = l.length ∧
      ∀ (i : Nat) (x : k.den × v.den) (e : MapEntry), l[i]? = some x → es[i]? = some e → (∃ ks, e.key = k.val ks ∧ Rep P k w ok ks x.1) ∧ ∃ us, e.val = v.val us ∧ Rep P v w ok us x.2
  | .fmap k v l => ow = false ∧ Rep P (.map k v) w ok [c] l
  | .nbuf e l => ow = true ∧ ∃ v vs, c = .tuple (v :: vs).toArray ∧ vs.length = l.length ∧ NRow w v vs ∧ (∀ (i : Nat) (u : Value) (li : List e.den), vs[i]? = some u → l[i]? = some li → OwnB P w ok e u li) ∧ (v :: vs).Pairwise fun x y => ∀ b, blockOf x = some b → blockOf y ≠ some b
  | .nfbuf e l => ow = false ∧ ∃ v vs, c = .tuple (v :: vs).toArray ∧ Rep P (.slice (.slice e)) w ok [v] l
  | .cbuf a u e l i j v => ow = true ∧ ∃ b off cap cs T, c = .slice (some ⟨b, off, none⟩) l.length cap ∧ w.heap[b]? = some (.cells cs T (0, 0)) ∧ l.length ≤ cap ∧ cap ≤ maxLen ∧
      off + cap * (cellTy a u e).sz ≤ cs.size ∧ ∀ (k : Nat) (x : a.den × Option (List u.den) × e.den), l[k]? = some x →
        Rep P a w ok (chunk cs.toList (off + k * (cellTy a u e).sz) a.sz) x.1 ∧ Rep P e w ok (chunk cs.toList (off + k * (cellTy a u e).sz + a.sz + 1) e.sz) x.2.2 ∧
        ∃ y, cs[off + k * (cellTy a u e).sz + a.sz]? = some y ∧ ((k : Int) ≠ i → Rep P (.sliceN u) w ok [y] x.2.1) ∧ ((k : Int) = i → VRel P w conc ok (.hand j v) y)

/-- Blocks that are no objects of the state. -/
def okOf (conc : Conc) (b : Nat) : Prop := conc.B b ∧ ∀ id ver c, conc id = some (ver, c, true) → ¬ hasB c b

structure Mod (P : Program) (w0 : Start) (conc : Conc) (st : ASt) (a : Act) (w : World) : Prop where
  defers : a.defers = w0.ds
  size : a.tmps.size = st.N
  marks : ∀ d sl, Map.get st.slots d = some sl → ∀ p ∈ sl.L, p.1 ∈ st.marks
  slots : ∀ d sl, Map.get st.slots d = some sl → ∃ v, a.tmps[d]? = some v ∧ SlotRel P w conc (okOf conc) a.tmps sl v
  heap : ∀ id ver o, Map.get st.heap id = some (ver, o) → ∃ c ow, conc id = some (ver, c, ow) ∧ ORel P w conc (okOf conc) c ow o
  dead : ∀ id, Map.get st.heap id = none → conc id = none
  inj : ∀ i j vi vj c c' b, conc i = some (vi, c, true) → conc j = some (vj, c', true) → hasB c b → hasB c' b → i = j
  base : ∀ i vi c b, conc i = some (vi, c, true) → hasB c b → (w0.w.heap.size ≤ b ∨ w0.M b) ∧ b < w.heap.size
  keeps : KeepsM w0 w
  cB : conc.B = w0.B
  cY : conc.yl = w0.yl
  okS : StartOK w0
  fixed : ∀ s ∈ st.fixed, a.tmps[s]? = w0.tmps[s]?

theorem Mod.up {P : Program} {w0 : Start} {conc : Conc} {st : ASt} {a : Act} {w : World} (h : Mod P w0 conc st a w) : ∀ b, w0.w.heap.size ≤ b → w0.B b := h.okS.up
theorem Mod.inB {P : Program} {w0 : Start} {conc : Conc} {st : ASt} {a : Act} {w : World} (h : Mod P w0 conc st a w) {i vi b : Nat} {c : Value} (hi : conc i = some (vi, c, true)) (hb : hasB c b) : w0.B b := by
  rcases (h.base i vi c b hi hb).1 with h1 | h1
  · exact h.okS.up b h1
  · exact h.okS.mB b h1

def Models (P : Program) (w0 : Start) (st : ASt) (a : Act) (w : World) : Prop := ∃ conc, Mod P w0 conc st a w

/-! How these carry over. -/

theorem All2.imp {α β : Type} {R S : α → β → Prop} : {l : List α} → {m : List β} → (∀ a b, R a b → S a b) → All2 R l m → All2 S l m
  | [], [], _, _ => trivial
  | _ :: _, _ :: _, h, ⟨h1, h2⟩ => ⟨h _ _ h1, All2.imp h h2⟩
  | [], _ :: _, _, h => h.elim
  | _ :: _, [], _, h => h.elim

theorem All2.length {α β : Type} {R : α → β → Prop} : {l : List α} → {m : List β} → All2 R l m → l.length = m.length
  | [], [], _ => rfl
  | _ :: l, _ :: m, ⟨_, h2⟩ => by simp [All2.length h2]
  | [], _ :: _, h => h.elim
  | _ :: _, [], h => h.elim

theorem All2.append {α β : Type} {R : α → β → Prop} : {l l' : List α} → {m m' : List β} → All2 R l m → All2 R l' m' → All2 R (l ++ l') (m ++ m')
  | [], _, [], _, _, h => h
  | _ :: _, _, _ :: _, _, ⟨h1, h2⟩, h => ⟨h1, All2.append h2 h⟩
  | [], _, _ :: _, _, h, _ => h.elim
  | _ :: _, _, [], _, h, _ => h.elim

theorem All2.take {α β : Type} {R : α → β → Prop} : {l : List α} → {m : List β} → (n : Nat) → All2 R l m → All2 R (l.take n) (m.take n)
  | _, _, 0, _ => by simp [All2]
  | [], [], _ + 1, _ => trivial
  | _ :: _, _ :: _, n + 1, ⟨h1, h2⟩ => ⟨h1, All2.take n h2⟩
  | [], _ :: _, _ + 1, h => h.elim
  | _ :: _, [], _ + 1, h => h.elim

theorem All2.drop {α β : Type} {R : α → β → Prop} : {l : List α} → {m : List β} → (n : Nat) → All2 R l m → All2 R (l.drop n) (m.drop n)
  | _, _, 0, h => h
  | [], [], _ + 1, _ => trivial
  | _ :: _, _ :: _, n + 1, ⟨_, h2⟩ => All2.drop n h2
  | [], _ :: _, _ + 1, h => h.elim
  | _ :: _, [], _ + 1, h => h.elim

theorem All2.get {α β : Type} {R : α → β → Prop} : {l : List α} → {m : List β} → (n : Nat) → (a : α) → All2 R l m → l[n]? = some a → ∃ b, m[n]? = some b ∧ R a b
  | [], [], _, _, _, h => by simp at h
  | _ :: _, b :: _, 0, a, ⟨h1, _⟩, h => by simp at h; subst h; exact ⟨b, rfl, h1⟩
  | _ :: _, _ :: _, n + 1, a, ⟨_, h2⟩, h => by simpa using All2.get n a h2 (by simpa using h)
  | [], _ :: _, _, _, h, _ => h.elim
  | _ :: _, [], _, _, h, _ => h.elim

theorem All2.map {α β : Type} {R S : α → β → Prop} (f : α → α) : {l : List α} → {m : List β} → (∀ a b, R a b → S (f a) b) → All2 R l m → All2 S (l.map f) m
  | [], [], _, _ => trivial
  | _ :: _, _ :: _, h, ⟨h1, h2⟩ => ⟨h _ _ h1, All2.map f h h2⟩
  | [], _ :: _, _, h => h.elim
  | _ :: _, [], _, h => h.elim

/-- Versions grow. -/
def CLe (conc conc' : Conc) : Prop := conc'.yl = conc.yl ∧ ∀ id cv c ow, conc id = some (cv, c, ow) → ∃ cv' c' ow', conc' id = some (cv', c', ow') ∧ (cv < cv' ∨ (cv' = cv ∧ c' = c))

theorem CLe.refl (conc : Conc) : CLe conc conc := ⟨rfl, fun id cv c ow h => ⟨cv, c, ow, h, .inr ⟨rfl, rfl⟩⟩⟩

theorem VRel.mono {w w' : World} {conc conc' : Conc} {ok ok' : Nat → Prop} (hx : Ext ok w w') (hok : Sub w ok ok')
    (hc : CLe conc conc') : (a : AVal) → {v : Value} → VRel P w conc ok a v → VRel P w' conc' ok' a v
  | .pure t d, v, ⟨vs, h1, h2⟩ => ⟨vs, h1, h2.mono t hx hok⟩
  | .nils, v, h => h
  | .bptr id ver off, v, ⟨cv, c, ow, h1, h2, ho, h3⟩ => by
    obtain ⟨cv', c', ow', g1, g2⟩ := hc.2 id cv c ow h1
    refine ⟨cv', c', ow', g1, ?_, ho, fun e => ?_⟩
    · rcases g2 with g2 | ⟨g2, _⟩ <;> omega
    · rcases g2 with g2 | ⟨g2, g3⟩
      · omega
      · subst g3; exact h3 (by omega)
  | .pptr t d, v, ⟨b, off, cs, T, fr, h1, h2, h3, h4, h5⟩ =>
    ⟨b, off, cs, T, fr, h1, hok b h2 (Array.getElem?_eq_some_iff.1 h3).1, (hx.block b h2 (Array.getElem?_eq_some_iff.1 h3).1).trans h3, h4, h5.mono t hx hok⟩
  | .eptr id ver e i, v, ⟨cv, c, ow, h1, h2, ho, h3⟩ => by
    obtain ⟨cv', c', ow', g1, g2⟩ := hc.2 id cv c ow h1
    refine ⟨cv', c', ow', g1, ?_, ho, fun e => ?_⟩
    · rcases g2 with g2 | ⟨g2, _⟩ <;> omega
    · rcases g2 with g2 | ⟨g2, g3⟩
      · omega
      · subst g3; exact h3 (by omega)
  | .epart id ver e i o, v, ⟨cv, c, ow, h1, h2, ho, h3⟩ => by
    obtain ⟨cv', c', ow', g1, g2⟩ := hc.2 id cv c ow h1
    refine ⟨cv', c', ow', g1, ?_, ho, fun e => ?_⟩
    · rcases g2 with g2 | ⟨g2, _⟩ <;> omega
    · rcases g2 with g2 | ⟨g2, g3⟩
      · omega
      · subst g3; exact h3 (by omega)
  | .hand id ver, v, ⟨cv, c, ow, h1, h2, ho, h3⟩ => by
    obtain ⟨cv', c', ow', g1, g2⟩ := hc.2 id cv c ow h1
    refine ⟨cv', c', ow', g1, ?_, ho, fun e => ?_⟩
    · rcases g2 with g2 | ⟨g2, _⟩ <;> omega
    · rcases g2 with g2 | ⟨g2, g3⟩
      · omega
      · subst g3; exact h3 (by omega)
  | .nhand id ver, v, ⟨cv, c, ow, h1, h2, ho, h3⟩ => by
    obtain ⟨cv', c', ow', g1, g2⟩ := hc.2 id cv c ow h1
    refine ⟨cv', c', ow', g1, ?_, ho, fun e => ?_⟩
    · rcases g2 with g2 | ⟨g2, _⟩ <;> omega
    · rcases g2 with g2 | ⟨g2, g3⟩
      · omega
      · subst g3; exact h3 (by omega)
  | .nptr id ver e i, v, ⟨cv, c, ow, h1, h2, ho, h3⟩ => by
    obtain ⟨cv', c', ow', g1, g2⟩ := hc.2 id cv c ow h1
    refine ⟨cv', c', ow', g1, ?_, ho, fun e => ?_⟩
    · rcases g2 with g2 | ⟨g2, _⟩ <;> omega
    · rcases g2 with g2 | ⟨g2, g3⟩
      · omega
      · subst g3; exact h3 (by omega)
  | .nel id ver e i, v, ⟨cv, c, ow, h1, h2, ho, h3⟩ => by
    obtain ⟨cv', c', ow', g1, g2⟩ := hc.2 id cv c ow h1
    refine ⟨cv', c', ow', g1, ?_, ho, fun e => ?_⟩
    · rcases g2 with g2 | ⟨g2, _⟩ <;> omega
    · rcases g2 with g2 | ⟨g2, g3⟩
      · omega
      · subst g3; exact h3 (by omega)
  | .nelp id ver e i j, v, ⟨cv, c, ow, h1, h2, ho, h3⟩ => by
    obtain ⟨cv', c', ow', g1, g2⟩ := hc.2 id cv c ow h1
    refine ⟨cv', c', ow', g1, ?_, ho, fun e => ?_⟩
    · rcases g2 with g2 | ⟨g2, _⟩ <;> omega
    · rcases g2 with g2 | ⟨g2, g3⟩
      · omega
      · subst g3; exact h3 (by omega)
  | .oclo f t d id ver, v, ⟨cv, c, ow, q, p, h1, h2, hv, ho, h3, b, off, cs, T, fr, k1, k2, k3, k4, k5⟩ => by
    obtain ⟨cv', c', ow', g1, g2⟩ := hc.2 id cv c ow h1
    refine ⟨cv', c', ow', q, p, g1, ?_, hv, ho, fun e => ?_,
      b, off, cs, T, fr, k1, hok b k2 (Array.getElem?_eq_some_iff.1 k3).1, (hx.block b k2 (Array.getElem?_eq_some_iff.1 k3).1).trans k3, k4, k5.mono t hx hok⟩
    · rcases g2 with g2 | ⟨g2, _⟩ <;> omega
    · rcases g2 with g2 | ⟨g2, g3⟩
      · omega
      · subst g3; exact h3 (by omega)
  | .fref f, v, h => h
  | .flt x, v, h => h
  | .junk, _, _ => trivial
  | .yld, v, h => by
    show v = _
    rw [hc.1]
    exact h

theorem SRel.mono {w w' : World} {conc conc' : Conc} {ok ok' : Nat → Prop} (hx : Ext ok w w') (hok : Sub w ok ok')
    (hc : CLe conc conc') : (s : SVal) → {v : Value} → SRel P w conc ok s v → SRel P w' conc' ok' s v
  | .v a, v, h => VRel.mono hx hok hc a h
  | .comp l, v, ⟨vs, h1, h0, h2⟩ => ⟨vs, h1, h0, h2.imp fun a b h => VRel.mono hx hok hc a h⟩
  | .tup l, v, ⟨vs, h1, h2⟩ => ⟨vs, h1, h2.imp fun a b h => VRel.mono hx hok hc a h⟩

theorem ORel.mono {w w' : World} {conc conc' : Conc} {ok ok' : Nat → Prop} {c : Value} {ow : Bool} (hx : Ext ok w w') (hok : Sub w ok ok')
    (hc : CLe conc conc') (hb : ow = true → ∀ b, hasB c b → w'.heap[b]? = w.heap[b]?) : (o : AObj) → ORel P w conc ok c ow o → ORel P w' conc' ok' c ow o
  | .box t l, ⟨h0, b, cs, T, h1, h2, h3, h4, h5⟩ => ⟨h0, b, cs, T, h1, (hb h0 b (by rw [h1]; rfl)).trans h2, h3, h4, h5.imp fun a b h => VRel.mono hx hok hc a h⟩
  | .buf e l, ⟨h0, .inl h⟩ => ⟨h0, .inl h⟩
  | .buf e l, ⟨h0, .inr ⟨b, off, cap, cs, T, h1, h2, h3, h4, h5, h6⟩⟩ =>
    ⟨h0, .inr ⟨b, off, cap, cs, T, h1, (hb h0 b (by rw [h1]; rfl)).trans h2, h3, h4, h5, fun i x hi => (h6 i x hi).mono e hx hok⟩⟩
  | .fbox t d, ⟨h0, b, cs, T, fr, h1, h2, h3, h4, h5⟩ =>
    ⟨h0, b, cs, T, fr, h1, hok b h2 (Array.getElem?_eq_some_iff.1 h3).1, (hx.block b h2 (Array.getElem?_eq_some_iff.1 h3).1).trans h3, h4, h5.mono t hx hok⟩
  | .fbuf e l, ⟨h0, h1⟩ => ⟨h0, h1.mono _ hx hok⟩
  | .map k v l, ⟨h0, b, es, clock, h1, h2, h3, h4⟩ => ⟨h0, b, es, clock, h1, (hb h0 b (by rw [h1]; rfl)).trans h2, h3, fun i x e hi he => by
    obtain ⟨⟨ks, g1, g2⟩, us, g3, g4⟩ := h4 i x e hi he
    exact ⟨⟨ks, g1, g2.mono k hx hok⟩, us, g3, g4.mono v hx hok⟩⟩
  | .fmap k v l, ⟨h0, h1⟩ => ⟨h0, h1.mono _ hx hok⟩
  | .nbuf e l, ⟨h0, v, vs, h1, h2, h3, h4, h5⟩ => ⟨h0, v, vs, h1, h2, h3.mono fun b hv => hb h0 b (by rw [h1]; exact ⟨v, by simp, hv⟩), fun i u li hi hl =>
      (h4 i u li hi hl).mono hx hok fun b hu => hb h0 b (by rw [h1]; exact ⟨u, by simp [List.mem_of_getElem? hi], hu⟩), h5⟩
  | .nfbuf e l, ⟨h0, v, vs, h1, h2⟩ => ⟨h0, v, vs, h1, h2.mono _ hx hok⟩
  | .cbuf a u e l i j v, ⟨h0, b, off, cap, cs, T, h1, h2, h3, h4, h5, h6⟩ => ⟨h0, b, off, cap, cs, T, h1, (hb h0 b (by rw [h1]; rfl)).trans h2, h3, h4, h5, fun k x hk => by
    obtain ⟨g1, g2, y, g3, g4, g5⟩ := h6 k x hk
    exact ⟨g1.mono a hx hok, g2.mono e hx hok, y, g3, fun hn => (g4 hn).mono _ hx hok, fun hi => VRel.mono hx hok hc _ (g5 hi)⟩⟩

/-- The world has grown. -/
theorem Mod.grow {w0 : Start} {w w' : World} {conc : Conc} {st : ASt} {a : Act} (h : Mod P w0 conc st a w) (hk : Keeps w w') : Mod P w0 conc st a w' where
  defers := h.defers
  size := h.size
  marks := h.marks
  slots := fun d sl hd => by
    obtain ⟨v, h1, h2⟩ := h.slots d sl hd
    exact ⟨v, h1, ⟨fun hl => ⟨(h2.yes hl).1, (h2.yes hl).2.mono (hk.ext _) (Sub.refl _ _) (CLe.refl _)⟩, h2.no⟩⟩
  heap := fun id ver o ho => by
    obtain ⟨c, ow, h1, h2⟩ := h.heap id ver o ho
    exact ⟨c, ow, h1, h2.mono (hk.ext _) (Sub.refl _ _) (CLe.refl _) (fun e b hb => by subst e; exact hk.block b (h.base id ver c b h1 hb).2)⟩
  dead := h.dead
  inj := h.inj
  base := fun i vi c b hi hb => ⟨(h.base i vi c b hi hb).1, Nat.lt_of_lt_of_le (h.base i vi c b hi hb).2 hk.size⟩
  keeps := h.keeps.trans hk
  cB := h.cB
  cY := h.cY
  okS := h.okS
  fixed := h.fixed

theorem put_get (a : Act) (d : Nat) (v : Value) (hd : d < a.tmps.size) : (a.put (some d) v).tmps[d]? = some v := by
  simp [Act.put, hd]
theorem put_get_ne (a : Act) (d : Option Nat) (v : Value) (k : Nat) (h : d ≠ some k) : (a.put d v).tmps[k]? = a.tmps[k]? := by
  cases d with
  | none => rfl
  | some d => simp only [Act.put]; rw [Array.getElem?_setIfInBounds_ne]; intro e; exact h (by rw [e])
theorem put_size (a : Act) (d : Option Nat) (v : Value) : (a.put d v).tmps.size = a.tmps.size := by
  cases d <;> simp [Act.put]
theorem put_defers (a : Act) (d : Option Nat) (v : Value) : (a.put d v).defers = a.defers := by
  cases d <;> rfl

end Go.Abs

set_option linter.unusedSimpArgs false
set_option linter.unusedVariables false
namespace Go.Abs
open Go
variable {P : Program}

theorem labs_put {a : Act} {d : Nat} {v : Value} {L : List (Nat × Bool)} (h : ∀ p ∈ L, p.1 ≠ d) : labs (a.put (some d) v).tmps L ↔ labs a.tmps L := by
  constructor
  · intro hl p hp
    have := hl p hp
    rwa [put_get_ne _ _ _ _ (fun e => h p hp (by simpa using e.symm))] at this
  · intro hl p hp
    rw [put_get_ne _ _ _ _ (fun e => h p hp (by simpa using e.symm))]
    exact hl p hp

theorem any_nbeq {l : List Nat} {d : Nat} : l.any (Nat.beq d) = false ↔ d ∉ l := by
  constructor
  · intro h2 hm
    have : l.any (Nat.beq d) = true := List.any_eq_true.2 ⟨d, hm, by simp [nbeq]⟩
    rw [this] at h2; cases h2
  · intro h2
    rw [Bool.eq_false_iff]
    intro h3
    obtain ⟨x, hx, he⟩ := List.any_eq_true.1 h3
    rw [nbeq] at he
    have : d = x := by simpa using he
    exact h2 (this ▸ hx)

theorem may_iff {st : ASt} {d : Nat} : st.may d = true ↔ d < st.N ∧ d ∉ st.marks ∧ d ∉ st.fixed := by
  simp only [ASt.may, Bool.and_eq_true, Bool.not_eq_true', any_nbeq, and_assoc]
  refine and_congr ⟨fun h1 => ?_, fun h1 => ?_⟩ Iff.rfl
  · have : d + 1 ≤ st.N := by simpa [Nat.blt] using h1
    omega
  · have : d + 1 ≤ st.N := h1
    simpa [Nat.blt] using this

/-- A slot is written. -/
theorem Mod.put {w0 : Start} {w : World} {conc : Conc} {st : ASt} {a : Act} (h : Mod P w0 conc st a w) {d : Nat} {sl : Slot} {v : Value} {ms : List Nat}
    (hm : st.may d = true) (hms : ∀ m ∈ st.marks, m ∈ ms) (hL : ∀ p ∈ sl.L, p.1 ∈ ms ∧ p.1 ≠ d) (hv : SlotRel P w conc (okOf conc) a.tmps sl v) :
    Mod P w0 conc { N := st.N, marks := ms, slots := Map.set st.slots d sl, heap := st.heap, fixed := st.fixed } (a.put (some d) v) w where
  defers := h.defers
  fixed := fun s hs => by
    obtain ⟨_, _, hnf⟩ := may_iff.1 hm
    rw [put_get_ne _ _ _ _ (fun e => hnf (by cases e; exact hs))]
    exact h.fixed s hs
  size := by rw [put_size]; exact h.size
  marks := fun k sl' hk p hp => by
    simp only [Map.get_set] at hk
    split at hk
    · cases hk; exact (hL p hp).1
    · exact hms _ (h.marks k sl' hk p hp)
  slots := fun k sl' hk => by
    obtain ⟨hd, hnm, _⟩ := may_iff.1 hm
    simp only [Map.get_set] at hk
    split at hk
    · rename_i e; subst e; cases hk
      have hl := labs_put (a := a) (v := v) (L := sl.L) fun p hp => (hL p hp).2
      refine ⟨v, put_get a d v (by rw [h.size]; exact hd), ⟨fun g => hv.yes (hl.1 g), fun g => hv.no fun g' => g (hl.2 g')⟩⟩
    · rename_i e
      obtain ⟨u, h1, h2⟩ := h.slots k sl' hk
      have hl := labs_put (a := a) (v := v) (L := sl'.L) fun p hp e' => hnm (by have := h.marks k sl' hk p hp; rwa [e'] at this)
      refine ⟨u, by rw [put_get_ne _ _ _ _ (by simpa using e)]; exact h1, ⟨fun g => h2.yes (hl.1 g), fun g => h2.no fun g' => g (hl.2 g')⟩⟩
  heap := h.heap
  dead := h.dead
  inj := h.inj
  base := h.base
  keeps := h.keeps
  cB := h.cB
  cY := h.cY
  okS := h.okS

theorem Mod.marks_more {w0 : Start} {w : World} {conc : Conc} {st : ASt} {a : Act} (h : Mod P w0 conc st a w) {ms : List Nat} (hms : ∀ m ∈ st.marks, m ∈ ms) :
    Mod P w0 conc { st with marks := ms } a w where
  defers := h.defers
  size := h.size
  marks := fun k sl' hk p hp => hms _ (h.marks k sl' hk p hp)
  slots := h.slots
  heap := h.heap
  dead := h.dead
  inj := h.inj
  base := h.base
  keeps := h.keeps
  cB := h.cB
  cY := h.cY
  okS := h.okS
  fixed := h.fixed

/-- An object in another's place, or written: only its own block may have changed. -/
theorem Mod.obj {w0 : Start} {w w' : World} {conc : Conc} {st : ASt} {a : Act} (h : Mod P w0 conc st a w) {id ver : Nat} {c : Value} {o : AObj}
    (hver : ∀ cv c0 ow, conc id = some (cv, c0, ow) → cv < ver ∨ (ver = cv ∧ c = c0))
    (hos : w'.os = w.os) (htape : w'.tape = w.tape) (hout : w'.output = w.output) (hsize : w.heap.size ≤ w'.heap.size)
    (hblocks : ∀ b, b < w.heap.size → (∀ cv c0, conc id = some (cv, c0, true) → ¬ hasB c0 b) → w'.heap[b]? = w.heap[b]?)
    (hnew : ∀ b, hasB c b → (w.heap.size ≤ b ∨ ∃ cv c0, conc id = some (cv, c0, true) ∧ hasB c0 b) ∧ b < w'.heap.size)
    (hO : ∀ conc', CLe conc conc' → conc' id = some (ver, c, true) → Ext (okOf conc) w w' → Sub w (okOf conc) (okOf conc') → (∀ b, w.heap.size ≤ b → ¬ hasB c b → okOf conc' b) → ORel P w' conc' (okOf conc') c true o) :
    ∃ conc', Mod P w0 conc' { st with heap := Map.set st.heap id (ver, o) } a w' ∧ conc' id = some (ver, c, true) ∧ CLe conc conc' ∧ Ext (okOf conc) w w' ∧ Sub w (okOf conc) (okOf conc') := by
  let conc' : Conc := ⟨fun j => if j = id then some (ver, c, true) else conc j, conc.B, conc.yl⟩
  have e1 : conc' id = some (ver, c, true) := by simp [conc']
  have e2 : ∀ j, j ≠ id → conc' j = conc j := fun j hj => by simp [conc', hj]
  have hle : CLe conc conc' := by
    refine ⟨rfl, ?_⟩
    intro j cv c0 ow hj
    by_cases e : j = id
    · subst e; exact ⟨ver, c, true, e1, hver cv c0 ow hj⟩
    · exact ⟨cv, c0, ow, by rw [e2 j e]; exact hj, .inr ⟨rfl, rfl⟩⟩
  have hx : Ext (okOf conc) w w' := ⟨hsize, fun b hb hl => hblocks b hl fun cv c0 hi => hb.2 id cv c0 hi⟩
  have hs : Sub w (okOf conc) (okOf conc') := by
    intro b hb hl
    refine ⟨hb.1, fun j cv c0 hj hbl => ?_⟩
    by_cases e : j = id
    · subst e
      rw [e1] at hj; cases hj
      rcases (hnew b hbl).1 with h1 | ⟨cv', c', h1, h2⟩
      · omega
      · exact hb.2 _ _ _ h1 h2
    · rw [e2 j e] at hj
      exact hb.2 j cv c0 hj hbl
  have hz : ∀ b, w.heap.size ≤ b → ¬ hasB c b → okOf conc' b := by
    intro b hb hn
    refine ⟨by show conc.B b; rw [h.cB]; exact h.up b (Nat.le_trans h.keeps.size hb), fun j cv c0 hj hbl => ?_⟩
    by_cases e : j = id
    · subst e
      rw [e1] at hj; cases hj
      exact hn hbl
    · rw [e2 j e] at hj
      have := (h.base j cv c0 b hj hbl).2
      omega
  refine ⟨conc', ?_, e1, hle, hx, hs⟩
  refine
    { defers := h.defers, size := h.size, marks := h.marks, slots := ?_, heap := ?_, dead := ?_, inj := ?_, base := ?_, keeps := ?_, cB := h.cB, cY := h.cY, okS := h.okS, fixed := h.fixed }
  · intro d sl hd
    obtain ⟨v, h1, h2⟩ := h.slots d sl hd
    exact ⟨v, h1, ⟨fun hl => ⟨(h2.yes hl).1, (h2.yes hl).2.mono hx hs hle⟩, h2.no⟩⟩
  · intro j vj oj hj
    simp only [Map.get_set] at hj
    split at hj
    · rename_i e; subst e
      cases hj
      exact ⟨c, true, e1, hO conc' hle e1 hx hs hz⟩
    · rename_i e
      obtain ⟨c0, ow, g1, g2⟩ := h.heap j vj oj hj
      refine ⟨c0, ow, by rw [e2 j (fun q => e q.symm)]; exact g1, g2.mono hx hs hle fun eo b hb => ?_⟩
      subst eo
      refine hblocks b (h.base j vj c0 b g1 hb).2 fun cv c1 hi hb' => e ?_
      exact h.inj id j cv vj c1 c0 b hi g1 hb' hb
  · intro j hj
    simp only [Map.get_set] at hj
    split at hj
    · cases hj
    · rename_i e; rw [e2 j (fun q => e q.symm)]; exact h.dead j hj
  · intro i j vi vj ci cj b hi hj hbi hbj
    by_cases ei : i = id
    · by_cases ej : j = id
      · rw [ei, ej]
      · subst ei
        rw [e1] at hi; cases hi
        rw [e2 j ej] at hj
        rcases (hnew b hbi).1 with g | ⟨cv, c0, g1, g2⟩
        · have := (h.base j vj cj b hj hbj).2; omega
        · exact h.inj _ _ _ _ _ _ b g1 hj g2 hbj
    · rw [e2 i ei] at hi
      by_cases ej : j = id
      · subst ej
        rw [e1] at hj; cases hj
        rcases (hnew b hbj).1 with g | ⟨cv, c0, g1, g2⟩
        · have := (h.base i vi ci b hi hbi).2; omega
        · exact h.inj _ _ _ _ _ _ b hi g1 hbi g2
      · rw [e2 j ej] at hj
        exact h.inj i j vi vj ci cj b hi hj hbi hbj
  · intro i vi ci b hi hb
    by_cases ei : i = id
    · subst ei
      rw [e1] at hi; cases hi
      refine ⟨?_, (hnew b hb).2⟩
      rcases (hnew b hb).1 with g | ⟨cv, c0, g1, g2⟩
      · exact .inl (Nat.le_trans h.keeps.size g)
      · exact (h.base _ _ _ _ g1 g2).1
    · rw [e2 i ei] at hi
      exact ⟨(h.base i vi ci b hi hb).1, Nat.lt_of_lt_of_le (h.base i vi ci b hi hb).2 hsize⟩
  · refine ⟨hos.trans h.keeps.os, htape.trans h.keeps.tape, hout.trans h.keeps.output, Nat.le_trans h.keeps.size hsize, fun b hb hM => ?_⟩
    rw [hblocks b (Nat.lt_of_lt_of_le hb h.keeps.size) fun cv c0 hi hbl => ?_]
    · exact h.keeps.block b hb hM
    · rcases (h.base _ _ _ _ hi hbl).1 with g | g
      · omega
      · exact hM g

/-! Objects that are written no more. -/

def frzL (conc : Conc) (F : List Nat) : Conc := ⟨fun id => match conc id with
  | some (cv, c, ow) => some (cv, c, ow && !F.contains id)
  | none => none, conc.B, conc.yl⟩

theorem frzL_le (conc : Conc) (F : List Nat) : CLe conc (frzL conc F) := by
  refine ⟨rfl, ?_⟩
  intro id cv c ow h
  exact ⟨cv, c, _, by simp [frzL, h]; rfl, .inr ⟨rfl, rfl⟩⟩

theorem frzL_sub (w : World) (conc : Conc) (F : List Nat) : Sub w (okOf conc) (okOf (frzL conc F)) := by
  intro b hb _
  refine ⟨hb.1, fun id cv c hi => ?_⟩
  unfold frzL at hi
  cases hc : conc id with
  | none => simp [hc] at hi
  | some q =>
    obtain ⟨cv', c', ow⟩ := q
    simp [hc] at hi
    obtain ⟨rfl, rfl, rfl, _⟩ := hi
    exact hb.2 id _ _ hc

theorem frzL_own {conc : Conc} {F : List Nat} {id cv : Nat} {c : Value} (h : frzL conc F id = some (cv, c, true)) : conc id = some (cv, c, true) ∧ id ∉ F := by
  unfold frzL at h
  cases hc : conc id with
  | none => simp [hc] at h
  | some q =>
    obtain ⟨cv', c', ow⟩ := q
    simp [hc] at h
    obtain ⟨rfl, rfl, rfl, hF⟩ := h
    exact ⟨rfl, hF⟩

theorem frzL_nil (conc : Conc) : frzL conc [] = conc := by
  obtain ⟨m, B, yl⟩ := conc
  simp only [frzL, Conc.mk.injEq, and_true]
  funext id
  cases m id with
  | none => rfl
  | some q => obtain ⟨cv, c, ow⟩ := q; simp

/-- A frozen object's block is ok. -/
theorem okOf_frz {w0 : Start} {w : World} {conc : Conc} {st : ASt} {a : Act} (h : Mod P w0 conc st a w) {F : List Nat} {id cv b : Nat} {c : Value} (hid : id ∈ F)
    (hc : conc id = some (cv, c, true)) (hb : hasB c b) : okOf (frzL conc F) b := by
  refine ⟨by show conc.B b; rw [h.cB]; exact h.inB hc hb, fun j vj cj hj hbj => ?_⟩
  obtain ⟨h1, h2⟩ := frzL_own hj
  exact h2 (h.inj id j _ _ _ _ b hc h1 hb hbj ▸ hid)

def ids (W : W) : List Nat := W.map (·.1)

def FrzW (P : Program) (conc : Conc) (st : ASt) (w : World) (F : List Nat) (l : W) : Prop :=
  ∀ id cv o, (id, (cv, o)) ∈ l → (∃ o0, Map.get st.heap id = some (cv, o0)) ∧ ∃ c, conc id = some (cv, c, true) ∧ ORel P w (frzL conc F) (okOf (frzL conc F)) c false o

theorem setObjs_append (h : List (Nat × (Nat × AObj))) (l m : W) : setObjs h (l ++ m) = setObjs (setObjs h l) m := by
  induction l generalizing h with
  | nil => rfl
  | cons p l ih => obtain ⟨id, o⟩ := p; simp only [List.cons_append, setObjs, ih]

theorem get_setObjs (h : List (Nat × (Nat × AObj))) (l : W) (id : Nat) :
    (Map.get (setObjs h l) id = Map.get h id ∧ id ∉ ids l) ∨ ∃ o, Map.get (setObjs h l) id = some o ∧ (id, o) ∈ l := by
  induction l generalizing h with
  | nil => exact .inl ⟨rfl, by simp [ids]⟩
  | cons p l ih =>
    obtain ⟨j, o⟩ := p
    rcases ih (Map.set h j o) with ⟨h1, h2⟩ | ⟨o', h1, h2⟩
    · simp only [setObjs, h1, Map.get_set]
      by_cases e : j = id
      · subst e; exact .inr ⟨o, by simp, by simp⟩
      · refine .inl ⟨by simp [e], ?_⟩
        simp only [ids, List.map_cons, List.mem_cons, not_or]
        exact ⟨fun q => e q.symm, h2⟩
    · exact .inr ⟨o', by simpa [setObjs] using h1, List.mem_cons_of_mem _ h2⟩

theorem Mod.freeze {w0 : Start} {w : World} {conc : Conc} {st : ASt} {a : Act} (h : Mod P w0 conc st a w) {l : W} (hl : FrzW P conc st w (ids l) l) :
    Mod P w0 (frzL conc (ids l)) { st with heap := setObjs st.heap l } a w where
  defers := h.defers
  size := h.size
  marks := h.marks
  slots := fun d sl hd => by
    obtain ⟨v, h1, h2⟩ := h.slots d sl hd
    exact ⟨v, h1, ⟨fun g => ⟨(h2.yes g).1, (h2.yes g).2.mono ⟨Nat.le_refl _, fun _ _ _ => rfl⟩ (frzL_sub w _ _) (frzL_le _ _)⟩, h2.no⟩⟩
  heap := fun id ver o ho => by
    rcases get_setObjs st.heap l id with ⟨h1, h2⟩ | ⟨o', h1, h2⟩
    · simp only [h1] at ho
      obtain ⟨c, ow, g1, g2⟩ := h.heap id ver o ho
      refine ⟨c, ow, ?_, g2.mono ⟨Nat.le_refl _, fun _ _ _ => rfl⟩ (frzL_sub w _ _) (frzL_le _ _) (fun _ _ _ => rfl)⟩
      simp [frzL, g1, h2]
    · simp only [h1, Option.some.injEq] at ho
      subst ho
      obtain ⟨_, c, g1, g2⟩ := hl id ver o h2
      refine ⟨c, false, ?_, g2⟩
      have : id ∈ ids l := List.mem_map.2 ⟨_, h2, rfl⟩
      simp [frzL, g1, this]
  dead := fun id hd => by
    rcases get_setObjs st.heap l id with ⟨h1, h2⟩ | ⟨o', h1, h2⟩
    · simp only [h1] at hd
      simp [frzL, h.dead id hd]
    · simp [h1] at hd
  inj := fun i j vi vj ci cj b hi hj => h.inj i j vi vj ci cj b (frzL_own hi).1 (frzL_own hj).1
  base := fun i vi c b hi => h.base i vi c b (frzL_own hi).1
  keeps := h.keeps
  cB := h.cB
  cY := h.cY
  okS := h.okS
  fixed := h.fixed

theorem FrzW.append {conc : Conc} {st : ASt} {w : World} {F : List Nat} {l m : W} (h : FrzW P conc st w F l) (h' : FrzW P conc st w F m) : FrzW P conc st w F (l ++ m) := by
  intro id cv o hm
  rcases List.mem_append.1 hm with hm | hm
  · exact h id cv o hm
  · exact h' id cv o hm

theorem FrzW.nil {conc : Conc} {st : ASt} {w : World} {F : List Nat} : FrzW P conc st w F [] := fun _ _ _ h => by simp at h

theorem ids_append (l m : W) : ids (l ++ m) = ids l ++ ids m := by simp [ids]

end Go.Abs

set_option linter.unusedSimpArgs false
set_option linter.unusedVariables false
namespace Go.Abs
open Go
variable {P : Program}

namespace RM
variable {α β : Type}
theorem run_bind (m : RM α) (k : α → RM β) (st : ASt) : (m.bind k).run st = (m.run st).bind fun x => (k x).run st := by
  induction m with
  | ret b => rfl
  | fail => rfl
  | slot d f ih => simp only [RM.bind, RM.run, ih]
  | obj id f ih => simp only [RM.bind, RM.run, ih]
  | opt γ m f ih => cases m <;> simp [RM.bind, RM.run, ih]

theorem runK_eq {R : Type} (m : RM β) (st : ASt) (K : β → Option R) : m.runK st K = (m.run st).bind K := by
  induction m with
  | ret b => rfl
  | fail => rfl
  | slot d f ih => simp only [RM.runK, RM.run, ih]
  | obj id f ih => simp only [RM.runK, RM.run, ih]
  | opt γ m f ih => cases m <;> simp [RM.runK, RM.run, ih]

theorem bind_some {m : RM α} {k : α → RM β} {st : ASt} {y : β} (h : (m.bind k).run st = some y) : ∃ x, m.run st = some x ∧ (k x).run st = some y := by
  rw [run_bind] at h
  cases hm : m.run st with
  | none => rw [hm] at h; cases h
  | some x => rw [hm] at h; exact ⟨x, rfl, h⟩

theorem opt_some {γ : Type} {m : Option γ} {f : γ → RM β} {st : ASt} {y : β} (h : (RM.opt γ m f).run st = some y) : ∃ x, m = some x ∧ (f x).run st = some y := by
  cases m with
  | none => cases h
  | some x => exact ⟨x, rfl, h⟩

theorem ofOpt_some {m : Option β} {st : ASt} {y : β} (h : (RM.ofOpt m).run st = some y) : m = some y := by
  cases m with
  | none => cases h
  | some x => exact h
end RM

theorem castTy_some {t t' : Ty} {d : t.den} {x : t'.den} (h : castTy d = some x) : ∃ e : t = t', x = e ▸ d := by
  unfold castTy at h
  split at h
  · rename_i e; exact ⟨e, by cases h; rfl⟩
  · cases h

theorem Rep.nilS' {P : Program} {e : Ty} {w : World} {ok : Nat → Prop} : Rep P (.slice e) w ok [.slice none 0 0] [] := ⟨none, 0, rfl, Nat.le_refl _, .inl rfl⟩

theorem coe_same {t t' : Ty} {f : t.den → t'.den} (h : (if h : t = t' then some (fun d => h ▸ d) else none : Option (t.den → t'.den)) = some f) :
    t.sz = t'.sz ∧ t.isPair = t'.isPair ∧ ∀ (P : Program) (w : World) (ok : Nat → Prop) (vs : List Value) (d : t.den), Rep P t w ok vs d → Rep P t' w ok vs (f d) := by
  split at h
  · rename_i e; subst e; cases h; exact ⟨rfl, rfl, fun _ _ _ _ _ h => h⟩
  · cases h

theorem coe_ok : (t t' : Ty) → {f : t.den → t'.den} → coe t t' = some f →
    t.sz = t'.sz ∧ t.isPair = t'.isPair ∧ ∀ (P : Program) (w : World) (ok : Nat → Prop) (vs : List Value) (d : t.den), Rep P t w ok vs d → Rep P t' w ok vs (f d)
  | .slice e, .slice e', f, h => by
    simp only [coe] at h
    split at h
    · rename_i g hg
      cases h
      obtain ⟨h1, _, h3⟩ := coe_ok e e' hg
      refine ⟨rfl, rfl, fun P w ok vs l hr => ?_⟩
      obtain ⟨a, cap, q1, q2, q3⟩ := hr
      refine ⟨a, cap, by rw [q1, List.length_map], by rw [List.length_map]; exact q2, ?_⟩
      rcases q3 with q3 | ⟨b, off, cs, T, fr, q4, q5, q6, q7, q8⟩
      · exact .inl (by rw [q3]; rfl)
      · refine .inr ⟨b, off, cs, T, fr, q4, q5, q6, by rw [List.length_map, ← h1]; exact q7, fun i x hx => ?_⟩
        rw [List.getElem?_map] at hx
        cases hi : (l : List e.den)[i]? with
        | none => rw [hi] at hx; cases hx
        | some y =>
          rw [hi] at hx
          cases hx
          rw [← h1]
          exact h3 P w ok _ y (q8 i y hi)
    · cases h
  | .pair a b, .pair a' b', f, h => by
    simp only [coe] at h
    split at h
    · rename_i g g' hg hg'
      cases h
      obtain ⟨h1, _, h3⟩ := coe_ok a a' hg
      obtain ⟨k1, _, k3⟩ := coe_ok b b' hg'
      refine ⟨by simp [Ty.sz, h1, k1], rfl, fun P w ok vs d hr => ?_⟩
      obtain ⟨x, y⟩ := d
      refine ⟨?_, ?_⟩
      · rw [← h1]; exact h3 P w ok _ x hr.1
      · rw [← h1]; exact k3 P w ok _ y hr.2
    · cases h
  | .sliceN e, .slice e', f, h => by
    simp only [coe] at h
    split at h
    · rename_i he
      subst he
      cases h
      exact ⟨rfl, rfl, fun P w ok vs d hr => hr.2⟩
    · cases h
  | .slice e, .sliceN e', f, h => by
    simp only [coe] at h
    split at h
    · rename_i he
      subst he
      cases h
      exact ⟨rfl, rfl, fun P w ok vs d hr => ⟨fun h => (by cases h), hr⟩⟩
    · cases h
  | .int k, t', f, h => coe_same (by cases t' <;> simpa only [coe] using h)
  | .bool, t', f, h => coe_same (by cases t' <;> simpa only [coe] using h)
  | .str, t', f, h => coe_same (by cases t' <;> simpa only [coe] using h)
  | .unit, t', f, h => coe_same (by cases t' <;> simpa only [coe] using h)
  | .fn1 _ _, t', f, h => coe_same (by cases t' <;> simpa only [coe] using h)
  | .fn2 _ _ _, t', f, h => coe_same (by cases t' <;> simpa only [coe] using h)
  | .seq _, t', f, h => coe_same (by cases t' <;> simpa only [coe] using h)
  | .seq2 _ _, t', f, h => coe_same (by cases t' <;> simpa only [coe] using h)
  | .map _ _, t', f, h => coe_same (by cases t' <;> simpa only [coe] using h)
  | .ptr _, t', f, h => coe_same (by cases t' <;> simpa only [coe] using h)
  | .slice e, .int _, f, h | .slice e, .bool, f, h | .slice e, .str, f, h | .slice e, .unit, f, h | .slice e, .pair _ _, f, h | .slice e, .fn1 _ _, f, h | .slice e, .fn2 _ _ _, f, h | .slice e, .seq _, f, h | .slice e, .seq2 _ _, f, h
  | .slice e, .map _ _, f, h | .slice e, .ptr _, f, h => by cases h
  | .sliceN e, .int _, f, h | .sliceN e, .bool, f, h | .sliceN e, .str, f, h | .sliceN e, .unit, f, h | .sliceN e, .pair _ _, f, h | .sliceN e, .fn1 _ _, f, h | .sliceN e, .fn2 _ _ _, f, h | .sliceN e, .seq _, f, h | .sliceN e, .seq2 _ _, f, h
  | .sliceN e, .map _ _, f, h | .sliceN e, .ptr _, f, h => by cases h
  | .sliceN e, .sliceN e', f, h => coe_same (by simpa only [coe] using h)
  | .pair _ _, .int _, f, h | .pair _ _, .bool, f, h | .pair _ _, .str, f, h | .pair _ _, .unit, f, h | .pair _ _, .slice _, f, h | .pair _ _, .fn1 _ _, f, h | .pair _ _, .fn2 _ _ _, f, h | .pair _ _, .seq _, f, h | .pair _ _, .seq2 _ _, f, h
  | .pair _ _, .map _ _, f, h | .pair _ _, .ptr _, f, h | .pair _ _, .sliceN _, f, h => by cases h

theorem castTo_ok {t t' : Ty} {d : t.den} {x : t'.den} (h : castTo d = some x) : t.sz = t'.sz ∧ t.isPair = t'.isPair ∧ ∀ (P : Program) (w : World) (ok : Nat → Prop) (vs : List Value), Rep P t w ok vs d → Rep P t' w ok vs x := by
  unfold castTo at h
  split at h
  · rename_i e; subst e; cases h; exact ⟨rfl, rfl, fun _ _ _ _ h => h⟩
  · split at h
    · rename_i f hf
      cases h
      obtain ⟨h1, h2, h3⟩ := coe_ok _ _ hf
      exact ⟨h1, h2, fun P w ok vs hr => h3 P w ok vs d hr⟩
    · cases h

/-- Slices as data of another type: element by element. -/
theorem castTo_slice {u e : Ty} {l : List u.den} {x : List e.den} (h : castTo (t := .slice u) (t' := .slice e) l = some x) : u.sz = e.sz ∧ x.length = l.length ∧
    ∀ (i : Nat) (y : e.den), x[i]? = some y → ∃ z, l[i]? = some z ∧ ∀ (P : Program) (w : World) (ok : Nat → Prop) (vs : List Value), Rep P u w ok vs z → Rep P e w ok vs y := by
  unfold castTo at h
  split at h
  · rename_i he
    have hue : u = e := by injection he
    subst hue
    cases h
    exact ⟨rfl, rfl, fun i y hy => ⟨y, hy, fun _ _ _ _ h => h⟩⟩
  · split at h
    · rename_i f hf
      cases h
      simp only [coe] at hf
      split at hf
      · rename_i g hg
        cases hf
        obtain ⟨h1, _, h3⟩ := coe_ok u e hg
        refine ⟨h1, List.length_map .., fun i y hy => ?_⟩
        rw [List.getElem?_map] at hy
        cases hi : l[i]? with
        | none => rw [hi] at hy; cases hy
        | some z => rw [hi] at hy; cases hy; exact ⟨z, rfl, fun P w ok vs hr => h3 P w ok vs z hr⟩
      · cases hf
    · cases h

theorem cond_some {α : Type} {b : Bool} {st : ASt} {m : RM α} {y : α} (h : (bif b then m else .fail).run st = some y) : b = true ∧ m.run st = some y := by
  cases b with
  | false => cases h
  | true => exact ⟨rfl, h⟩

theorem nbeq_true {a b : Nat} (h : Nat.beq a b = true) : a = b := by rw [nbeq] at h; simpa using h

theorem labOk_imp {tmps : Array Value} {L' L : List (Nat × Bool)} (h : labOk L' L = true) (hl : labs tmps L) : labs tmps L' := by
  intro p hp
  unfold labOk at h
  obtain ⟨q, hq, he⟩ := List.any_eq_true.1 (List.all_eq_true.1 h p hp)
  simp only [Bool.and_eq_true] at he
  have e1 := nbeq_true he.1
  have e2 : p.2 = q.2 := by
    have := he.2
    cases hp2 : p.2 <;> cases hq2 : q.2 <;> simp [hp2, hq2] at this ⊢
  rw [e1, e2]
  exact hl q hq

theorem ofConst_rel {w : World} {conc : Conc} {ok : Nat → Prop} {v : Value} {a : AVal} (h : AVal.ofConst v = some a) : VRel P w conc ok a v := by
  unfold AVal.ofConst at h
  split at h
  · cases h; exact ⟨_, rfl, rfl⟩
  · cases h; exact ⟨_, rfl, rfl⟩
  · cases h; exact ⟨_, rfl, rfl⟩
  · cases h; exact rfl
  · cases h; exact trivial
  · cases h

theorem ofConsts_rel {w : World} {conc : Conc} {ok : Nat → Prop} : {vs : List Value} → {l : List AVal} → ofConsts vs = some l → All2 (VRel P w conc ok) l vs
  | [], l, h => by cases h; trivial
  | v :: vs, l, h => by
    simp only [ofConsts] at h
    split at h
    · rename_i a m h1 h2
      cases h
      exact ⟨ofConst_rel h1, ofConsts_rel h2⟩
    · cases h

theorem ofConst_one {v : Value} {a : AVal} (h : AVal.ofConst v = some a) : one v = true := by
  unfold AVal.ofConst at h
  split at h
  · rfl
  · rfl
  · rfl
  · rfl
  · rfl
  · cases h

theorem ofConsts_one : {vs : List Value} → {l : List AVal} → ofConsts vs = some l → ∀ v ∈ vs, one v = true
  | [], l, h => by simp
  | v :: vs, l, h => by
    simp only [ofConsts] at h
    split at h
    · rename_i a m h1 h2
      cases h
      intro u hu
      rcases List.mem_cons.1 hu with rfl | hu
      · exact ofConst_one h1
      · exact ofConsts_one h2 u hu
    · cases h

theorem SofConst_rel {w : World} {conc : Conc} {ok : Nat → Prop} {v : Value} {s : SVal} (h : SVal.ofConst v = some s) : SRel P w conc ok s v := by
  unfold SVal.ofConst at h
  split at h
  · rename_i cs
    cases hc : ofConsts cs.toList with
    | none => rw [hc] at h; cases h
    | some l =>
      rw [hc] at h; cases h
      exact ⟨cs.toList, by simp, ofConsts_one hc, ofConsts_rel hc⟩
  · cases hc : AVal.ofConst v with
    | none => rw [hc] at h; cases h
    | some a => rw [hc] at h; cases h; exact ofConst_rel hc

section
variable {w0 : Start} {w : World} {conc : Conc} {st : ASt} {a : Act}

theorem rd_rel (h : Mod P w0 conc st a w) {L : List (Nat × Bool)} (hl : labs a.tmps L) {x : Operand} {s : SVal} (hr : (rd L x).run st = some s) :
    SRel P w conc (okOf conc) s (a.eval x) := by
  cases x with
  | tmp t =>
    simp only [rd, RM.run] at hr
    cases hs : Map.get st.slots t with
    | none => rw [hs] at hr; cases hr
    | some sl =>
      rw [hs] at hr
      obtain ⟨h1, h2⟩ := cond_some hr
      cases h2
      obtain ⟨v, g1, g2⟩ := h.slots t sl hs
      have : a.eval (.tmp t) = v := by simp [Act.eval, g1]
      rw [this]
      exact (g2.yes (labOk_imp h1 hl)).2
  | const v => exact SofConst_rel (RM.ofOpt_some hr)
  | func f => cases hr; exact rfl
  | global g => cases hr

theorem rdA_rel (h : Mod P w0 conc st a w) {L : List (Nat × Bool)} (hl : labs a.tmps L) {x : Operand} {b : AVal} (hr : (rdA L x).run st = some b) :
    VRel P w conc (okOf conc) b (a.eval x) := by
  obtain ⟨s, h1, h2⟩ := RM.bind_some hr
  have := rd_rel h hl h1
  cases s with
  | v c => cases h2; exact this
  | comp l => cases h2
  | tup l => cases h2

theorem rdS_rel (h : Mod P w0 conc st a w) {L : List (Nat × Bool)} (hl : labs a.tmps L) : {xs : List Operand} → {l : List SVal} → (rdS L xs).run st = some l →
    All2 (SRel P w conc (okOf conc)) l (xs.map a.eval)
  | [], l, hr => by cases hr; trivial
  | x :: xs, l, hr => by
    obtain ⟨s, h1, h2⟩ := RM.bind_some hr
    obtain ⟨m, h3, h4⟩ := RM.bind_some h2
    cases h4
    exact ⟨rd_rel h hl h1, rdS_rel h hl h3⟩

/-- What is known of an object. -/
theorem obj_rel (h : Mod P w0 conc st a w) {id cv : Nat} {o : AObj} (ho : Map.get st.heap id = some (cv, o)) :
    ∃ c ow, conc id = some (cv, c, ow) ∧ ORel P w conc (okOf conc) c ow o := h.heap id cv o ho

/-- A piece of data, if the objects of F are written no more. -/
def Peeked (P : Program) (conc : Conc) (st : ASt) (w : World) (t : Ty) (d : t.den) (vs : List Value) (l : W) : Prop :=
  ∀ F, (∀ id ∈ ids l, id ∈ F) → FrzW P conc st w F l ∧ Rep P t w (okOf (frzL conc F)) vs d

theorem Rep.frz {t : Ty} {d : t.den} {vs : List Value} (h : Rep P t w (okOf conc) vs d) (F : List Nat) : Rep P t w (okOf (frzL conc F)) vs d :=
  h.mono t ⟨Nat.le_refl _, fun _ _ _ => rfl⟩ (frzL_sub w conc F)

theorem Rep.nilS {e : Ty} {ok : Nat → Prop} : Rep P (.slice e) w ok [.slice none 0 0] ([] : List e.den) :=
  ⟨none, 0, rfl, Nat.le_refl _, .inl rfl⟩

/-- A buffer that is written no more. -/
theorem buf_frz (h : Mod P w0 conc st a w) {id cv : Nat} {e : Ty} {l : List e.den} {c : Value} {ow : Bool} (hc : conc id = some (cv, c, ow)) (ho : ORel P w conc (okOf conc) c ow (.buf e l))
    {F : List Nat} (hF : id ∈ F) : ow = true ∧ Rep P (.slice e) w (okOf (frzL conc F)) [c] l := by
  obtain ⟨rfl, ho⟩ := ho
  refine ⟨rfl, ?_⟩
  rcases ho with ⟨rfl, rfl⟩ | ⟨b, off, cap, cs, T, rfl, h2, h3, h4, h5, h6⟩
  · exact Rep.nilS
  · refine ⟨some ⟨b, off, none⟩, cap, rfl, h3, .inr ⟨b, off, cs, T, (0, 0), rfl, okOf_frz h hF hc rfl, h2, ?_, fun i x hi => ?_⟩⟩
    · exact Nat.le_trans (Nat.add_le_add_left (Nat.mul_le_mul_right _ h3) _) h5
    · exact (h6 i x hi).frz F

theorem map_frz (h : Mod P w0 conc st a w) {id cv : Nat} {k u : Ty} {l : List (k.den × u.den)} {c : Value} {ow : Bool} (hc : conc id = some (cv, c, ow)) (ho : ORel P w conc (okOf conc) c ow (.map k u l))
    {F : List Nat} (hF : id ∈ F) : ow = true ∧ Rep P (.map k u) w (okOf (frzL conc F)) [c] l := by
  obtain ⟨rfl, b, es, clock, rfl, h2, h3, h4⟩ := ho
  refine ⟨rfl, b, es, clock, rfl, okOf_frz h hF hc rfl, h2, h3, fun i x e hi he => ?_⟩
  obtain ⟨⟨ks, g1, g2⟩, us, g3, g4⟩ := h4 i x e hi he
  exact ⟨⟨ks, g1, g2.frz F⟩, us, g3, g4.frz F⟩

theorem fbuf_rep {e : Ty} {l : List e.den} {c : Value} {ow : Bool} (ho : ORel P w conc (okOf conc) c ow (.fbuf e l)) : Rep P (.slice e) w (okOf conc) [c] l := ho.2

end

/-! Contracts. -/

def ArgsRep (P : Program) (w : World) (ok : Nat → Prop) : (ts : List Ty) → List Value → denL ts → Prop
  | [], vs, _ => vs = []
  | [t], vs, x => ∃ cs, vs = [t.val cs] ∧ Rep P t w ok cs x
  | t :: u :: ts, vs, (x, y) => ∃ cs r, vs = t.val cs :: r ∧ Rep P t w ok cs x ∧ ArgsRep P w ok (u :: ts) r y

def PtrRep (P : Program) (w : World) (ok : Nat → Prop) (t : Ty) (v : Value) (d : t.den) : Prop :=
  ∃ b off cs T fr, v = .pointer (some ⟨b, off, none⟩) ∧ ok b ∧ w.heap[b]? = some (.cells cs T fr) ∧ off + t.sz ≤ cs.size ∧ Rep P t w ok (chunk cs.toList off t.sz) d

def CapsRep (P : Program) (w : World) (ok : Nat → Prop) : (ts : List Ty) → List Value → denL ts → Prop
  | [], vs, _ => vs = []
  | [t], vs, x => ∃ v, vs = [v] ∧ PtrRep P w ok t v x
  | t :: u :: ts, vs, (x, y) => ∃ v r, vs = v :: r ∧ PtrRep P w ok t v x ∧ CapsRep P w ok (u :: ts) r y

def ResRep (P : Program) (w : World) (ok : Nat → Prop) : (ts : List Ty) → Value → denL ts → Prop
  | [], v, _ => v = .tuple #[]
  | [t], v, x => ∃ cs, v = t.val cs ∧ Rep P t w ok cs x
  | t :: u :: ts, v, r => ∃ vs, v = .tuple vs.toArray ∧ ArgsRep P w ok (t :: u :: ts) vs r

/-- A slice in a block that no other data lie in. -/
def FreshRep (P : Program) (size : Nat) (w : World) (ok : Nat → Prop) (e : Ty) (v : Value) (l : List e.den) : Prop :=
  (v = .slice none 0 0 ∧ l = []) ∨ ∃ b off cap cs T, v = .slice (some ⟨b, off, none⟩) l.length cap ∧ size ≤ b ∧ w.heap[b]? = some (.cells cs T (0, 0)) ∧ l.length ≤ cap ∧ cap ≤ maxLen ∧
      off + cap * e.sz ≤ cs.size ∧ ∀ i x, l[i]? = some x → Rep P e w (fun b' => ok b' ∧ b' ≠ b) (chunk cs.toList (off + i * e.sz) e.sz) x

/-- The cells of data whose slices lie in blocks of their own: bs. -/
def FreshT (P : Program) (size : Nat) (w : World) (ok : Nat → Prop) : (t : Ty) → List Value → t.den → List Nat → Prop
  | .slice e, vs, l, bs => (vs = [.slice none 0 0] ∧ l = [] ∧ bs = []) ∨ ∃ b off cap cs T, vs = [.slice (some ⟨b, off, none⟩) l.length cap] ∧ bs = [b] ∧ size ≤ b ∧ w.heap[b]? = some (.cells cs T (0, 0)) ∧ l.length ≤ cap ∧ cap ≤ maxLen ∧
      off + cap * e.sz ≤ cs.size ∧ ∀ i x, l[i]? = some x → Rep P e w ok (chunk cs.toList (off + i * e.sz) e.sz) x
  | .pair a b, vs, (x, y), bs => ∃ b1 b2, bs = b1 ++ b2 ∧ FreshT P size w ok a (vs.take a.sz) x b1 ∧ FreshT P size w ok b (vs.drop a.sz) y b2
  | t, vs, d, bs => bs = [] ∧ Rep P t w ok vs d

def FreshP (P : Program) (size : Nat) (w : World) (ok : Nat → Prop) (t : Ty) (v : Value) (d : t.den) : Prop :=
  ∃ vs bs, v = t.val vs ∧ (∀ v ∈ vs, one v = true) ∧ bs.Nodup ∧ vs.length = t.sz ∧ FreshT P size w (fun b => ok b ∧ b ∉ bs) t vs d bs

def FreshC (P : Program) (size : Nat) (w : World) (ok : Nat → Prop) : (ts : List Ty) → Value → denL ts → Prop
  | [.slice e], v, l => FreshRep P size w ok e v l
  | [.pair a b], v, x => FreshP P size w ok (.pair a b) v x
  | _, _, _ => True

def ConOK (P : Program) (f : Nat) (c : Con) : Prop :=
  Bodied P f ∧ ∀ w ok vs cs x y r, ArgsRep P w ok c.ins vs x → CapsRep P w ok c.caps cs y → c.fn x y = some r →
    Calls P f (vs ++ cs).toArray w fun e w' => ∃ v, e = .returned v ∧ Keeps w w' ∧ ResRep P w' (newOk ok w) c.outs v r ∧ (c.fresh = true → FreshC P w.heap.size w' (newOk ok w) c.outs v r)

def zeroVals : Ty → List Value
  | .unit => []
  | .pair a b => zeroVals a ++ zeroVals b
  | .slice _ => [.slice none 0 0]
  | .int k => [.int k 0]
  | .bool => [.bool false]
  | .str => [.string ⟨⟨[]⟩⟩]
  | .fn1 _ _ | .fn2 _ _ _ | .seq _ | .seq2 _ _ => [.nilFunc]
  | .map _ _ => [.map none]
  | .ptr _ => [.pointer none]
  | .sliceN _ => [.slice none 0 0]

/-- What the program says of a type of this make, seen as an element. -/
def ElOK (P : Program) (T : Nat) (t : Ty) : Prop :=
  ∃ i, P.info? T = some i ∧ i.size = t.sz ∧ i.bytes ≤ 32768 ∧ i.zero = some (t.val (zeroVals t)) ∧ 0 < t.sz

/-- Keys that the evaluator knows. -/
def findR (k : Ty) (x : k.den) : List k.den → List MapEntry → Nat → Option (Nat × Value)
  | y :: ys, e :: es, i => bif k.beq y x then some (i, e.val) else findR k x ys es (i + 1)
  | _, _, _ => none

structure KeyOK (P : Program) (K : Nat) (k : Ty) : Prop where
  eqs : k.eqs = true
  chk : ∀ (w : World) ok ks x b, Rep P k w ok ks x → (Instr.checkKey b 10000 K (k.val ks)).run P w = .ok () w
  find : ∀ (w : World) ok ks x (ys : List k.den) (es : List MapEntry), Rep P k w ok ks x → es.length = ys.length → (∀ (i : Nat) y e, ys[i]? = some y → es[i]? = some e → ∃ us, e.key = k.val us ∧ Rep P k w ok us y) →
    (Instr.findKey K (k.val ks) es).run P w = .ok (findR k x ys es 0) w

/-- Whether a type is a struct or an array. -/
def aggB (P : Program) (T : Nat) : Option Bool := (P.underlying T).map fun
  | .struct _ => true
  | .array _ _ => true
  | _ => false

/-- The evaluator's tables are those of the program. -/
structure TyOK (P : Program) (T : Nat) (te : TyE) : Prop where
  info : ElOK P T te.ty
  desc : match te.ty with
    | .int k => P.underlying T = some (.int k)
    | .bool => P.underlying T = some .bool
    | .str => P.underlying T = some .string
    | .slice e => ∃ T', P.underlying T = some (.slice T') ∧ ElOK P T' e
    | .pair _ _ => bif te.arr then ∃ n T' e, P.underlying T = some (.array n T') ∧ te.ty = Ty.arr e n ∧ te.nf = n ∧ ElOK P T' e else ∃ fs, P.underlying T = some (.struct fs) ∧ fs.size = te.nf
    | .map k v => ∃ K V, P.underlying T = some (.map K V) ∧ KeyOK P K k ∧ ElOK P V v
    | .ptr _ => ∃ T', P.underlying T = some (.pointer T')
    | .sliceN _ => False
    | _ => ∃ ps rs v, P.underlying T = some (.func ps rs v)
  fields : ∀ fs, P.underlying T = some (.struct fs) → (∀ i f, fs[i]? = some f → offOf te.nf i te.ty = some f.offset ∧ ∃ inf, P.info? f.type = some inf ∧ inf.size ≠ 0) ∧
    fs.toList.mapM (fun f => (P.info? f.type).map fun i => (f.offset, i.size)) = some (placesOf te.nf te.ty)
  arr : te.arr = true → te.ty.isPair = true
  agg : ∀ fs, P.underlying T = some (.struct fs) → ∀ (i : Nat) (f : Field) (u : Ty), fs[i]? = some f → typAt te.nf i te.ty = some u → aggB P f.type = some u.isPair ∧ ∃ inf, P.info? f.type = some inf ∧ inf.size = u.sz
  bytes : te.ty = .slice (.int .u8) → ∃ T', P.underlying T = some (.slice T') ∧ P.underlying T' = some (.int .u8)

theorem TyOK.pos {P : Program} {T : Nat} {te : TyE} (h : TyOK P T te) : 0 < te.ty.sz := by obtain ⟨_, _, _, _, _, h⟩ := h.info; exact h

theorem TyOK.nounit {P : Program} {T : Nat} {te : TyE} (h : TyOK P T te) : te.ty ≠ .unit := fun e => by have := h.pos; rw [e] at this; cases this

/-- The function f, with its captured variables, yields what c says. -/
def IConOK (P : Program) (f : Nat) (c : ICon) : Prop :=
  c.out.isPair = false ∧ ∀ w ok cs y xs, CapsRep P w ok c.caps cs y → c.fn y = some xs → Rep P c.out w ok [.func (.func f) #[] cs.toArray] xs

/-- A slice of the call's own. -/
def OwnBuf (P : Program) (w : World) (ok : Nat → Prop) (e : Ty) (c : Value) (l : List e.den) : Prop :=
  (c = .slice none 0 0 ∧ l = []) ∨ ∃ b off cap cs T, c = .slice (some ⟨b, off, none⟩) l.length cap ∧ w.heap[b]? = some (.cells cs T (0, 0)) ∧ l.length ≤ cap ∧ cap ≤ maxLen ∧
      off + cap * e.sz ≤ cs.size ∧ ∀ i x, l[i]? = some x → Rep P e w ok (chunk cs.toList (off + i * e.sz) e.sz) x

/-- All is as it was, but for the block of v. -/
structure KeepsBut (v : Value) (w w' : World) : Prop where
  os : w'.os = w.os
  tape : w'.tape = w.tape
  output : w'.output = w.output
  size : w.heap.size ≤ w'.heap.size
  block : ∀ b, b < w.heap.size → ¬ hasB v b → w'.heap[b]? = w.heap[b]?

/-- The function f changes a slice of the caller's own as c says. -/
def MConOK (P : Program) (f : Nat) (c : MCon) : Prop :=
  Bodied P f ∧ ∀ (w : World) (ok : Nat → Prop) v vs (l : List c.el.den) y l', OwnBuf P w ok c.el v l → ArgsRep P w ok c.ins vs y → (∀ b, hasB v b → ¬ ok b) → c.fn l y = some l' →
    Calls P f (v :: vs).toArray w fun e w' => ∃ r, e = .returned r ∧ KeepsBut v w w' ∧
      ((c.back = true ∧ OwnBuf P w' (newOk ok w) c.el r l' ∧ ∀ b, hasB r b → hasB v b) ∨ (c.back = false ∧ r = .tuple #[] ∧ OwnBuf P w' (newOk ok w) c.el v l'))

/-- The cells of a variable, of which some are slices of the caller's own: hs. -/
def OCells (P : Program) (w : World) (ok : Nat → Prop) : (t : Ty) → List Bool → List Value → t.den → List Value → Prop
  | .unit, _, vs, _, hs => vs = [] ∧ hs = []
  | .pair a b, fl, vs, d, hs => ∃ h1 h2, hs = h1 ++ h2 ∧ OCells P w ok a (fl.take a.sz) (vs.take a.sz) d.1 h1 ∧ OCells P w ok b (fl.drop a.sz) (vs.drop a.sz) d.2 h2
  | .slice e, true :: _, vs, d, hs => ∃ c, vs = [c] ∧ hs = [c] ∧ OwnBuf P w ok e c d
  | t, _, vs, d, hs => hs = [] ∧ Rep P t w ok vs d

def OVar (P : Program) (w : World) (ok : Nat → Prop) (t : Ty) (fl : List Bool) (p : Value) (d : t.den) (hs : List Value) : Prop :=
  ∃ b cs T, p = .pointer (some ⟨b, 0, none⟩) ∧ w.heap[b]? = some (.cells cs T (0, 0)) ∧ cs.size = t.sz ∧ (∀ v ∈ cs.toList, one v = true) ∧ OCells P w ok t fl cs.toList d hs ∧
    (p :: hs).Pairwise fun x y => ∀ b, blockOf x = some b → blockOf y ≠ some b

/-- The function f changes a variable of the caller's own as c says. -/
def OConOK (P : Program) (f : Nat) (c : OCon) : Prop :=
  Bodied P f ∧ c.outs.all Ty.flat = true ∧ ∀ (w : World) (ok : Nat → Prop) (p : Value) (d : c.t.den) (hs vs cs : List Value) (x : denL c.ins) (y : denL c.caps) (r : c.t.den × denL c.outs),
    OVar P w ok c.t c.own p d hs → (∀ b, hasB (.tuple (p :: hs).toArray) b → ¬ ok b) → ArgsRep P w ok c.ins vs x → CapsRep P w ok c.caps cs y → c.fn d x y = some r →
    Calls P f (bif c.clo then vs ++ cs ++ [p] else p :: (vs ++ cs)).toArray w fun e w' => ∃ v, e = .returned v ∧ KeepsBut (.tuple (p :: hs).toArray) w w' ∧ ResRep P w' (newOk ok w) c.outs v r.2 ∧
      ∃ hs', OVar P w' (fun b => (newOk ok w b ∨ hasB (.tuple (p :: hs).toArray) b) ∧ ¬ hasB (.tuple (p :: hs').toArray) b) c.t c.own p r.1 hs' ∧ ∀ b, hasB (.tuple (p :: hs').toArray) b → hasB (.tuple (p :: hs).toArray) b ∨ w.heap.size ≤ b

/-- A function that returns the root of a float. -/
def SqrtOK (P : Program) (f : Nat) : Prop := Bodied P f ∧ ∀ w x r, froot x = some r → Calls P f #[.float .f64 x] w fun e w' => e = .returned (.float .f64 r) ∧ Keeps w w'

structure EnvOK (P : Program) (E : Env) : Prop where
  rt : ∀ f, f ∈ E.S → SqrtOK P f
  fl : ∀ T, T ∈ E.D → P.underlying T = some (.float .f64)
  ty : ∀ T te, Map.get E.G T = some te → TyOK P T te
  con : ∀ f c, Map.get E.C f = some c → ConOK P f c
  it : ∀ f c, Map.get E.I f = some c → IConOK P f c
  mu : ∀ f c, Map.get E.M f = some c → MConOK P f c
  oc : ∀ f c, Map.get E.O f = some c → OConOK P f c
  eq : ∀ T t, Map.get E.Q T = some t → ∀ w ok vs vs' d d' r, Rep P t w ok vs d → Rep P t w ok vs' d' → beqTy t d d' = some r → ∀ (x y : Operand),
    (do eqGuard .eql T x y (t.val vs) (t.val vs'); Go.binOp .eql T (t.val vs) (t.val vs')).run P w = .ok (.bool r) w ∧
    (do eqGuard .neq T x y (t.val vs) (t.val vs'); Go.binOp .neq T (t.val vs) (t.val vs')).run P w = .ok (.bool (!r)) w

section
variable {E : Env} {w0 : Start} {w : World} {conc : Conc} {st : ASt} {a : Act}

theorem Calls.imp {f : Nat} {args : Array Value} {R R' : Ending → World → Prop} (h : Calls P f args w R) (hr : ∀ e w', R e w' → R' e w') : Calls P f args w R' := Calls.mono h hr

/-- A function by its contract, as a piece of data. -/
theorem fn1_rep (hE : EnvOK P E) {f : Nat} {c : Con} {x r : Ty} {g : x.den → Option r.den} (hc : Map.get E.C f = some c) (hg : c.fn1? x r = some g) (ok : Nat → Prop) :
    Rep P (.fn1 x r) w ok [.func (.func f) #[] #[]] g := by
  unfold Con.fn1? at hg
  split at hg
  · rename_i a' r' fn fr
    split at hg
    · rename_i e
      obtain ⟨rfl, rfl⟩ := e
      cases hg
      obtain ⟨hb, hcall⟩ := hE.con f _ hc
      refine ⟨f, #[], #[], rfl, hb, fun w' ok' _ _ xs d hd y hy => ?_⟩
      have := hcall w' ok' [a'.val xs] [] d () y ⟨xs, rfl, hd⟩ rfl hy
      refine Calls.mono (by simpa using this) ?_
      rintro e w'' ⟨v, h1, h2, h3, _⟩
      obtain ⟨cs, h4, h5⟩ := h3
      exact ⟨cs, by rw [h1, h4], h2, h5⟩
    · cases hg
  · cases hg

theorem closeL_len {α β γ : Type} (l : List (α × Option β × γ)) (i : Int) (m : β) : (closeL l i m).length = l.length := by
  unfold closeL
  split
  · split <;> simp
  · rfl

theorem closeL_get {α β γ : Type} {l : List (α × Option β × γ)} {i : Int} {m : β} {k : Nat} {x : α × Option β × γ} (h : (closeL l i m)[k]? = some x) :
    ∃ z, l[k]? = some z ∧ x.1 = z.1 ∧ x.2.2 = z.2.2 ∧ ((k : Int) ≠ i → x.2.1 = z.2.1) ∧ ((k : Int) = i → x.2.1 = some m) := by
  unfold closeL at h
  split at h
  · rename_i h0
    split at h
    · rename_i y hy
      have hlt := (List.getElem?_eq_some_iff.1 hy).1
      rw [List.getElem?_set] at h
      by_cases hk : i.toNat = k
      · subst hk
        rw [if_pos rfl, if_pos hlt] at h
        cases h
        exact ⟨y, hy, rfl, rfl, fun hn => absurd (by omega) hn, fun _ => rfl⟩
      · rw [if_neg hk] at h
        exact ⟨x, h, rfl, rfl, fun _ => rfl, fun e => absurd (by omega) hk⟩
    · rename_i hy
      refine ⟨x, h, rfl, rfl, fun _ => rfl, fun e => ?_⟩
      have : i.toNat = k := by omega
      rw [this, h] at hy
      cases hy
  · exact ⟨x, h, rfl, rfl, fun _ => rfl, fun e => by omega⟩

/-- The elements of a buffer with an open field, when it is closed. -/
theorem cbuf_elems (h : Mod P w0 conc st a w) {t u e : Ty} {l : List (t.den × Option (List u.den) × e.den)} {i : Int} {j v id cv : Nat} {c cj : Value} {ow owj : Bool} {lj : List u.den} (g1 : conc id = some (cv, c, ow)) (g2 : ORel P w conc (okOf conc) c ow (.cbuf t u e l i j v))
    (k1 : conc j = some (v, cj, owj)) (k2 : ORel P w conc (okOf conc) cj owj (.buf u lj)) {F : List Nat} (hj : j ∈ F) :
    ow = true ∧ ∃ b off cap cs T, c = .slice (some ⟨b, off, none⟩) l.length cap ∧ w.heap[b]? = some (.cells cs T (0, 0)) ∧ l.length ≤ cap ∧ cap ≤ maxLen ∧ off + cap * (cellTy t u e).sz ≤ cs.size ∧
      ∀ (k : Nat) (x : (cellTy t u e).den), (closeL l i lj)[k]? = some x → Rep P (cellTy t u e) w (okOf (frzL conc F)) (chunk cs.toList (off + k * (cellTy t u e).sz) (cellTy t u e).sz) x := by
  obtain ⟨rfl, b, off, cap, cs, T, h1, h2, h3, h4, h5, h6⟩ := g2
  obtain ⟨_, rj⟩ := buf_frz h k1 k2 hj
  refine ⟨rfl, b, off, cap, cs, T, h1, h2, h3, h4, h5, fun k x hx => ?_⟩
  obtain ⟨z, hz, e1, e2, e3, e4⟩ := closeL_get hx
  obtain ⟨q1, q2, y, q3, q4, q5⟩ := h6 k z hz
  obtain ⟨x1, x2, x3⟩ := x
  dsimp only at e1 e2 e3 e4
  subst e1
  subst e2
  have hy : y = cs.toList[off + k * (cellTy t u e).sz + t.sz]'(by rw [Array.length_toList]; exact (Array.getElem?_eq_some_iff.1 q3).1) := by
    have := (Array.getElem?_eq_some_iff.1 q3).2
    rw [Array.getElem_toList]
    exact this.symm
  have c1 : (chunk cs.toList (off + k * (cellTy t u e).sz) (cellTy t u e).sz).take t.sz = chunk cs.toList (off + k * (cellTy t u e).sz) t.sz := by
    unfold chunk
    rw [List.take_take, Nat.min_eq_left (by simp only [Ty.sz]; omega)]
  have c2 : (chunk cs.toList (off + k * (cellTy t u e).sz) (cellTy t u e).sz).drop t.sz = y :: chunk cs.toList (off + k * (cellTy t u e).sz + t.sz + 1) e.sz := by
    unfold chunk
    rw [List.drop_take, List.drop_drop]
    rw [List.drop_eq_getElem_cons (by rw [Array.length_toList]; exact (Array.getElem?_eq_some_iff.1 q3).1)]
    rw [show (cellTy t u e).sz - t.sz = e.sz + 1 from by simp only [Ty.sz]; omega, List.take_succ_cons, ← hy]
  show Rep P t w _ ((chunk cs.toList (off + k * (cellTy t u e).sz) (cellTy t u e).sz).take t.sz) z.1 ∧ Rep P (.sliceN u) w _ (((chunk cs.toList (off + k * (cellTy t u e).sz) (cellTy t u e).sz).drop t.sz).take 1) x2 ∧ Rep P e w _ (((chunk cs.toList (off + k * (cellTy t u e).sz) (cellTy t u e).sz).drop t.sz).drop 1) z.2.2
  rw [c1, c2]
  refine ⟨q1.frz F, ?_, q2.frz F⟩
  show Rep P (.sliceN u) w _ [y] x2
  by_cases hk : (k : Int) = i
  · rw [e4 hk]
    obtain ⟨cv', c', ow', m1, _, _, m3⟩ := q5 hk
    rw [k1] at m1; cases m1
    rw [m3 rfl]
    exact ⟨fun h => (by cases h), rj⟩
  · rw [e3 hk]
    exact (q4 hk).frz F

theorem cbuf_frz (h : Mod P w0 conc st a w) {t u e : Ty} {l : List (t.den × Option (List u.den) × e.den)} {i : Int} {j v id cv : Nat} {c cj : Value} {ow owj : Bool} {lj : List u.den} (g1 : conc id = some (cv, c, ow)) (g2 : ORel P w conc (okOf conc) c ow (.cbuf t u e l i j v))
    (k1 : conc j = some (v, cj, owj)) (k2 : ORel P w conc (okOf conc) cj owj (.buf u lj)) {F : List Nat} (hid : id ∈ F) (hj : j ∈ F) :
    ow = true ∧ Rep P (.slice (cellTy t u e)) w (okOf (frzL conc F)) [c] (closeL l i lj) := by
  obtain ⟨rfl, b, off, cap, cs, T, h1, h2, h3, h4, h5, h6⟩ := cbuf_elems h g1 g2 k1 k2 hj
  have hok := okOf_frz h hid g1 (b := b) (by rw [h1]; rfl)
  have hlen := closeL_len l i lj
  refine ⟨rfl, _, cap, by rw [h1]; rw [show List.length (α := (cellTy t u e).den) (closeL l i lj) = l.length from hlen], by rw [show List.length (α := (cellTy t u e).den) (closeL l i lj) = l.length from hlen]; exact h3, .inr ⟨b, off, cs, T, _, rfl, hok, h2, ?_, h6⟩⟩
  rw [show List.length (α := (cellTy t u e).den) (closeL l i lj) = l.length from hlen]
  exact Nat.le_trans (Nat.add_le_add_left (Nat.mul_le_mul_right _ h3) _) h5

theorem peekA_spec (hE : EnvOK P E) (h : Mod P w0 conc st a w) {t : Ty} {b : AVal} {v : Value} {d : t.den × W} (hr : (peekA E t b).run st = some d) (hv : VRel P w conc (okOf conc) b v) :
    ∃ vs, v = t.val vs ∧ Peeked P conc st w t d.1 vs d.2 := by
  cases b with
  | pure u x =>
    simp only [peekA] at hr
    split at hr
    · rename_i y hy
      cases hr
      obtain ⟨_, hp, hc⟩ := castTo_ok hy
      obtain ⟨vs, h1, h2⟩ := hv
      exact ⟨vs, by rw [h1]; simp only [Ty.val, hp], fun F _ => ⟨FrzW.nil, hc _ _ _ _ (h2.frz F)⟩⟩
    · cases hr
  | nils =>
    simp only [peekA] at hr
    split at hr
    · cases hr
      exact ⟨[v], rfl, fun F _ => ⟨FrzW.nil, by rw [show v = _ from hv]; exact Rep.nilS⟩⟩
    · cases hr
      exact ⟨[v], rfl, fun F _ => ⟨FrzW.nil, by rw [show v = _ from hv]; exact ⟨fun _ => rfl, Rep.nilS'⟩⟩⟩
    · cases hr
  | hand id ver =>
    simp only [peekA, RM.run] at hr
    split at hr
    · rename_i cv e l ho
      obtain ⟨h1, h2⟩ := cond_some hr
      split at h2
      · rename_i x hx
        cases h2
        obtain ⟨_, hp, hc⟩ := castTo_ok hx
        have := nbeq_true h1
        subst this
        obtain ⟨c, ow, g1, g2⟩ := obj_rel h ho
        obtain ⟨cv', c', ow', k1, k2, _, k3⟩ := hv
        rw [g1] at k1; cases k1
        have hvc := k3 rfl
        subst hvc
        refine ⟨[v], by simp [Ty.val, show t.isPair = false from hp.symm], fun F hF => ?_⟩
        obtain ⟨rfl, r⟩ := buf_frz h g1 g2 (hF id (by simp [ids]))
        refine ⟨?_, hc _ _ _ _ r⟩
        intro i cv' o hm
        simp only [List.mem_singleton, Prod.mk.injEq] at hm
        obtain ⟨rfl, rfl, rfl⟩ := hm
        exact ⟨⟨_, ho⟩, v, g1, rfl, r⟩
      · cases h2
    · rename_i cv e l ho
      obtain ⟨h1, h2⟩ := cond_some hr
      split at h2
      · rename_i x hx
        cases h2
        obtain ⟨_, hp, hc⟩ := castTo_ok hx
        have := nbeq_true h1
        subst this
        obtain ⟨c, ow, g1, g2⟩ := obj_rel h ho
        obtain ⟨cv', c', ow', k1, k2, _, k3⟩ := hv
        rw [g1] at k1; cases k1
        have hvc := k3 rfl
        subst hvc
        exact ⟨[v], by simp [Ty.val, show t.isPair = false from hp.symm], fun F hF => ⟨FrzW.nil, hc _ _ _ _ ((fbuf_rep g2).frz F)⟩⟩
      · cases h2
    · rename_i cv k u l ho
      obtain ⟨h1, h2⟩ := cond_some hr
      split at h2
      · rename_i x hx
        cases h2
        obtain ⟨e', he⟩ := castTy_some hx
        subst e'
        subst he
        have := nbeq_true h1
        subst this
        obtain ⟨c, ow, g1, g2⟩ := obj_rel h ho
        obtain ⟨cv', c', ow', k1, k2, _, k3⟩ := hv
        rw [g1] at k1; cases k1
        have hvc := k3 rfl
        subst hvc
        refine ⟨[v], rfl, fun F hF => ?_⟩
        obtain ⟨rfl, r⟩ := map_frz h g1 g2 (hF id (by simp [ids]))
        refine ⟨?_, r⟩
        intro i cv' o hm
        simp only [List.mem_singleton, Prod.mk.injEq] at hm
        obtain ⟨rfl, rfl, rfl⟩ := hm
        exact ⟨⟨_, ho⟩, v, g1, rfl, r⟩
      · cases h2
    · rename_i cv k u l ho
      obtain ⟨h1, h2⟩ := cond_some hr
      split at h2
      · rename_i x hx
        cases h2
        obtain ⟨e', he⟩ := castTy_some hx
        subst e'
        subst he
        have := nbeq_true h1
        subst this
        obtain ⟨c, ow, g1, g2⟩ := obj_rel h ho
        obtain ⟨cv', c', ow', k1, k2, _, k3⟩ := hv
        rw [g1] at k1; cases k1
        have hvc := k3 rfl
        subst hvc
        exact ⟨[v], rfl, fun F hF => ⟨FrzW.nil, Rep.frz (t := .map k u) g2.2 F⟩⟩
      · cases h2
    · rename_i cv t' u e l i j ver' ho
      obtain ⟨h1, h2⟩ := cond_some hr
      clear hr
      have := nbeq_true h1
      subst this
      simp only [RM.run] at h2
      split at h2
      · rename_i cj u' lj hj
        obtain ⟨h3, h4⟩ := cond_some h2
        clear h2
        have := nbeq_true h3
        subst this
        split at h4
        · rename_i hu
          subst hu
          split at h4
          · rename_i x hx
            cases h4
            obtain ⟨_, hp, hc⟩ := castTo_ok hx
            obtain ⟨c, ow, g1, g2⟩ := obj_rel h ho
            obtain ⟨c2, ow2, k1, k2⟩ := obj_rel h hj
            obtain ⟨cv', c', ow', m1, m2, _, m3⟩ := hv
            rw [g1] at m1; cases m1
            have hvc := m3 rfl
            subst hvc
            refine ⟨[v], by simp [Ty.val, show t.isPair = false from hp.symm], fun F hF => ?_⟩
            have hid : id ∈ F := hF id (by simp [ids])
            have hjF : j ∈ F := hF j (by simp [ids])
            obtain ⟨e1, r⟩ := cbuf_frz h g1 g2 k1 k2 hid hjF
            obtain ⟨e2, r2⟩ := buf_frz h k1 k2 hjF
            subst e1
            subst e2
            refine ⟨?_, hc _ _ _ _ r⟩
            intro i' cv' o hm
            simp only [List.mem_cons, List.not_mem_nil, or_false, Prod.mk.injEq] at hm
            rcases hm with ⟨rfl, rfl, rfl⟩ | ⟨rfl, rfl, rfl⟩
            · exact ⟨⟨_, hj⟩, c2, k1, rfl, r2⟩
            · exact ⟨⟨_, ho⟩, v, g1, rfl, r⟩
          · cases h4
        · cases h4
      · cases h2
    · cases hr
  | fref f =>
    cases t with
    | fn1 x r =>
      simp only [peekA] at hr
      cases hc : Map.get E.C f with
      | none => simp only [hc] at hr; cases hr
      | some c =>
        simp only [hc] at hr
        cases hg : c.fn1? x r with
        | none => simp only [hg] at hr; cases hr
        | some g =>
          simp only [hg] at hr
          cases hr
          exact ⟨[v], rfl, fun F _ => ⟨FrzW.nil, by rw [show v = _ from hv]; exact fn1_rep hE hc hg _⟩⟩
    | _ => simp only [peekA] at hr; cases hr
  | bptr id ver off => cases hr
  | pptr u x => cases hr
  | eptr id ver e i => cases hr
  | epart id ver e i o => cases hr
  | flt x => cases hr
  | nhand id ver =>
    simp only [peekA, RM.run] at hr
    split at hr
    · rename_i cv e l ho
      obtain ⟨h1, h2⟩ := cond_some hr
      split at h2
      · rename_i x hx
        cases h2
        obtain ⟨e', he⟩ := castTy_some hx
        subst e'
        subst he
        have := nbeq_true h1
        subst this
        obtain ⟨c, ow, g1, g2⟩ := obj_rel h ho
        obtain ⟨cv', c', ow', k1, k2, _, k3⟩ := hv
        rw [g1] at k1; cases k1
        obtain ⟨us, hvc⟩ := k3 rfl
        obtain ⟨rfl, v', vs, e2, e3, e4, e5, e6⟩ := g2
        have e7 := hvc.symm.trans e2
        simp at e7
        obtain ⟨rfl, rfl⟩ := e7
        refine ⟨[v], rfl, fun F hF => ?_⟩
        have hidF : id ∈ F := hF id (by simp [ids])
        have inner : ∀ (i : Nat) (li : List e.den), (x : List (List e.den))[i]? = some li → ∃ u, us[i]? = some u ∧ Rep P (.slice e) w (okOf (frzL conc F)) [u] li := by
          intro i li hi
          have hlt : i < us.length := by rw [e3]; exact (List.getElem?_eq_some_iff.1 hi).1
          refine ⟨us[i], List.getElem?_eq_getElem hlt, ?_⟩
          rcases e5 i us[i] li (List.getElem?_eq_getElem hlt) hi with ⟨f1, f2⟩ | ⟨b, off, cap, cs, T, f1, f2, f3, f4, f5, f6⟩
          · rw [f1, f2]; exact Rep.nilS
          · refine ⟨some ⟨b, off, none⟩, cap, by rw [f1], f3, .inr ⟨b, off, cs, T, (0, 0), rfl, okOf_frz h hidF g1 (by rw [hvc]; exact ⟨us[i], by simp, by rw [f1]; rfl⟩), f2, ?_, fun j y hj => (f6 j y hj).frz F⟩⟩
            exact Nat.le_trans (Nat.add_le_add_left (Nat.mul_le_mul_right _ f3) _) f5
        have r : Rep P (.slice (.slice e)) w (okOf (frzL conc F)) [v] x := by
          rcases e4 with ⟨f1, f2⟩ | ⟨b, off, cap, cs, T, f1, f2, f3, f4, f5, f6⟩
          · have : x = [] := List.length_eq_zero_iff.1 (by rw [← e3, f2]; rfl)
            rw [f1, this]; exact Rep.nilS
          · refine ⟨some ⟨b, off, none⟩, cap, by rw [f1, e3], by rw [← e3]; exact f3, .inr ⟨b, off, cs, T, (0, 0), rfl, okOf_frz h hidF g1 (by rw [hvc]; exact ⟨v, by simp, by rw [f1]; rfl⟩), f2, ?_, fun i li hi => ?_⟩⟩
            · show off + List.length x * 1 ≤ cs.size
              rw [← e3]; omega
            · obtain ⟨u, q1, q2⟩ := inner i li hi
              have q3 := f6 i u q1
              rw [← Array.getElem?_toList] at q3
              have q4 : chunk cs.toList (off + i * 1) 1 = [u] := by
                unfold chunk
                obtain ⟨p1, p2⟩ := List.getElem?_eq_some_iff.1 q3
                rw [Nat.mul_one, List.drop_eq_getElem_cons p1, List.take_succ_cons, List.take_zero, p2]
              show Rep P (.slice e) w _ (chunk cs.toList (off + i * 1) 1) li
              rw [q4]; exact q2
        refine ⟨?_, r⟩
        intro i cv' o hm
        simp only [List.mem_singleton, Prod.mk.injEq] at hm
        obtain ⟨rfl, rfl, rfl⟩ := hm
        exact ⟨⟨_, ho⟩, _, g1, rfl, v, us, hvc, r⟩
      · cases h2
    · rename_i cv e l ho
      obtain ⟨h1, h2⟩ := cond_some hr
      split at h2
      · rename_i x hx
        cases h2
        obtain ⟨e', he⟩ := castTy_some hx
        subst e'
        subst he
        have := nbeq_true h1
        subst this
        obtain ⟨c, ow, g1, g2⟩ := obj_rel h ho
        obtain ⟨cv', c', ow', k1, k2, _, k3⟩ := hv
        rw [g1] at k1; cases k1
        obtain ⟨us, hvc⟩ := k3 rfl
        obtain ⟨_, v', vs, e2, e3⟩ := g2
        have e7 := hvc.symm.trans e2
        simp at e7
        obtain ⟨rfl, rfl⟩ := e7
        exact ⟨[v], rfl, fun F hF => ⟨FrzW.nil, e3.frz F⟩⟩
      · cases h2
    · cases hr
  | nptr id ver e i => cases hr
  | nel id ver e i => cases hr
  | nelp id ver e i j => cases hr
  | oclo f t d id ver => cases hr
  | junk => cases hr
  | yld => cases hr

theorem Peeked.pair {t u : Ty} {x : t.den} {y : u.den} {vs us : List Value} {l m : W} (h : Peeked P conc st w t x vs l) (h' : Peeked P conc st w u y us m) (hl : vs.length = t.sz) :
    Peeked P conc st w (.pair t u) (x, y) (vs ++ us) (l ++ m) := by
  intro F hF
  have h1 := h F fun id hi => hF id (by rw [ids_append]; exact List.mem_append_left _ hi)
  have h2 := h' F fun id hi => hF id (by rw [ids_append]; exact List.mem_append_right _ hi)
  refine ⟨h1.1.append h2.1, ?_⟩
  simp only [Rep]
  rw [List.take_left' hl, List.drop_left' hl]
  exact ⟨h1.2, h2.2⟩

theorem Peeked.len {t : Ty} {x : t.den} {vs : List Value} {l : W} (h : Peeked P conc st w t x vs l) : vs.length = t.sz := (h (ids l) fun _ hi => hi).2.len

theorem implode_one (hE : EnvOK P E) (h : Mod P w0 conc st a w) {t : Ty} (ht : t.isPair = false) {b : AVal} {l : List AVal} {vs : List Value} {d : (t.den × W) × List AVal}
    (hr : ((peekA E t b).bind fun x => .ret (x, l)).run st = some d) (hv : All2 (VRel P w conc (okOf conc)) (b :: l) vs) (h1 : ∀ v ∈ vs, one v = true) (hs : t.sz = 1) :
    ∃ us ws, vs = us ++ ws ∧ Peeked P conc st w t d.1.1 us d.1.2 ∧ All2 (VRel P w conc (okOf conc)) d.2 ws := by
  obtain ⟨x, g1, g2⟩ := RM.bind_some hr
  cases g2
  cases vs with
  | nil => exact hv.elim
  | cons v vs =>
    obtain ⟨us, e1, e2⟩ := peekA_spec hE h g1 hv.1
    refine ⟨[v], vs, rfl, ?_, hv.2⟩
    have hlen := e2.len
    rw [hs] at hlen
    match us, hlen with
    | [u], _ =>
      have : v = u := by rw [e1]; simp [Ty.val, ht]
      rw [this]; exact e2

theorem implode_spec (hE : EnvOK P E) (h : Mod P w0 conc st a w) : (t : Ty) → {l : List AVal} → {vs : List Value} → {d : (t.den × W) × List AVal} → (implode E t l).run st = some d →
    All2 (VRel P w conc (okOf conc)) l vs → (∀ v ∈ vs, one v = true) → ∃ us ws, vs = us ++ ws ∧ Peeked P conc st w t d.1.1 us d.1.2 ∧ All2 (VRel P w conc (okOf conc)) d.2 ws
  | .unit, l, vs, d, hr, hv, _ => by
    simp only [implode] at hr
    cases hr
    exact ⟨[], vs, rfl, fun F _ => ⟨FrzW.nil, rfl⟩, hv⟩
  | .pair x y, l, vs, d, hr, hv, h1 => by
    simp only [implode] at hr
    obtain ⟨p, g1, g2⟩ := RM.bind_some hr
    obtain ⟨q, g3, g4⟩ := RM.bind_some g2
    cases g4
    obtain ⟨us, ws, e1, e2, e3⟩ := implode_spec hE h x g1 hv h1
    obtain ⟨us', ws', f1, f2, f3⟩ := implode_spec hE h y g3 e3 fun v hv' => h1 v (by rw [e1]; exact List.mem_append_right _ hv')
    exact ⟨us ++ us', ws', by rw [e1, f1, List.append_assoc], e2.pair f2 e2.len, f3⟩
  | .int k, b :: l, vs, d, hr, hv, h1 => implode_one hE h rfl (by simpa [implode] using hr) hv h1 rfl
  | .bool, b :: l, vs, d, hr, hv, h1 => implode_one hE h rfl (by simpa [implode] using hr) hv h1 rfl
  | .str, b :: l, vs, d, hr, hv, h1 => implode_one hE h rfl (by simpa [implode] using hr) hv h1 rfl
  | .slice e, b :: l, vs, d, hr, hv, h1 => implode_one hE h rfl (by simpa [implode] using hr) hv h1 rfl
  | .fn1 p r, b :: l, vs, d, hr, hv, h1 => implode_one hE h rfl (by simpa [implode] using hr) hv h1 rfl
  | .fn2 p q r, b :: l, vs, d, hr, hv, h1 => implode_one hE h rfl (by simpa [implode] using hr) hv h1 rfl
  | .seq e, b :: l, vs, d, hr, hv, h1 => implode_one hE h rfl (by simpa [implode] using hr) hv h1 rfl
  | .seq2 p q, b :: l, vs, d, hr, hv, h1 => implode_one hE h rfl (by simpa [implode] using hr) hv h1 rfl
  | .map p q, b :: l, vs, d, hr, hv, h1 => implode_one hE h rfl (by simpa [implode] using hr) hv h1 rfl
  | .ptr p, b :: l, vs, d, hr, hv, h1 => implode_one hE h rfl (by simpa [implode] using hr) hv h1 rfl
  | .sliceN p, b :: l, vs, d, hr, hv, h1 => implode_one hE h rfl (by simpa [implode] using hr) hv h1 rfl
  | .int k, [], vs, d, hr, hv, h1 => by simp [implode, RM.run] at hr
  | .bool, [], vs, d, hr, hv, h1 => by simp [implode, RM.run] at hr
  | .str, [], vs, d, hr, hv, h1 => by simp [implode, RM.run] at hr
  | .slice e, [], vs, d, hr, hv, h1 => by simp [implode, RM.run] at hr
  | .fn1 p r, [], vs, d, hr, hv, h1 => by simp [implode, RM.run] at hr
  | .fn2 p q r, [], vs, d, hr, hv, h1 => by simp [implode, RM.run] at hr
  | .seq e, [], vs, d, hr, hv, h1 => by simp [implode, RM.run] at hr
  | .seq2 p q, [], vs, d, hr, hv, h1 => by simp [implode, RM.run] at hr
  | .map p q, [], vs, d, hr, hv, h1 => by simp [implode, RM.run] at hr
  | .ptr p, [], vs, d, hr, hv, h1 => by simp [implode, RM.run] at hr
  | .sliceN p, [], vs, d, hr, hv, h1 => by simp [implode, RM.run] at hr

end

end Go.Abs

set_option linter.unusedSimpArgs false
set_option linter.unusedVariables false
namespace Go.Abs
open Go
variable {P : Program} {E : Env} {w0 : Start} {w : World} {conc : Conc} {st : ASt} {a : Act}

theorem peek_spec (hE : EnvOK P E) (h : Mod P w0 conc st a w) {t : Ty} {s : SVal} {v : Value} {d : t.den × W} (hr : (peek E t s).run st = some d) (hv : SRel P w conc (okOf conc) s v) :
    ∃ vs, v = t.val vs ∧ Peeked P conc st w t d.1 vs d.2 := by
  cases s with
  | v b => exact peekA_spec hE h hr hv
  | comp l =>
    simp only [peek] at hr
    obtain ⟨h1, h2⟩ := cond_some hr
    obtain ⟨x, g1, g2⟩ := RM.bind_some h2
    obtain ⟨vs, e1, e2, e3⟩ := hv
    obtain ⟨us, ws, f1, f2, f3⟩ := implode_spec hE h t g1 e3 e2
    split at g2
    · rename_i hnil
      cases g2
      rw [hnil] at f3
      cases ws with
      | nil => exact ⟨us, by rw [e1, f1, List.append_nil]; simp [Ty.val, h1], f2⟩
      | cons _ _ => exact f3.elim
    · cases g2
  | tup l => cases hr

/-- Read for the time of a call. -/
theorem Peeked.any {t : Ty} {x : t.den} {vs : List Value} {l : W} (h : Peeked P conc st w t x vs l) : Rep P t w (fun _ => True) vs x :=
  (h (ids l) fun _ hi => hi).2.mono t ⟨Nat.le_refl _, fun _ _ _ => rfl⟩ fun _ _ _ => trivial

theorem explode_one {t : Ty} (ht : t.isPair = false) (hs : t.sz = 1) {ok : Nat → Prop} {vs : List Value} {d : t.den} (h : Rep P t w ok vs d) : All2 (VRel P w conc ok) [.pure t d] vs := by
  have hl := h.len
  rw [hs] at hl
  match vs, hl with
  | [v], _ => exact ⟨⟨[v], by simp [Ty.val, ht], h⟩, trivial⟩

theorem explode_rel {ok : Nat → Prop} : (t : Ty) → {vs : List Value} → {d : t.den} → Rep P t w ok vs d → All2 (VRel P w conc ok) (explode t d) vs
  | .unit, vs, d, h => by simp only [Rep] at h; subst h; trivial
  | .pair x y, vs, (d, d'), h => by
    rw [← List.take_append_drop x.sz vs]
    exact (explode_rel x h.1).append (explode_rel y h.2)
  | .int k, vs, d, h => explode_one rfl rfl h
  | .bool, vs, d, h => explode_one rfl rfl h
  | .str, vs, d, h => explode_one rfl rfl h
  | .slice e, vs, d, h => explode_one rfl rfl h
  | .fn1 p r, vs, d, h => explode_one rfl rfl h
  | .fn2 p q r, vs, d, h => explode_one rfl rfl h
  | .seq p, vs, d, h => explode_one rfl rfl h
  | .seq2 p q, vs, d, h => explode_one rfl rfl h
  | .map p q, vs, d, h => explode_one rfl rfl h
  | .ptr p, vs, d, h => explode_one rfl rfl h
  | .sliceN p, vs, d, h => explode_one rfl rfl h

theorem val_cells {t : Ty} {ok : Nat → Prop} {vs : List Value} {d : t.den} (ht : t ≠ .unit) (h : Rep P t w ok vs d) : (t.val vs).cells.toList = vs := by
  by_cases hp : t.isPair = true
  · simp [Ty.val, hp, Value.cells]
  · have hl := h.len
    have h1 := h.ones
    have hs : t.sz = 1 := by cases t <;> first | rfl | exact absurd rfl ht | simp [Ty.isPair] at hp
    rw [hs] at hl
    match vs, hl with
    | [v], _ =>
      have hv := h1 v (by simp)
      simp only [Ty.val, hp, Bool.false_eq_true, if_false, List.headD]
      cases v <;> first | rfl | cases hv

theorem one_cells {v : Value} (h : one v = true) : v.cells.toList = [v] := by cases v <;> first | rfl | cases h

/-- Neither data nor nothing. -/
def AVal.ref : AVal → Bool
  | .pure _ _ | .junk => false
  | _ => true

theorem vrel_one {ok : Nat → Prop} {b : AVal} {v : Value} (h : VRel P w conc ok b v) (hb : b.ref = true) : one v = true := by
  cases b with
  | pure t d => cases hb
  | junk => cases hb
  | nils => rw [show v = _ from h]; rfl
  | bptr id ver off => obtain ⟨_, _, _, _, _, h, _⟩ := h; exact h
  | pptr t d => obtain ⟨_, _, _, _, _, h, _⟩ := h; rw [h]; rfl
  | eptr id ver e i => obtain ⟨_, _, _, _, _, h, _⟩ := h; exact h
  | epart id ver e i o => obtain ⟨_, _, _, _, _, h, _⟩ := h; exact h
  | hand id ver => obtain ⟨_, _, _, _, _, h, _⟩ := h; exact h
  | fref f => rw [show v = _ from h]; rfl
  | flt x => rw [show v = _ from h]; rfl
  | nhand id ver => obtain ⟨_, _, _, _, _, h, _⟩ := h; exact h
  | nptr id ver e i => obtain ⟨_, _, _, _, _, h, _⟩ := h; exact h
  | nel id ver e i => obtain ⟨_, _, _, _, _, h, _⟩ := h; exact h
  | nelp id ver e i j => obtain ⟨_, _, _, _, _, h, _⟩ := h; exact h
  | oclo f t d id ver => obtain ⟨_, _, _, _, _, _, _, h, _⟩ := h; rw [h]; rfl
  | yld => rw [show v = _ from h]; rfl

theorem cells_spec {s : SVal} {v : Value} {l : List AVal} {ok : Nat → Prop} (hr : s.cells.run st = some l) (hv : SRel P w conc ok s v) :
    ∃ vs, v.cells.toList = vs ∧ (∀ u ∈ vs, one u = true) ∧ All2 (VRel P w conc ok) l vs := by
  cases s with
  | v b =>
    by_cases hb : b.ref = true
    · have h1 := vrel_one hv hb
      have : l = [b] := by
        cases b <;> first | (cases hb; done) | (simp only [SVal.cells, RM.run] at hr; cases hr; rfl)
      subst this
      exact ⟨[v], one_cells h1, by simpa using h1, hv, trivial⟩
    · cases b with
      | pure t d =>
        simp only [SVal.cells] at hr
        obtain ⟨vs, e1, e2⟩ := hv
        cases hu : t.isUnit with
        | true => rw [hu] at hr; cases hr
        | false =>
          rw [hu] at hr
          cases hr
          exact ⟨vs, by rw [e1]; exact val_cells (fun e => by subst e; cases hu) e2, e2.ones, explode_rel t e2⟩
      | junk => cases hr
      | _ => exact absurd rfl hb
  | comp m =>
    cases hr
    obtain ⟨vs, e1, e2, e3⟩ := hv
    exact ⟨vs, by rw [e1]; rfl, e2, e3⟩
  | tup m => cases hr

end Go.Abs

set_option linter.unusedSimpArgs false
set_option linter.unusedVariables false
namespace Go.Abs
open Go
variable {P : Program} {E : Env} {w0 : Start} {w : World} {conc : Conc} {st : ASt} {a : Act}

theorem addr_add (b off n : Nat) : (⟨b, off, none⟩ : Addr).add n = ⟨b, off + n, none⟩ := by
  unfold Addr.add
  split
  · rename_i h; rw [h]; rfl
  · rfl

theorem run_sz {T : Nat} {te : TyE} (h : TyOK P T te) : (sizeOf T).run P w = .ok te.ty.sz w := by
  obtain ⟨i, h1, h2, _⟩ := h.info
  simp [sizeOf, typeInfo, h1, h2]

theorem run_agg {T : Nat} {te : TyE} (h : TyOK P T te) (hu : te.ty ≠ .unit) : (isAgg T).run P w = .ok te.ty.isPair w := by
  have hd := h.desc
  unfold isAgg
  rw [Sem.run_bind]
  cases ht : te.ty <;> rw [ht] at hd hu <;> dsimp only at hd
  · rw [run_underlying hd w]; rfl
  · rw [run_underlying hd w]; rfl
  · rw [run_underlying hd w]; rfl
  · exact absurd rfl hu
  · obtain ⟨T', hd, _⟩ := hd; rw [run_underlying hd w]; rfl
  · cases ha : te.arr <;> rw [ha] at hd <;> dsimp only [cond] at hd
    · obtain ⟨fs, hd, _⟩ := hd; rw [run_underlying hd w]; rfl
    · obtain ⟨n, T', e, hd, _⟩ := hd; rw [run_underlying hd w]; rfl
  · obtain ⟨ps, rs, v, hd⟩ := hd; rw [run_underlying hd w]; rfl
  · obtain ⟨ps, rs, v, hd⟩ := hd; rw [run_underlying hd w]; rfl
  · obtain ⟨ps, rs, v, hd⟩ := hd; rw [run_underlying hd w]; rfl
  · obtain ⟨ps, rs, v, hd⟩ := hd; rw [run_underlying hd w]; rfl
  · obtain ⟨K, V, hd, _⟩ := hd; rw [run_underlying hd w]; rfl
  · obtain ⟨T', hd⟩ := hd; rw [run_underlying hd w]; rfl

theorem sz_one {t : Ty} (hp : t.isPair = false) (hu : t ≠ .unit) : t.sz = 1 := by
  cases t <;> first | rfl | exact absurd rfl hu | cases hp

theorem chunk_one {l : List Value} {off : Nat} (h : off < l.length) : chunk l off 1 = [l[off]] := by
  unfold chunk
  rw [List.drop_eq_getElem_cons h]; rfl

theorem chunk_length {l : List Value} {off n : Nat} (h : off + n ≤ l.length) : (chunk l off n).length = n := by
  unfold chunk
  rw [List.length_take, List.length_drop]; omega

theorem chunk_get {l : List Value} {off n j : Nat} {v : Value} (h : (chunk l off n)[j]? = some v) : j < n ∧ l[off + j]? = some v := by
  unfold chunk at h
  rw [List.getElem?_take] at h
  split at h
  · rename_i hj
    rw [List.getElem?_drop] at h
    exact ⟨hj, h⟩
  · cases h

/-- Part of a block, loaded. -/
theorem run_loadVar {T : Nat} {te : TyE} (h : TyOK P T te) (hu : te.ty ≠ .unit) {b off : Nat} {cs : Array Value} {U : Nat} {fr : Nat × Nat} (hb : w.heap[b]? = some (.cells cs U fr))
    (hs : off + te.ty.sz ≤ cs.size) : (loadVar T ⟨b, off, none⟩).run P w = .ok (te.ty.val (chunk cs.toList off te.ty.sz)) w := by
  unfold loadVar
  rw [Sem.run_bind, run_agg h hu]
  simp only [Result.andThen_ok]
  by_cases hp : te.ty.isPair = true
  · rw [if_pos hp, Sem.run_bind, run_sz h]
    simp only [Result.andThen_ok]
    have hl : (chunk cs.toList off te.ty.sz).length = te.ty.sz := chunk_length (by simpa using hs)
    have := run_loadCells_list (P := P) w ⟨b, off, none⟩ (chunk cs.toList off te.ty.sz) fun j v hj => by
      obtain ⟨h1, h2⟩ := chunk_get hj
      rw [addr_add, cell_of_row w b (off + j) cs U fr hb]
      simpa using h2
    rw [hl] at this
    rw [Sem.run_bind, this]
    simp [Ty.val, hp]
  · have hp' : te.ty.isPair = false := by simpa using hp
    have h1 := sz_one hp' hu
    rw [h1] at hs
    have hs' : off < cs.size := by omega
    rw [if_neg hp, run_load, cell_of_row w b off cs U fr hb, h1, chunk_one (by simpa using hs')]
    have : cs[off]? = some (cs.toList[off]'(by simpa using hs')) := by
      rw [Array.getElem?_eq_getElem (by omega)]; simp
    rw [this]
    simp [Ty.val, hp']

theorem labs_nil (t : Array Value) : labs t [] := fun _ h => by simp at h

theorem ite_some {α : Type} {c : Prop} [Decidable c] {m : RM α} {y : α} (h : (if c then m else .fail).run st = some y) : c ∧ m.run st = some y := by
  split at h
  · rename_i hc; exact ⟨hc, h⟩
  · cases h

theorem part_true {α : Type} (m : Option α) (d : α) : part true m d = m := rfl

theorem mk_toList (x : List UInt8) : (ByteArray.mk ⟨x⟩).toList = x := ByteArray.toList_mk x

/-- Int operands. -/
theorem rep_int {k : IntKind} {ok : Nat → Prop} {vs : List Value} {x : Int} {v : Value} (hv : v = (Ty.int k).val vs) (h : Rep P (.int k) w ok vs x) : v = .int k x := by
  simp only [Rep] at h
  subst h
  rw [hv]; rfl
theorem rep_str {ok : Nat → Prop} {vs : List Value} {x : List UInt8} {v : Value} (hv : v = Ty.str.val vs) (h : Rep P .str w ok vs x) : v = .string ⟨⟨x⟩⟩ := by
  simp only [Rep] at h
  subst h
  rw [hv]; rfl
theorem rep_bool {ok : Nat → Prop} {vs : List Value} {x : Bool} {v : Value} (hv : v = Ty.bool.val vs) (h : Rep P .bool w ok vs x) : v = .bool x := by
  simp only [Rep] at h
  subst h
  rw [hv]; rfl

theorem vrel_int {k : IntKind} {ok : Nat → Prop} (n : Int) : VRel P w conc ok (.pure (.int k) n) (.int k n) := ⟨[.int k n], rfl, rfl⟩
theorem vrel_bool {ok : Nat → Prop} (n : Bool) : VRel P w conc ok (.pure .bool n) (.bool n) := ⟨[.bool n], rfl, rfl⟩
theorem vrel_str {ok : Nat → Prop} (s : List UInt8) : VRel P w conc ok (.pure .str s) (.string ⟨⟨s⟩⟩) := ⟨[.string ⟨⟨s⟩⟩], rfl, rfl⟩

theorem intOp_sound {op : BinOp} {k : IntKind} {x y : Int} {r : AVal} {T : Nat} {ok : Nat → Prop} (X Y : Operand) (hr : (intOp true op k x y).run st = some r) :
    ∃ v, (do eqGuard op T X Y (.int k x) (.int k y); Go.binOp op T (.int k x) (.int k y)).run P w = .ok v w ∧ VRel P w conc ok r v := by
  cases op <;> simp only [intOp] at hr
  case quo =>
    obtain ⟨q, h1, h2⟩ := RM.opt_some hr
    cases h2
    rw [part_true, qdiv] at h1
    split at h1
    · cases h1
    · rename_i hy
      cases h1
      exact ⟨_, by simp [eqGuard, Go.binOp, Op.intDiv, hy], vrel_int _⟩
  case rem =>
    obtain ⟨q, h1, h2⟩ := RM.opt_some hr
    cases h2
    rw [part_true, qrem] at h1
    split at h1
    · cases h1
    · rename_i hy
      cases h1
      exact ⟨_, by simp [eqGuard, Go.binOp, Op.intDiv, hy], vrel_int _⟩
  all_goals cases hr
  case and => exact ⟨_, by simp [eqGuard, Go.binOp, Op.intBits, bandI], vrel_int _⟩
  case or => exact ⟨_, by simp [eqGuard, Go.binOp, Op.intBits, borI], vrel_int _⟩
  case xor => exact ⟨_, by simp [eqGuard, Go.binOp, Op.intBits, bxorI], vrel_int _⟩
  case add => exact ⟨_, by simp [eqGuard, Go.binOp, Op.intArith], vrel_int _⟩
  case sub => exact ⟨_, by simp [eqGuard, Go.binOp, Op.intArith], vrel_int _⟩
  case mul => exact ⟨_, by simp [eqGuard, Go.binOp, Op.intArith], vrel_int _⟩
  all_goals exact ⟨.bool _, by simp only [eqGuard, Go.binOp, Op.intCmp, ne_eq, not_true_eq_false, if_false]; rfl, vrel_bool _⟩

theorem shiftOp_sound {op : BinOp} {k k' : IntKind} {x y : Int} {r : AVal} {T : Nat} {ok : Nat → Prop} (X Y : Operand) (hr : (shiftOp true op k x y).run st = some r) :
    ∃ v, (do eqGuard op T X Y (.int k x) (.int k' y); Go.binOp op T (.int k x) (.int k' y)).run P w = .ok v w ∧ VRel P w conc ok r v := by
  cases op <;> simp only [shiftOp] at hr
  case shl =>
    obtain ⟨q, h1, h2⟩ := RM.opt_some hr
    cases h2
    rw [part_true, shlI] at h1
    split at h1
    · cases h1
    · rename_i hy
      cases h1
      exact ⟨_, by simp [eqGuard, Go.binOp, Op.shift, hy], vrel_int _⟩
  case shr =>
    obtain ⟨q, h1, h2⟩ := RM.opt_some hr
    cases h2
    rw [part_true, shrI] at h1
    split at h1
    · cases h1
    · rename_i hy
      cases h1
      exact ⟨_, by simp [eqGuard, Go.binOp, Op.shift, hy], vrel_int _⟩
  all_goals cases hr

theorem strOp_sound {op : BinOp} {x y : List UInt8} {r : AVal} {T : Nat} {ok : Nat → Prop} (X Y : Operand) (hr : (strOp true op x y).run st = some r) :
    ∃ v, (do eqGuard op T X Y (.string ⟨⟨x⟩⟩) (.string ⟨⟨y⟩⟩); Go.binOp op T (.string ⟨⟨x⟩⟩) (.string ⟨⟨y⟩⟩)).run P w = .ok v w ∧ VRel P w conc ok r v := by
  cases op <;> simp only [strOp] at hr
  case add =>
    obtain ⟨q, h1, h2⟩ := RM.opt_some hr
    cases h2
    rw [part_true, chk] at h1
    split at h1
    · rename_i hm
      unfold most at hm
      refine ⟨.string ⟨⟨x ++ y⟩⟩, ?_, vrel_str _⟩
      have hsz : ¬ ((((⟨⟨x⟩⟩ : ByteArray).size + (⟨⟨y⟩⟩ : ByteArray).size : Nat) : Int) > IntKind.i64.max) := by
        have e : IntKind.i64.max = 9223372036854775807 := by decide
        rw [e]
        simp only [ByteArray.size, List.size_toArray]
        omega
      have e2 : (⟨⟨x⟩⟩ : ByteArray) ++ ⟨⟨y⟩⟩ = ⟨⟨x ++ y⟩⟩ := by
        apply ByteArray.ext
        simp
      simp only [eqGuard, Go.binOp, Op.stringOp, hsz, e2, if_false]
      rfl
    · cases h1
  all_goals first | (cases hr; done) | skip
  all_goals cases hr
  all_goals exact ⟨.bool _, by simp only [eqGuard, Go.binOp, Op.stringOp, mk_toList]; rfl, vrel_bool _⟩


theorem run_equal_bool {T : Nat} (hu : P.underlying T = some .bool) (x y : Bool) : (Op.equal T (.bool x) (.bool y)).run P w = .ok (x == y) w := by
  have : ∀ d, (Op.equalIn (d + 1) T (.bool x) (.bool y)).run P w = .ok (x == y) w := by
    intro d
    rw [Op.equalIn, Sem.run_bind, run_underlying hu]
    rfl
  exact this 9999

theorem run_binOp_bool {T : Nat} (hu : P.underlying T = some .bool) (x y : Bool) (X Y : Operand) :
    (do eqGuard .eql T X Y (.bool x) (.bool y); Go.binOp .eql T (.bool x) (.bool y)).run P w = .ok (.bool (x == y)) w ∧
    (do eqGuard .neq T X Y (.bool x) (.bool y); Go.binOp .neq T (.bool x) (.bool y)).run P w = .ok (.bool (!(x == y))) w := by
  have h := run_equal_bool (w := w) hu x y
  constructor
  · have : (do eqGuard .eql T X Y (.bool x) (.bool y); Go.binOp .eql T (.bool x) (.bool y)) = (do let b ← Op.equal T (.bool x) (.bool y); pure (.bool b)) := rfl
    rw [this, Sem.run_bind, h]; rfl
  · have : (do eqGuard .neq T X Y (.bool x) (.bool y); Go.binOp .neq T (.bool x) (.bool y)) = (do let b ← Op.equal T (.bool x) (.bool y); pure (.bool (!b))) := rfl
    rw [this, Sem.run_bind, h]; rfl

theorem peek_int (hE : EnvOK P E) (h : Mod P w0 conc st a w) {k : IntKind} {s : SVal} {v : Value} {d : Int × W} (hr : (peek E (.int k) s).run st = some d) (hv : SRel P w conc (okOf conc) s v) : v = .int k d.1 := by
  obtain ⟨vs, h1, h2⟩ := peek_spec hE h hr hv
  exact rep_int h1 h2.any
theorem peek_str (hE : EnvOK P E) (h : Mod P w0 conc st a w) {s : SVal} {v : Value} {d : List UInt8 × W} (hr : (peek E .str s).run st = some d) (hv : SRel P w conc (okOf conc) s v) : v = .string ⟨⟨d.1⟩⟩ := by
  obtain ⟨vs, h1, h2⟩ := peek_spec hE h hr hv
  exact rep_str h1 h2.any

theorem eqOp_sound (hE : EnvOK P E) (h : Mod P w0 conc st a w) {op : BinOp} {t : Ty} {s s' : SVal} {v v' : Value} {r : AVal} (hr : (eqOp E op t s s').run st = some r)
    (hv : SRel P w conc (okOf conc) s v) (hv' : SRel P w conc (okOf conc) s' v') :
    ∃ vs vs' d d' b, v = t.val vs ∧ v' = t.val vs' ∧ Rep P t w (fun _ => True) vs d ∧ Rep P t w (fun _ => True) vs' d' ∧ beqTy t d d' = some b ∧ ((op = .eql ∧ r = .pure .bool b) ∨ (op = .neq ∧ r = .pure .bool (!b))) := by
  unfold eqOp at hr
  obtain ⟨d, g1, g2⟩ := RM.bind_some hr
  obtain ⟨d', g3, g4⟩ := RM.bind_some g2
  obtain ⟨vs, e1, e2⟩ := peek_spec hE h g1 hv
  obtain ⟨vs', e3, e4⟩ := peek_spec hE h g3 hv'
  cases hb : beqTy t d.1 d'.1 with
  | none => simp only [hb] at g4; cases g4
  | some b =>
    simp only [hb] at g4
    refine ⟨vs, vs', d.1, d'.1, b, e1, e3, e2.any, e4.any, hb, ?_⟩
    cases op <;> first | (cases g4; done) | skip
    · cases g4; exact .inl ⟨rfl, rfl⟩
    · cases g4; exact .inr ⟨rfl, rfl⟩

theorem binOp_sound (hE : EnvOK P E) (h : Mod P w0 conc st a w) {op : BinOp} {T : Nat} {s s' : SVal} {v v' : Value} {r : AVal} (X Y : Operand) (hr : (binOp E true op T s s').run st = some r)
    (hv : SRel P w conc (okOf conc) s v) (hv' : SRel P w conc (okOf conc) s' v') :
    ∃ u, (do eqGuard op T X Y v v'; Go.binOp op T v v').run P w = .ok u w ∧ VRel P w conc (okOf conc) r u := by
  unfold binOp at hr
  split at hr
  · rename_i k hT
    cases hsh : isShift op with
    | true =>
      rw [hsh] at hr
      obtain ⟨x, g1, g2⟩ := RM.bind_some hr
      split at g2
      · rename_i k' y
        obtain ⟨vs, e1, e2⟩ := hv'
        rw [peek_int hE h g1 hv, rep_int e1 e2]
        exact shiftOp_sound X Y g2
      · cases g2
    | false =>
      rw [hsh] at hr
      obtain ⟨x, g1, g2⟩ := RM.bind_some hr
      obtain ⟨y, g3, g4⟩ := RM.bind_some g2
      rw [peek_int hE h g1 hv, peek_int hE h g3 hv']
      exact intOp_sound X Y g4
  · obtain ⟨x, g1, g2⟩ := RM.bind_some hr
    obtain ⟨y, g3, g4⟩ := RM.bind_some g2
    rw [peek_str hE h g1 hv, peek_str hE h g3 hv']
    exact strOp_sound X Y g4
  · rename_i hT
    obtain ⟨vs, vs', d, d', b, e1, e2, e3, e4, e5, e6⟩ := eqOp_sound hE h hr hv hv'
    rw [rep_bool e1 e3, rep_bool e2 e4]
    have hu : P.underlying T = some .bool := by
      unfold Env.ty at hT
      cases hg : Map.get E.G T with
      | none => rw [hg] at hT; cases hT
      | some te =>
        rw [hg] at hT
        have := (hE.ty T te hg).desc
        cases te with
        | mk ty nf => simp at hT; subst hT; exact this
    simp only [beqTy, Option.some.injEq] at e5
    subst e5
    rcases e6 with ⟨rfl, rfl⟩ | ⟨rfl, rfl⟩
    · exact ⟨_, (run_binOp_bool hu d d' X Y).1, vrel_bool _⟩
    · exact ⟨_, (run_binOp_bool hu d d' X Y).2, vrel_bool _⟩
  · rename_i p q hT
    cases hq : Map.get E.Q T with
    | none => simp only [hq] at hr; cases hr
    | some t =>
      simp only [hq] at hr
      obtain ⟨rfl, hr'⟩ := ite_some hr
      obtain ⟨vs, vs', d, d', b, e1, e2, e3, e4, e5, e6⟩ := eqOp_sound hE h hr' hv hv'
      obtain ⟨k1, k2⟩ := hE.eq T _ hq w _ vs vs' d d' b e3 e4 e5 X Y
      rw [e1, e2]
      rcases e6 with ⟨rfl, rfl⟩ | ⟨rfl, rfl⟩
      · exact ⟨_, k1, vrel_bool _⟩
      · exact ⟨_, k2, vrel_bool _⟩
  · cases hr

end Go.Abs

set_option linter.unusedSimpArgs false
set_option linter.unusedVariables false
namespace Go.Abs
open Go
variable {P : Program} {E : Env} {w0 : Start} {w : World} {conc : Conc} {st : ASt} {a : Act}

theorem ty_some {T : Nat} {t : Ty} (h : E.ty T = some t) : ∃ te, Map.get E.G T = some te ∧ te.ty = t := by
  unfold Env.ty at h
  cases hg : Map.get E.G T with
  | none => rw [hg] at h; cases h
  | some te => rw [hg] at h; exact ⟨te, rfl, by simpa using h⟩

theorem EnvOK.tyOK (hE : EnvOK P E) {T : Nat} {t : Ty} (h : E.ty T = some t) : ∃ te, te.ty = t ∧ TyOK P T te := by
  obtain ⟨te, h1, h2⟩ := ty_some h
  exact ⟨te, h2, hE.ty T te h1⟩

theorem ofCells_spec {t : Ty} {l : List AVal} {vs : List Value} {s : SVal} {ok : Nat → Prop} (hr : (ofCells t l).run st = some s) (hv : All2 (VRel P w conc ok) l vs) (h1 : ∀ u ∈ vs, one u = true) :
    vs.length = t.sz ∨ t.isPair = false → SRel P w conc ok s (t.val vs) := by
  intro _
  unfold ofCells at hr
  split at hr
  · rename_i c hp
    cases hr
    match vs, hv with
    | [v], ⟨h, _⟩ => simpa [Ty.val, hp, SRel] using h
  · rename_i l' hp
    obtain ⟨_, h2⟩ := cond_some hr
    cases h2
    exact ⟨vs, by simp [Ty.val, hp], h1, hv⟩
  · cases hr

theorem geti_some {α : Type} {l : List α} {i : Int} {x : α} (h : geti l i = some x) : 0 ≤ i ∧ i.toNat < l.length ∧ l[i.toNat]? = some x := by
  unfold geti at h
  split at h
  · rename_i hi
    exact ⟨hi, (List.getElem?_eq_some_iff.1 h).1, h⟩
  · cases h

theorem rep_rel {t : Ty} {d : t.den} {ok : Nat → Prop} {vs : List Value} (h : Rep P t w ok vs d) : SRel P w conc ok (.v (.pure t d)) (t.val vs) := ⟨vs, rfl, h⟩

theorem chunk_chunk {l : List Value} {a n b m : Nat} (h : b + m ≤ n) : chunk (chunk l a n) b m = chunk l (a + b) m := by
  unfold chunk
  rw [List.drop_take, List.take_take, List.drop_drop]
  congr 1
  omega

theorem chunk_take_drop {l : List Value} {off n : Nat} : chunk l off n = (l.drop off).take n := rfl

theorem loadAt_sound (hE : EnvOK P E) (h : Mod P w0 conc st a w) {T : Nat} {t : Ty} (hT : E.ty T = some t) {b : AVal} {v : Value} {s : SVal}
    (hr : (loadOp true t b).run st = some s) (hv : VRel P w conc (okOf conc) b v) : ∃ u, (Instr.loadAt T v).run P w = .ok u w ∧ SRel P w conc (okOf conc) s u := by
  obtain ⟨te, hte, hok⟩ := hE.tyOK hT
  obtain ⟨ty, nf⟩ := te
  dsimp only at hte
  subst hte
  have hpos : 0 < ty.sz := hok.pos
  have key : ∀ {bl off : Nat} {cs : Array Value} {U : Nat} {fr : Nat × Nat}, w.heap[bl]? = some (.cells cs U fr) → off + ty.sz ≤ cs.size →
      (Instr.loadAt T (.pointer (some ⟨bl, off, none⟩))).run P w = .ok (ty.val (chunk cs.toList off ty.sz)) w := by
    intro bl off cs U fr h1 h3
    simp only [Instr.loadAt, Instr.sureAddr, pure_bind]
    exact run_loadVar hok hok.nounit h1 h3
  have cellsKey : ∀ {l : List AVal} {vs : List Value} {off : Nat}, (ofCells ty ((l.drop off).take ty.sz)).run st = some s → All2 (VRel P w conc (okOf conc)) l vs →
      (∀ u ∈ vs, one u = true) → off + ty.sz ≤ vs.length ∧ SRel P w conc (okOf conc) s (ty.val (chunk vs off ty.sz)) := by
    intro l vs off h1 h2 h3
    have h4 : All2 (VRel P w conc (okOf conc)) ((l.drop off).take ty.sz) (chunk vs off ty.sz) := (h2.drop off).take ty.sz
    have h5 : ∀ u ∈ chunk vs off ty.sz, one u = true := fun u hu => h3 u (List.mem_of_mem_drop (List.mem_of_mem_take hu))
    have hl := h2.length
    refine ⟨?_, ?_⟩
    · unfold ofCells at h1
      split at h1
      · rename_i c hp heq
        have hs := sz_one hp hok.nounit
        have : ((l.drop off).take ty.sz).length = 1 := by rw [heq]; rfl
        rw [List.length_take, List.length_drop] at this
        omega
      · obtain ⟨h6, _⟩ := cond_some h1
        have := nbeq_true h6
        rw [List.length_take, List.length_drop] at this
        have := hpos
        omega
      · cases h1
    · exact ofCells_spec h1 h4 h5 (.inl (chunk_length (by
        unfold ofCells at h1
        split at h1
        · rename_i c hp heq
          have hs := sz_one hp hok.nounit
          have : ((l.drop off).take ty.sz).length = 1 := by rw [heq]; rfl
          rw [List.length_take, List.length_drop] at this
          omega
        · obtain ⟨h6, _⟩ := cond_some h1
          have := nbeq_true h6
          rw [List.length_take, List.length_drop] at this
          have := hpos
          omega
        · cases h1)))
  cases b with
  | bptr id ver off =>
    simp only [loadOp, RM.run] at hr
    split at hr
    · rename_i cv u cells ho
      obtain ⟨h1, h2⟩ := cond_some hr
      have := nbeq_true h1
      subst this
      obtain ⟨c, ow, g1, g2⟩ := obj_rel h ho
      obtain ⟨cv', c', ow', k1, k2, _, k3⟩ := hv
      rw [g1] at k1; cases k1
      obtain ⟨bl, e1, e2⟩ := k3 rfl
      obtain ⟨_, bl', cs, U, f1, f2, f3, f4, f5⟩ := g2
      rw [e1] at f1; cases f1
      obtain ⟨q1, q2⟩ := cellsKey h2 f5 f4
      rw [e2]
      exact ⟨_, key f2 (by simpa using q1), q2⟩
    · rename_i cv u d ho
      obtain ⟨h1, h2⟩ := cond_some hr
      have := nbeq_true h1
      subst this
      obtain ⟨c, ow, g1, g2⟩ := obj_rel h ho
      obtain ⟨cv', c', ow', k1, k2, _, k3⟩ := hv
      rw [g1] at k1; cases k1
      obtain ⟨bl, e1, e2⟩ := k3 rfl
      obtain ⟨_, bl', cs, U, fr, f1, f2, f3, f4, f5⟩ := g2
      rw [e1] at f1; cases f1
      rw [e2]
      split at h2
      · rename_i hh
        obtain ⟨hh1, rfl⟩ := hh
        cases h2
        subst hh1
        exact ⟨_, key f3 (by simpa using f4), rep_rel f5⟩
      · obtain ⟨q1, q2⟩ := cellsKey h2 (explode_rel u f5) f5.ones
        have hlen : (chunk cs.toList 0 u.sz).length = u.sz := chunk_length (by simpa using f4)
        rw [hlen] at q1
        rw [chunk_chunk q1, Nat.zero_add] at q2
        exact ⟨_, key f3 (by omega), q2⟩
    · cases hr
  | pptr u d =>
    simp only [loadOp] at hr
    obtain ⟨hh, h2⟩ := ite_some hr
    cases h2
    subst hh
    obtain ⟨bl, off, cs, U, fr, e1, e2, e3, e4, e5⟩ := hv
    rw [e1]
    exact ⟨_, key e3 e4, rep_rel e5⟩
  | eptr id ver u i =>
    simp only [loadOp, RM.run] at hr
    split at hr
    · rename_i cv e l ho
      obtain ⟨h1, h2⟩ := cond_some hr
      have := nbeq_true h1
      subst this
      obtain ⟨⟨hh, hh2⟩, h3⟩ := ite_some h2
      subst hh2
      obtain ⟨x, h4, h5⟩ := RM.opt_some h3
      cases h5
      rw [part_true] at h4
      obtain ⟨i1, i2, i3⟩ := geti_some h4
      obtain ⟨c, ow, g1, g2⟩ := obj_rel h ho
      obtain ⟨cv', c', ow', k1, k2, _, k3⟩ := hv
      rw [g1] at k1; cases k1
      obtain ⟨bl, off, n, cap, e1, e2, e3⟩ := k3 rfl
      obtain ⟨_, ⟨f1, _⟩ | ⟨bl', off', cap', cs, U, f1, f2, f3, f4, f5, f6⟩⟩ := g2
      · rw [f1] at e1; cases e1
      · rw [e1] at f1; cases f1
        rw [e3]
        subst hh
        refine ⟨_, key f2 ?_, rep_rel (f6 i.toNat x i3)⟩
        refine Nat.le_trans ?_ f5
        rw [Nat.add_assoc, ← Nat.succ_mul]
        exact Nat.add_le_add_left (Nat.mul_le_mul_right _ (by omega)) _
    · rename_i cv e l ho
      obtain ⟨h1, h2⟩ := cond_some hr
      have := nbeq_true h1
      subst this
      obtain ⟨⟨hh, hh2⟩, h3⟩ := ite_some h2
      subst hh2
      obtain ⟨x, h4, h5⟩ := RM.opt_some h3
      cases h5
      rw [part_true] at h4
      obtain ⟨i1, i2, i3⟩ := geti_some h4
      obtain ⟨c, ow, g1, g2⟩ := obj_rel h ho
      obtain ⟨cv', c', ow', k1, k2, _, k3⟩ := hv
      rw [g1] at k1; cases k1
      obtain ⟨bl, off, n, cap, e1, e2, e3⟩ := k3 rfl
      obtain ⟨_, ad, cap', f1, f2, f3⟩ := g2
      rcases f3 with f3 | ⟨bl', off, cs, U, fr, f3, f4, f5, f6, f7⟩
      · rw [f3] at i2; simp at i2
      · rw [e1, f3] at f1
        cases f1
        rw [e3]
        subst hh
        have := f7 i.toNat x i3
        refine ⟨_, key f5 ?_, rep_rel this⟩
        refine Nat.le_trans ?_ f6
        rw [Nat.add_assoc, ← Nat.succ_mul]
        exact Nat.add_le_add_left (Nat.mul_le_mul_right _ (by omega)) _
    · cases hr
  | nptr id ver u i =>
    simp only [loadOp, RM.run] at hr
    split at hr
    · rename_i cv e l ho
      obtain ⟨h1, h2⟩ := cond_some hr
      have := nbeq_true h1
      subst this
      obtain ⟨⟨hh, hh2⟩, h3⟩ := ite_some h2
      subst hh2
      obtain ⟨x, h4, h5⟩ := RM.opt_some h3
      cases h5
      rw [part_true] at h4
      obtain ⟨i1, i2, i3⟩ := geti_some h4
      obtain ⟨c, ow, g1, g2⟩ := obj_rel h ho
      obtain ⟨cv', c', ow', k1, k2, _, k3⟩ := hv
      rw [g1] at k1; cases k1
      obtain ⟨bl, off, n, cap, vs', e1, e2, e3⟩ := k3 rfl
      obtain ⟨_, v', vs, q1, q2, q3, q4, _⟩ := g2
      have q1' := e1.symm.trans q1
      simp at q1'
      obtain ⟨rfl, rfl⟩ := q1'
      rcases q3 with ⟨f1, _⟩ | ⟨bl', off', cap', cs, U, f1, f2, f3, f4, f5, f6⟩
      · cases f1
      · cases f1
        rw [e3]
        subst hh
        have hlt : i.toNat < vs'.length := by rw [q2]; exact i2
        have hu : vs'[i.toNat]? = some vs'[i.toNat] := List.getElem?_eq_getElem hlt
        have hc := f6 i.toNat _ hu
        have hch : chunk cs.toList (off + i.toNat) 1 = [vs'[i.toNat]] := by
          have hl : off + i.toNat < cs.toList.length := by
            have := (Array.getElem?_eq_some_iff.1 hc).1
            simpa using this
          unfold chunk
          rw [List.drop_eq_getElem_cons hl]
          have := (Array.getElem?_eq_some_iff.1 hc).2
          simp [this]
        have hone : one vs'[i.toNat] = true := by
          rcases q4 i.toNat _ x hu i3 with ⟨p1, _⟩ | ⟨_, _, _, _, _, p1, _⟩ <;> rw [p1] <;> rfl
        refine ⟨_, key f2 (by simp only [Ty.sz]; omega), ?_⟩
        have hval : (Ty.slice u).val (chunk cs.toList (off + i.toNat) (Ty.slice u).sz) = vs'[i.toNat] := by
          show (Ty.slice u).val (chunk cs.toList (off + i.toNat) 1) = _
          rw [hch]; rfl
        rw [hval]
        exact ⟨_, _, _, g1, Nat.le_refl _, hone, fun _ => ⟨_, vs', e1, e2, hu⟩⟩
    · cases hr
  | nelp id ver u i j =>
    simp only [loadOp, RM.run] at hr
    split at hr
    · rename_i cv e l ho
      obtain ⟨h1, h2⟩ := cond_some hr
      have := nbeq_true h1
      subst this
      obtain ⟨⟨hh, hh2⟩, h3⟩ := ite_some h2
      subst hh2
      obtain ⟨li, h4, h5⟩ := RM.opt_some h3
      obtain ⟨x, h6, h7⟩ := RM.opt_some h5
      cases h7
      rw [part_true] at h4 h6
      obtain ⟨i1, i2, i3⟩ := geti_some h4
      obtain ⟨j1, j2, j3⟩ := geti_some h6
      obtain ⟨c, ow, g1, g2⟩ := obj_rel h ho
      obtain ⟨cv', c', ow', k1, k2, _, k3⟩ := hv
      rw [g1] at k1; cases k1
      obtain ⟨o, vs', bl, off, n, cap, e1, e2, e3, e4, e5⟩ := k3 rfl
      obtain ⟨_, v', vs, q1, q2, q3, q4, _⟩ := g2
      have q1' := e1.symm.trans q1
      simp at q1'
      obtain ⟨rfl, rfl⟩ := q1'
      rcases q4 i.toNat _ li e3 i3 with ⟨p1, _⟩ | ⟨bl', off', cap', cs, U, p1, f2, f3, f4, f5, f6⟩
      · cases p1
      · cases p1
        rw [e5]
        subst hh
        refine ⟨_, key f2 ?_, rep_rel (f6 j.toNat x j3)⟩
        refine Nat.le_trans ?_ f5
        rw [Nat.add_assoc, ← Nat.succ_mul]
        exact Nat.add_le_add_left (Nat.mul_le_mul_right _ (by omega)) _
    · cases hr
  | epart id ver u i o =>
    simp only [loadOp, RM.run] at hr
    split at hr
    · rename_i cv e l ho
      obtain ⟨h1, h2⟩ := cond_some hr
      have := nbeq_true h1
      subst this
      obtain ⟨hh, h3⟩ := ite_some h2
      obtain ⟨x, h4, h5⟩ := RM.opt_some h3
      rw [part_true] at h4
      obtain ⟨i1, i2, i3⟩ := geti_some h4
      obtain ⟨c, ow, g1, g2⟩ := obj_rel h ho
      obtain ⟨cv', c', ow', k1, k2, _, k3⟩ := hv
      rw [g1] at k1; cases k1
      obtain ⟨bl, off, n, cap, e1, e2, e3⟩ := k3 rfl
      obtain ⟨_, ⟨f1, _⟩ | ⟨bl', off', cap', cs, U, f1, f2, f3, f4, f5, f6⟩⟩ := g2
      · rw [f1] at e1; cases e1
      · rw [e1] at f1; cases f1
        rw [e3]
        subst hh
        have hrep := f6 i.toNat x i3
        obtain ⟨q1, q2⟩ := cellsKey h5 (explode_rel u hrep) hrep.ones
        have hfit : off + i.toNat * u.sz + u.sz ≤ cs.size := by
          refine Nat.le_trans ?_ f5
          rw [Nat.add_assoc, ← Nat.succ_mul]
          exact Nat.add_le_add_left (Nat.mul_le_mul_right _ (by omega)) _
        have hlen : (chunk cs.toList (off + i.toNat * u.sz) u.sz).length = u.sz := chunk_length (by simpa using hfit)
        rw [hlen] at q1
        rw [chunk_chunk q1] at q2
        exact ⟨_, key f2 (by omega), q2⟩
    · rename_i cv ta tu te l n j v ho
      obtain ⟨h1, h2⟩ := cond_some hr
      simp only [Bool.and_eq_true] at h1
      have := nbeq_true h1.1
      subst this
      have := nbeq_true h1.2
      subst this
      obtain ⟨hh, h3⟩ := ite_some h2
      obtain ⟨_, h0, h30⟩ := RM.opt_some h3
      have hin : i = n := by
        unfold eqI at h0
        split at h0
        · assumption
        · cases h0
      subst hin
      obtain ⟨x, h4, h5⟩ := RM.opt_some h30
      rw [part_true] at h4
      obtain ⟨i1, i2, i3⟩ := geti_some h4
      cases h5
      obtain ⟨rfl, rfl⟩ := hh
      obtain ⟨c, ow, g1, g2⟩ := obj_rel h ho
      obtain ⟨cv', c', ow', k1, k2, _, k3⟩ := hv
      rw [g1] at k1; cases k1
      obtain ⟨bl, off, n', cap, e1, e2, e3⟩ := k3 rfl
      obtain ⟨_, bl', off', cap', cs, U, f1, f2, f3, f4, f5, f6⟩ := g2
      rw [e1] at f1; cases f1
      rw [e3]
      obtain ⟨_, _, y, q3, _, q5⟩ := f6 i.toNat x i3
      have hlt := (Array.getElem?_eq_some_iff.1 q3).1
      have hch : chunk cs.toList (off + i.toNat * (cellTy ta tu te).sz + ta.sz) 1 = [y] := by
        unfold chunk
        rw [List.drop_eq_getElem_cons (by rw [Array.length_toList]; exact hlt), List.take_succ_cons, List.take_zero, Array.getElem_toList]
        rw [(Array.getElem?_eq_some_iff.1 q3).2]
      refine ⟨_, key f2 (by show _ + 1 ≤ _; omega), ?_⟩
      show SRel P w conc (okOf conc) (.v (.hand j v)) (Ty.val (.slice tu) (chunk cs.toList (off + i.toNat * (cellTy ta tu te).sz + ta.sz) 1))
      rw [hch]
      exact q5 (by omega)
    · cases hr
  | _ => cases hr


theorem offOf_le : (n i : Nat) → (t : Ty) → {o : Nat} → offOf n i t = some o → o ≤ t.sz
  | 1, 0, _, o, h => by simp [offOf] at h; omega
  | n + 2, 0, t, o, h => by cases t <;> simp [offOf] at h; omega
  | n + 2, i + 1, t, o, h => by
    cases t <;> simp only [offOf] at h <;> first | (cases h; done) | skip
    rename_i a b
    cases hb : offOf (n + 1) i b with
    | none => rw [hb] at h; cases h
    | some o' =>
      rw [hb] at h; cases h
      have := offOf_le (n + 1) i b hb
      simp only [Ty.sz]; omega
  | 0, i, t, o, h => by cases t <;> simp [offOf] at h
  | 1, i + 1, t, o, h => by cases t <;> simp [offOf] at h

/-- A field of data, and where it lies. -/
theorem proj_rep {ok : Nat → Prop} : (n i : Nat) → (t : Ty) → {d : t.den} → {u : Ty} → {x : u.den} → {vs : List Value} → proj n i t d = some ⟨u, x⟩ → Rep P t w ok vs d →
    ∃ o, offOf n i t = some o ∧ o + u.sz ≤ t.sz ∧ Rep P u w ok (chunk vs o u.sz) x
  | 1, 0, t, d, u, x, vs, h, hr => by
    simp only [proj, Option.some.injEq, Sigma.mk.injEq] at h
    obtain ⟨rfl, h⟩ := h
    cases h
    refine ⟨0, rfl, by omega, ?_⟩
    have := hr.len
    unfold chunk
    rw [List.drop_zero, List.take_of_length_le (by omega)]; exact hr
  | n + 2, 0, t, d, u, x, vs, h, hr => by
    cases t <;> simp only [proj] at h <;> first | (cases h; done) | skip
    rename_i a b
    simp only [Option.some.injEq, Sigma.mk.injEq] at h
    obtain ⟨rfl, h⟩ := h
    cases h
    refine ⟨0, rfl, by simp [Ty.sz], ?_⟩
    exact hr.1
  | n + 2, i + 1, t, d, u, x, vs, h, hr => by
    cases t <;> simp only [proj] at h <;> first | (cases h; done) | skip
    rename_i a b
    obtain ⟨o, h1, h2, h3⟩ := proj_rep (n + 1) i b h hr.2
    refine ⟨a.sz + o, by simp [offOf, h1], by simp only [Ty.sz]; omega, ?_⟩
    unfold chunk at h3 ⊢
    rwa [List.drop_drop] at h3
  | 0, i, t, d, u, x, vs, h, hr => by cases t <;> simp [proj] at h
  | 1, i + 1, t, d, u, x, vs, h, hr => by cases t <;> simp [proj] at h

theorem offOf_lt : ∀ n i t o, offOf n i t = some o → i < n := by
  intro n
  induction n with
  | zero => intro i t o h; cases t <;> simp [offOf] at h
  | succ n ih =>
    intro i t o h
    cases n with
    | zero => cases i with
      | zero => omega
      | succ i => cases t <;> simp [offOf] at h
    | succ n =>
      cases i with
      | zero => omega
      | succ i =>
        cases t <;> simp only [offOf] at h <;> first | (cases h; done) | skip
        rename_i a b
        cases hb : offOf (n + 1) i b with
        | none => rw [hb] at h; cases h
        | some o' => have := ih i b o' hb; omega

theorem offOf_arr (e : Ty) : ∀ (n i : Nat), i < n → offOf n i (Ty.arr e n) = some (i * e.sz)
  | 0, i, h => by omega
  | 1, i, h => by
    have : i = 0 := by omega
    subst this
    simp [offOf]
  | n + 2, 0, _ => by simp [Ty.arr, offOf]
  | n + 2, i + 1, h => by
    have := offOf_arr e (n + 1) i (by omega)
    simp only [Ty.arr, offOf, this, Option.some.injEq]
    rw [Nat.succ_mul]; omega

theorem run_fieldAt {T : Nat} {te : TyE} (h : TyOK P T te) (ha : te.arr = false) {i o : Nat} (ho : offOf te.nf i te.ty = some o) (hp : te.ty.isPair = true) {b off : Nat} :
    (Instr.fieldAt T (.pointer (some ⟨b, off, none⟩)) i).run P w = .ok (.pointer (some ⟨b, off + o, none⟩)) w := by
  have hd := h.desc
  cases ht : te.ty <;> rw [ht] at hp hd <;> first | (cases hp; done) | skip
  dsimp only at hd
  rw [ha] at hd
  obtain ⟨fs, hu, hs⟩ := hd
  have hlt : i < fs.size := by
    rw [hs]
    exact offOf_lt _ _ _ _ ho
  obtain ⟨g1, inf, g2, g3⟩ := (h.fields fs hu).1 i fs[i] (Array.getElem?_eq_getElem hlt)
  rw [ho] at g1
  have g1' : fs[i].offset = o := by simpa using g1.symm
  simp [Instr.fieldAt, run_underlying hu, Array.getElem?_eq_getElem hlt, Instr.sureAddr, fieldPlace, sizeOf, typeInfo, g2, g3, addr_add, g1']

theorem run_arrAt {T : Nat} {te : TyE} (h : TyOK P T te) (ha : te.arr = true) {n : Int} {o : Nat} (h0 : 0 ≤ n) (ho : offOf te.nf n.toNat te.ty = some o) (k : IntKind) {b off : Nat} :
    (Instr.indexAt T (.pointer (some ⟨b, off, none⟩)) (.int k n)).run P w = .ok (.pointer (some ⟨b, off + o, none⟩)) w := by
  have hd := h.desc
  have hp := h.arr ha
  cases ht : te.ty <;> rw [ht] at hp hd <;> first | (cases hp; done) | skip
  dsimp only at hd
  rw [ha] at hd
  obtain ⟨m, T', e, hu, h1, h2, i, hi, hs, _⟩ := hd
  have hlt := offOf_lt _ _ _ _ ho
  rw [h2] at hlt
  rw [ht, h1, h2, offOf_arr e m _ hlt] at ho
  have ho' : n.toNat * e.sz = o := by simpa using ho
  have hlt' : n < (m : Int) := by omega
  simp [Instr.indexAt, asIntOf, run_underlying hu, Instr.sureAddr, h0, hlt', sizeOf, typeInfo, hi, hs, addr_add, ho']

/-- A part of what an address points to. -/
theorem partAddr_sound {te : TyE} {i : Nat} {b : AVal} {v : Value} {s : SVal} {X : Value → Sem Value} (hX : ∀ bl off o, offOf te.nf i te.ty = some o → (X (.pointer (some ⟨bl, off, none⟩))).run P w = .ok (.pointer (some ⟨bl, off + o, none⟩)) w)
    (hr : (fieldAddrOp te i b).run st = some s) (hv : VRel P w conc (okOf conc) b v) (hM : Mod P w0 conc st a w) : ∃ u, (X v).run P w = .ok u w ∧ SRel P w conc (okOf conc) s u := by
  cases b with
  | bptr id ver off =>
    simp only [fieldAddrOp, RM.run] at hr
    split at hr
    · rename_i cv o ho
      obtain ⟨h1, h2⟩ := cond_some hr
      have := nbeq_true h1
      subst this
      cases hof : offOf te.nf i te.ty with
      | none => rw [hof] at h2; cases h2
      | some f =>
        rw [hof] at h2; cases h2
        obtain ⟨c, ow, g1, _⟩ := obj_rel hM ho
        obtain ⟨cv', c', ow', k1, k2, k3, k4⟩ := hv
        rw [g1] at k1
        cases k1
        obtain ⟨bl, e1, e2⟩ := k4 rfl
        rw [e2]
        exact ⟨_, hX _ _ _ hof, _, _, _, g1, Nat.le_refl _, rfl, fun _ => ⟨bl, e1, rfl⟩⟩
    · cases hr
  | pptr t d =>
    simp only [fieldAddrOp] at hr
    obtain ⟨hh, h2⟩ := ite_some hr
    cases hpj : proj te.nf i t d with
    | none => rw [hpj] at h2; cases h2
    | some q =>
      obtain ⟨u, x⟩ := q
      rw [hpj] at h2; cases h2
      obtain ⟨bl, off, cs, U, fr, e1, e2, e3, e4, e5⟩ := hv
      obtain ⟨o, f1, f2, f3⟩ := proj_rep te.nf i t hpj e5
      rw [← hh] at f1
      rw [e1]
      refine ⟨_, hX _ _ _ f1, bl, off + o, cs, U, fr, rfl, e2, e3, by omega, ?_⟩
      rwa [chunk_chunk f2] at f3
  | eptr id ver u n =>
    simp only [fieldAddrOp, RM.run] at hr
    split at hr
    · rename_i cv o ho
      obtain ⟨h1, h2⟩ := cond_some hr
      have := nbeq_true h1
      subst this
      cases hof : offOf te.nf i te.ty with
      | none => rw [hof] at h2; cases h2
      | some f =>
        rw [hof] at h2; cases h2
        obtain ⟨c, ow, g1, _⟩ := obj_rel hM ho
        obtain ⟨cv', c', ow', k1, k2, k3, k4⟩ := hv
        rw [g1] at k1
        cases k1
        obtain ⟨bl, off, m, cap, e1, e0, e2⟩ := k4 rfl
        rw [e2]
        exact ⟨_, hX _ _ _ hof, _, _, _, g1, Nat.le_refl _, rfl, fun _ => ⟨bl, off, m, cap, e1, e0, rfl⟩⟩
    · cases hr
  | epart id ver u n q =>
    simp only [fieldAddrOp, RM.run] at hr
    split at hr
    · rename_i cv o ho
      obtain ⟨h1, h2⟩ := cond_some hr
      have := nbeq_true h1
      subst this
      cases hof : offOf te.nf i te.ty with
      | none => rw [hof] at h2; cases h2
      | some f =>
        rw [hof] at h2; cases h2
        obtain ⟨c, ow, g1, _⟩ := obj_rel hM ho
        obtain ⟨cv', c', ow', k1, k2, k3, k4⟩ := hv
        rw [g1] at k1
        cases k1
        obtain ⟨bl, off, m, cap, e1, e0, e2⟩ := k4 rfl
        rw [e2]
        exact ⟨_, hX _ _ _ hof, _, _, _, g1, Nat.le_refl _, rfl, fun _ => ⟨bl, off, m, cap, e1, e0, by rw [Nat.add_assoc]⟩⟩
    · cases hr
  | _ => cases hr

theorem fieldAddrOp_sound {T : Nat} {te : TyE} (h : TyOK P T te) (ha : te.arr = false) (hp : te.ty.isPair = true) {i : Nat} {b : AVal} {v : Value} {s : SVal}
    (hr : (fieldAddrOp te i b).run st = some s) (hv : VRel P w conc (okOf conc) b v) (hM : Mod P w0 conc st a w) : ∃ u, (Instr.fieldAt T v i).run P w = .ok u w ∧ SRel P w conc (okOf conc) s u :=
  partAddr_sound (X := fun v => Instr.fieldAt T v i) (fun _ _ _ ho => run_fieldAt h ha ho hp) hr hv hM

theorem arrAddrOp_sound {T : Nat} {te : TyE} (h : TyOK P T te) (ha : te.arr = true) {n : Int} (h0 : 0 ≤ n) (k : IntKind) {b : AVal} {v : Value} {s : SVal}
    (hr : (fieldAddrOp te n.toNat b).run st = some s) (hv : VRel P w conc (okOf conc) b v) (hM : Mod P w0 conc st a w) : ∃ u, (Instr.indexAt T v (.int k n)).run P w = .ok u w ∧ SRel P w conc (okOf conc) s u :=
  partAddr_sound (X := fun v => Instr.indexAt T v (.int k n)) (fun _ _ _ ho => run_arrAt h ha h0 ho k) hr hv hM


theorem run_indexAt {T : Nat} {e : Ty} (h : ∃ T', P.underlying T = some (.slice T') ∧ ∃ i, P.info? T' = some i ∧ i.size = e.sz) {b off len cap : Nat} {k : IntKind} {n : Int}
    (h0 : 0 ≤ n) (hn : n.toNat < len) : (Instr.indexAt T (.slice (some ⟨b, off, none⟩) len cap) (.int k n)).run P w = .ok (.pointer (some ⟨b, off + n.toNat * e.sz, none⟩)) w := by
  obtain ⟨T', hu, i, hi, hs⟩ := h
  have : n < (len : Int) := by omega
  simp [Instr.indexAt, asIntOf, run_underlying hu, h0, this, sizeOf, typeInfo, hi, hs, addr_add]

theorem slice_desc (hE : EnvOK P E) {T : Nat} {e : Ty} (hT : E.ty T = some (.slice e)) : ∃ T', P.underlying T = some (.slice T') ∧ ∃ i, P.info? T' = some i ∧ i.size = e.sz := by
  obtain ⟨te, hte, hok⟩ := hE.tyOK hT
  have := hok.desc
  rw [hte] at this
  obtain ⟨T', h1, i, h2, h3, _⟩ := this
  exact ⟨T', h1, i, h2, h3⟩

theorem indexAddrOp_sound (hE : EnvOK P E) (h : Mod P w0 conc st a w) {T : Nat} {e : Ty} (hT : E.ty T = some (.slice e)) {k : IntKind} {n : Int} {b : AVal} {v : Value} {s : SVal}
    (hr : (indexAddrOp true e n b).run st = some s) (hv : VRel P w conc (okOf conc) b v) : ∃ u, (Instr.indexAt T v (.int k n)).run P w = .ok u w ∧ SRel P w conc (okOf conc) s u := by
  have hd := slice_desc hE hT
  cases b with
  | pure t l =>
    cases t <;> simp only [indexAddrOp] at hr <;> first | (cases hr; done) | skip
    rename_i u
    obtain ⟨hh, h2⟩ := ite_some hr
    subst hh
    obtain ⟨x, h4, h5⟩ := RM.opt_some h2
    cases h5
    rw [part_true] at h4
    obtain ⟨i1, i2, i3⟩ := geti_some h4
    obtain ⟨vs, e1, ad, cap, e2, e3, e4⟩ := hv
    rcases e4 with e4 | ⟨bl, off, cs, U, fr, f1, f2, f3, f4, f5⟩
    · rw [e4] at i2; simp at i2
    · subst f1
      rw [e1, e2]
      refine ⟨_, run_indexAt hd i1 i2, bl, _, cs, U, fr, rfl, f2, f3, ?_, f5 n.toNat x i3⟩
      refine Nat.le_trans ?_ f4
      rw [Nat.add_assoc, ← Nat.succ_mul]
      exact Nat.add_le_add_left (Nat.mul_le_mul_right _ (by omega)) _
  | nhand id ver =>
    simp only [indexAddrOp, RM.run] at hr
    split at hr
    · rename_i cv u l ho
      obtain ⟨h1, h2⟩ := cond_some hr
      have := nbeq_true h1
      subst this
      obtain ⟨hh, h3⟩ := ite_some h2
      subst hh
      obtain ⟨x, h4, h5⟩ := RM.opt_some h3
      cases h5
      rw [part_true] at h4
      obtain ⟨i1, i2, i3⟩ := geti_some h4
      obtain ⟨c, ow, g1, g2⟩ := obj_rel h ho
      obtain ⟨cv', c', ow', k1, k2, _, k3⟩ := hv
      rw [g1] at k1; cases k1
      obtain ⟨vs', e1⟩ := k3 rfl
      obtain ⟨_, v', vs, e2, e3, e4, _⟩ := g2
      have e2' := e1.symm.trans e2
      simp at e2'
      obtain ⟨rfl, rfl⟩ := e2'
      rcases e4 with ⟨f1, f2⟩ | ⟨bl, off, cap, cs, U, f1, _⟩
      · rw [← e3, f2] at i2; simp at i2
      · rw [f1]
        have hi := run_indexAt (w := w) hd (b := bl) (off := off) (len := vs'.length) (cap := cap) (k := k) i1 (by rw [e3]; exact i2)
        exact ⟨_, hi, _, _, _, g1, Nat.le_refl _, rfl, fun _ => ⟨bl, off, _, cap, vs', by rw [e1, f1], i1, by simp [Ty.sz]⟩⟩
    · cases hr
  | nel id ver u i =>
    simp only [indexAddrOp, RM.run] at hr
    split at hr
    · rename_i cv u' l ho
      obtain ⟨h1, h2⟩ := cond_some hr
      have := nbeq_true h1
      subst this
      obtain ⟨⟨hh, hh2⟩, h3⟩ := ite_some h2
      subst hh2
      subst hh
      obtain ⟨li, h4, h5⟩ := RM.opt_some h3
      obtain ⟨x, h6, h7⟩ := RM.opt_some h5
      cases h7
      rw [part_true] at h4 h6
      obtain ⟨i1, i2, i3⟩ := geti_some h4
      obtain ⟨j1, j2, j3⟩ := geti_some h6
      obtain ⟨c, ow, g1, g2⟩ := obj_rel h ho
      obtain ⟨cv', c', ow', k1, k2, _, k3⟩ := hv
      rw [g1] at k1; cases k1
      obtain ⟨o, vs', e1, q0, q1⟩ := k3 rfl
      obtain ⟨_, v', vs, e2, e3, e4, e5, _⟩ := g2
      have e2' := e1.symm.trans e2
      simp at e2'
      obtain ⟨rfl, rfl⟩ := e2'
      rcases e5 i.toNat v li q1 i3 with ⟨f1, f2⟩ | ⟨bl, off, cap, cs, U, f1, _⟩
      · rw [f2] at j2; simp at j2
      · rw [f1]
        have hi := run_indexAt (w := w) hd (b := bl) (off := off) (len := li.length) (cap := cap) (k := k) j1 j2
        exact ⟨_, hi, _, _, _, g1, Nat.le_refl _, rfl, fun _ => ⟨o, vs', bl, off, _, cap, e1, q0, by rw [q1, f1], j1, rfl⟩⟩
    · cases hr
  | hand id ver =>
    simp only [indexAddrOp, RM.run] at hr
    split at hr
    · rename_i cv u l ho
      obtain ⟨h1, h2⟩ := cond_some hr
      have := nbeq_true h1
      subst this
      obtain ⟨hh, h3⟩ := ite_some h2
      subst hh
      obtain ⟨x, h4, h5⟩ := RM.opt_some h3
      cases h5
      rw [part_true] at h4
      obtain ⟨i1, i2, i3⟩ := geti_some h4
      obtain ⟨c, ow, g1, g2⟩ := obj_rel h ho
      obtain ⟨cv', c', ow', k1, k2, _, k3⟩ := hv
      rw [g1] at k1; cases k1
      have hvc := k3 rfl
      subst hvc
      obtain ⟨_, ⟨f1, f2⟩ | ⟨bl, off, cap, cs, U, f1, f2, f3, f4, f5, f6⟩⟩ := g2
      · rw [f2] at i2; simp at i2
      · rw [f1]
        refine ⟨_, run_indexAt hd i1 i2, _, _, _, g1, Nat.le_refl _, rfl, fun _ => ⟨bl, off, _, cap, f1, i1, rfl⟩⟩
    · rename_i cv u l ho
      obtain ⟨h1, h2⟩ := cond_some hr
      have := nbeq_true h1
      subst this
      obtain ⟨hh, h3⟩ := ite_some h2
      subst hh
      obtain ⟨x, h4, h5⟩ := RM.opt_some h3
      cases h5
      rw [part_true] at h4
      obtain ⟨i1, i2, i3⟩ := geti_some h4
      obtain ⟨c, ow, g1, g2⟩ := obj_rel h ho
      obtain ⟨cv', c', ow', k1, k2, _, k3⟩ := hv
      rw [g1] at k1; cases k1
      have hvc := k3 rfl
      subst hvc
      obtain ⟨_, ad, cap, e2, e3, e4⟩ := g2
      rcases e4 with e4 | ⟨bl, off, cs, U, fr, f1, f2, f3, f4, f5⟩
      · rw [e4] at i2; simp at i2
      · subst f1
        simp only [List.cons.injEq, and_true] at e2
        rw [e2]
        refine ⟨_, run_indexAt hd i1 i2, bl, _, cs, U, fr, rfl, f2, f3, ?_, f5 n.toNat x i3⟩
        refine Nat.le_trans ?_ f4
        rw [Nat.add_assoc, ← Nat.succ_mul]
        exact Nat.add_le_add_left (Nat.mul_le_mul_right _ (by omega)) _
    · rename_i cv ta tu te l _ _ _ ho
      obtain ⟨h1, h2⟩ := cond_some hr
      have := nbeq_true h1
      subst this
      obtain ⟨hh, h3⟩ := ite_some h2
      obtain ⟨f, hf⟩ := Option.isSome_iff_exists.1 hh
      obtain ⟨hsz, _, _⟩ := coe_ok _ _ hf
      obtain ⟨x, h4, h5⟩ := RM.opt_some h3
      cases h5
      rw [part_true] at h4
      obtain ⟨i1, i2, i3⟩ := geti_some h4
      obtain ⟨c, ow, g1, g2⟩ := obj_rel h ho
      obtain ⟨cv', c', ow', k1, k2, _, k3⟩ := hv
      rw [g1] at k1; cases k1
      have hvc := k3 rfl
      subst hvc
      obtain ⟨_, bl, off, cap, cs, U, f1, _⟩ := g2
      rw [f1]
      exact ⟨_, run_indexAt hd i1 i2, _, _, _, g1, Nat.le_refl _, rfl, fun _ => ⟨bl, off, _, cap, f1, i1, by rw [hsz]⟩⟩
    · cases hr
  | _ => cases hr

theorem lenOf_sound (h : Mod P w0 conc st a w) {T : Nat} {b : AVal} {v : Value} {n : Nat} (hr : (lenOf b).run st = some n) (hv : VRel P w conc (okOf conc) b v) :
    ∃ ad cap, v = .slice ad n cap := by
  cases b with
  | pure t l =>
    cases t <;> simp only [lenOf] at hr <;> first | (cases hr; done) | skip
    · cases hr
      obtain ⟨vs, e1, ad, cap, e2, e3, e4⟩ := hv
      exact ⟨ad, cap, by rw [e1, e2]; rfl⟩
  | nils => cases hr; exact ⟨none, 0, hv⟩
  | nhand id ver =>
    simp only [lenOf, RM.run] at hr
    split at hr
    · rename_i cv u l ho
      obtain ⟨h1, h2⟩ := cond_some hr
      have := nbeq_true h1
      subst this
      cases h2
      obtain ⟨c, ow, g1, g2⟩ := obj_rel h ho
      obtain ⟨cv', c', ow', k1, k2, _, k3⟩ := hv
      rw [g1] at k1; cases k1
      obtain ⟨vs', e1⟩ := k3 rfl
      obtain ⟨_, v', vs, e2, e3, e4, _⟩ := g2
      rw [e1] at e2
      simp at e2
      obtain ⟨rfl, rfl⟩ := e2
      rw [← e3]
      rcases e4 with ⟨f1, f2⟩ | ⟨bl, off, cap, cs, U, f1, _⟩
      · exact ⟨none, 0, by rw [f1, f2]; rfl⟩
      · exact ⟨_, cap, f1⟩
    · cases hr
  | hand id ver =>
    simp only [lenOf, RM.run] at hr
    split at hr
    · rename_i cv u l ho
      obtain ⟨h1, h2⟩ := cond_some hr
      have := nbeq_true h1
      subst this
      cases h2
      obtain ⟨c, ow, g1, g2⟩ := obj_rel h ho
      obtain ⟨cv', c', ow', k1, k2, _, k3⟩ := hv
      rw [g1] at k1; cases k1
      have hvc := k3 rfl
      subst hvc
      obtain ⟨_, ⟨f1, f2⟩ | ⟨bl, off, cap, cs, U, f1, f2, f3, f4, f5, f6⟩⟩ := g2
      · exact ⟨none, 0, by rw [f1, f2]; rfl⟩
      · exact ⟨_, cap, f1⟩
    · rename_i cv u l ho
      obtain ⟨h1, h2⟩ := cond_some hr
      have := nbeq_true h1
      subst this
      cases h2
      obtain ⟨c, ow, g1, g2⟩ := obj_rel h ho
      obtain ⟨cv', c', ow', k1, k2, _, k3⟩ := hv
      rw [g1] at k1; cases k1
      have hvc := k3 rfl
      subst hvc
      obtain ⟨_, ad, cap, e2, e3, e4⟩ := g2
      simp only [List.cons.injEq, and_true] at e2
      exact ⟨ad, cap, e2⟩
    · cases hr
  | _ => cases hr

end Go.Abs

set_option linter.unusedSimpArgs false
set_option linter.unusedVariables false
namespace Go.Abs
open Go
variable {P : Program} {E : Env} {w0 : Start} {w : World} {conc : Conc} {st : ASt} {a : Act}

theorem rdInt_sound (h : Mod P w0 conc st a w) {L : List (Nat × Bool)} (hl : labs a.tmps L) {x : Operand} {n : Int} (hr : (rdInt L x).run st = some n) : ∃ k, a.eval x = .int k n := by
  unfold rdInt at hr
  obtain ⟨b, h1, h2⟩ := RM.bind_some hr
  have hv := rdA_rel h hl h1
  split at h2
  · cases h2
    obtain ⟨vs, e1, e2⟩ := hv
    exact ⟨_, rep_int e1 e2⟩
  · cases h2

theorem boolOf_sound {b : AVal} {v : Value} {t : Bool} {ok : Nat → Prop} (hr : (boolOf b).run st = some t) (hv : VRel P w conc ok b v) : v = .bool t ∧ b = .pure .bool t := by
  unfold boolOf at hr
  split at hr
  · cases hr
    obtain ⟨vs, e1, e2⟩ := hv
    exact ⟨rep_bool e1 e2, rfl⟩
  · cases hr

/-- What an operation that gives a value comes to. -/
def Gives (P : Program) (conc : Conc) (st : ASt) (a : Act) (w : World) (o : Oper) (s : SVal) : Prop :=
  ∃ v, (execOp a.eval o).run P w = .ok (.value v) w ∧ SRel P w conc (okOf conc) s v

theorem gives_of {o : Oper} {s : SVal} {x : Sem Value} (hx : execOp a.eval o = (do pure (.value (← x)))) (h : ∃ v, x.run P w = .ok v w ∧ SRel P w conc (okOf conc) s v) : Gives P conc st a w o s := by
  obtain ⟨v, h1, h2⟩ := h
  refine ⟨v, ?_, h2⟩
  rw [hx]
  simp [h1]

theorem sliceBound_run {v : Value} {k : IntKind} {n : Int} (hv : v = .int k n) {y : Nat} {c : BoundsCode} (h0 : 0 ≤ n) (h1 : n ≤ (y : Int)) : (Instr.sliceBound v y c).run P w = .ok n.toNat w := by
  subst hv
  simp [Instr.sliceBound, asIntOf, h0, h1]

theorem rdBound_sound (h : Mod P w0 conc st a w) {L : List (Nat × Bool)} (hl : labs a.tmps L) {d : Int} {x : Option Operand} {n : Int} (hr : (rdBound L d x).run st = some n) :
    (x = none ∧ n = d) ∨ ∃ y k, x = some y ∧ a.eval y = .int k n := by
  cases x with
  | none => cases hr; exact .inl ⟨rfl, rfl⟩
  | some y =>
    obtain ⟨k, hk⟩ := rdInt_sound h hl hr
    exact .inr ⟨y, k, rfl, hk⟩

theorem sliceBounds_run (h : Mod P w0 conc st a w) {L : List (Nat × Bool)} (hl : labs a.tmps L) {lo hi : Option Operand} {x y : Int} {n cap : Nat} {b : Bool} (hc : n ≤ cap)
    (h1 : (rdBound L 0 lo).run st = some x) (h2 : (rdBound L (n : Int) hi).run st = some y) (h3 : 0 ≤ x) (h4 : x ≤ y) (h5 : y ≤ (n : Int)) :
    (Instr.sliceBounds b n cap (lo.map a.eval) (hi.map a.eval) none).run P w = .ok (x.toNat, y.toNat, cap) w := by
  have hy : (y.toNat : Int) = y := by omega
  rcases rdBound_sound h hl h1 with ⟨rfl, rfl⟩ | ⟨lo', k, rfl, e1⟩
  · rcases rdBound_sound h hl h2 with ⟨rfl, rfl⟩ | ⟨hi', k', rfl, e2⟩
    · simp [Instr.sliceBounds]
    · simp only [Instr.sliceBounds, Option.map_none, Option.map_some]
      simp [sliceBound_run e2 (by omega : (0:Int) ≤ y) (by omega : y ≤ (cap : Int))]
  · rcases rdBound_sound h hl h2 with ⟨rfl, rfl⟩ | ⟨hi', k', rfl, e2⟩
    · simp only [Instr.sliceBounds, Option.map_none, Option.map_some]
      simp [sliceBound_run e1 h3 (by omega : x ≤ (n : Int))]
    · simp only [Instr.sliceBounds, Option.map_none, Option.map_some]
      simp [sliceBound_run e2 (by omega : (0:Int) ≤ y) (by omega : y ≤ (cap : Int)), sliceBound_run e1 h3 (by omega : x ≤ (y.toNat : Int))]

theorem cut_some {α : Type} {l : List α} {lo hi : Int} {z : List α} (h : cut l lo hi = some z) : 0 ≤ lo ∧ lo ≤ hi ∧ hi ≤ (l.length : Int) ∧ z = (l.take hi.toNat).drop lo.toNat := by
  unfold cut at h
  split at h
  · rename_i hc
    cases h
    exact ⟨hc.1, hc.2.1, hc.2.2, rfl⟩
  · cases h

theorem sliceAt_eq (hE : EnvOK P E) {T : Nat} {t : Ty} (hT : E.ty T = some t) (ht : (∃ e, t = .slice e) ∨ t = .str) {x : Value} {lo hi mx : Option Value} :
    (Instr.sliceAt T x lo hi mx).run P w = (Instr.slice T x lo hi mx).run P w := by
  obtain ⟨te, hte, hok⟩ := hE.tyOK hT
  have hd := hok.desc
  unfold Instr.sliceAt
  rcases ht with ⟨e, rfl⟩ | rfl
  · rw [hte] at hd
    obtain ⟨T', hu, _⟩ := hd
    rw [Sem.run_bind, run_underlying hu]; rfl
  · rw [hte] at hd
    rw [Sem.run_bind, run_underlying hd]; rfl

theorem sliceOp_sound (hE : EnvOK P E) (h : Mod P w0 conc st a w) {L : List (Nat × Bool)} (hl : labs a.tmps L) {T : Nat} {t : Ty} (hT : E.ty T = some t) {lo hi : Option Operand} {b : AVal} {v : Value} {s : SVal}
    (hr : (sliceOp L true t lo hi b).run st = some s) (hv : VRel P w conc (okOf conc) b v) :
    ∃ u, (Instr.sliceAt T v (lo.map a.eval) (hi.map a.eval) none).run P w = .ok u w ∧ SRel P w conc (okOf conc) s u := by
  cases b with
  | pure u l =>
    cases u <;> simp only [sliceOp] at hr <;> first | (cases hr; done) | skip
    · obtain ⟨rfl, hr⟩ := ite_some hr
      obtain ⟨x, g1, hr⟩ := RM.bind_some hr
      obtain ⟨y, g2, hr⟩ := RM.bind_some hr
      obtain ⟨z, g3, hr⟩ := RM.opt_some hr
      cases hr
      rw [part_true] at g3
      obtain ⟨k1, k2, k3, rfl⟩ := cut_some g3
      obtain ⟨vs, e1, e2⟩ := hv
      rw [rep_str e1 e2, sliceAt_eq hE hT (.inr rfl)]
      obtain ⟨te, hte, hok⟩ := hE.tyOK hT
      have hd := hok.desc
      rw [hte] at hd
      have hb := sliceBounds_run (P := P) (w := w) h hl (b := false) (Nat.le_refl _) g1 g2 k1 k2 k3
      refine ⟨.string ((⟨⟨l⟩⟩ : ByteArray).extract x.toNat y.toNat), ?_, ?_⟩
      · have hsz : (⟨⟨l⟩⟩ : ByteArray).size = l.length := rfl
        simp only [Instr.slice, Sem.run_bind, run_underlying hd, Result.andThen_ok, Option.isSome_none, Bool.false_eq_true, if_false, Sem.run_pure, hsz, hb]
      · refine ⟨[.string ⟨⟨(l.take y.toNat).drop x.toNat⟩⟩], ?_, rfl⟩
        have : (⟨⟨l⟩⟩ : ByteArray).extract x.toNat y.toNat = ⟨⟨(l.take y.toNat).drop x.toNat⟩⟩ := by
          apply ByteArray.ext
          simp [ByteArray.data_extract, List.extract_toArray, List.drop_take]
        rw [this]; rfl
    · rename_i e
      obtain ⟨rfl, hr'⟩ := ite_some hr
      obtain ⟨x, g1, hr⟩ := RM.bind_some hr'
      obtain ⟨y, g2, hr⟩ := RM.bind_some hr
      obtain ⟨z, g3, hr⟩ := RM.opt_some hr
      cases hr
      rw [part_true] at g3
      obtain ⟨k1, k2, k3, rfl⟩ := cut_some g3
      obtain ⟨vs, e1, ad, cap, e2, e3, e4⟩ := hv
      obtain ⟨T', hu, i, hi1, hi2⟩ := slice_desc hE hT
      rw [e1, e2, sliceAt_eq hE hT (.inl ⟨e, rfl⟩)]
      have hb := sliceBounds_run (P := P) (w := w) h hl (b := true) e3 g1 g2 k1 k2 k3
      have hlen : ((l.take y.toNat).drop x.toNat).length = y.toNat - x.toNat := by
        rw [List.length_drop, List.length_take]; omega
      refine ⟨.slice (if cap = x.toNat then ad else ad.map (·.add (x.toNat * e.sz))) (y.toNat - x.toNat) (cap - x.toNat), ?_, ?_⟩
      · simp only [Instr.slice, Ty.val, Ty.isPair, Bool.false_eq_true, if_false, List.headD, Sem.run_bind, run_underlying hu, Result.andThen_ok, hb, sizeOf, typeInfo, Sem.run_pure]
        simp [hi1, hi2]
      · refine ⟨[.slice (if cap = x.toNat then ad else ad.map (·.add (x.toNat * e.sz))) (y.toNat - x.toNat) (cap - x.toNat)], rfl, ?_⟩
        rw [← hlen]
        refine ⟨_, _, rfl, by rw [hlen]; omega, ?_⟩
        by_cases hz : (l.take y.toNat).drop x.toNat = []
        · exact .inl hz
        · right
          have hpos : 0 < ((l.take y.toNat).drop x.toNat).length := List.length_pos_iff.2 hz
          rw [hlen] at hpos
          rcases e4 with e4 | ⟨bl, off, cs, U, fr, rfl, f2, f3, f4, f5⟩
          · rw [e4] at hz; simp at hz
          · refine ⟨bl, off + x.toNat * e.sz, cs, U, fr, ?_, f2, f3, ?_, fun i q hq => ?_⟩
            · have : cap ≠ x.toNat := by omega
              rw [if_neg this]
              simp [addr_add]
            · refine Nat.le_trans ?_ f4
              rw [Nat.add_assoc, ← Nat.add_mul, hlen]
              exact Nat.add_le_add_left (Nat.mul_le_mul_right _ (by omega)) _
            · rw [List.getElem?_drop, List.getElem?_take] at hq
              split at hq
              · have := f5 _ q hq
                rwa [Nat.add_mul, ← Nat.add_assoc] at this
              · cases hq
  | _ => cases hr


theorem zero_len : (t : Ty) → (zeroVals t).length = t.sz
  | .unit => rfl
  | .pair a b => by simp [zeroVals, Ty.sz, zero_len a, zero_len b]
  | .slice _ => rfl
  | .int _ => rfl
  | .bool => rfl
  | .str => rfl
  | .fn1 _ _ => rfl
  | .fn2 _ _ _ => rfl
  | .seq _ => rfl
  | .seq2 _ _ => rfl
  | .map _ _ => rfl
  | .ptr _ => rfl
  | .sliceN _ => rfl

theorem zero_rep {ok : Nat → Prop} : (t : Ty) → t.noFn = true → Rep P t w ok (zeroVals t) t.dflt
  | .unit, _ => rfl
  | .pair x y, hf => by
    simp only [Ty.noFn, Bool.and_eq_true] at hf
    simp only [zeroVals, Ty.dflt, Rep]
    rw [List.take_left' (zero_len x), List.drop_left' (zero_len x)]
    exact ⟨zero_rep x hf.1, zero_rep y hf.2⟩
  | .int k, _ => rfl
  | .bool, _ => rfl
  | .str, _ => rfl
  | .fn1 p r, hf => by cases hf
  | .fn2 p q r, hf => by cases hf
  | .seq p, hf => by cases hf
  | .seq2 p q, hf => by cases hf
  | .map p q, hf => by cases hf
  | .ptr p, hf => by cases hf
  | .sliceN p, _ => ⟨fun _ => rfl, Rep.nilS⟩
  | .slice e, _ => Rep.nilS

theorem zero_rel {ok : Nat → Prop} : (t : Ty) → All2 (VRel P w conc ok) (zeroCells t) (zeroVals t)
  | .unit => trivial
  | .pair x y => (zero_rel x).append (zero_rel y)
  | .int k => ⟨vrel_int _, trivial⟩
  | .bool => ⟨vrel_bool _, trivial⟩
  | .str => ⟨vrel_str _, trivial⟩
  | .fn1 p r => ⟨trivial, trivial⟩
  | .fn2 p q r => ⟨trivial, trivial⟩
  | .seq p => ⟨trivial, trivial⟩
  | .seq2 p q => ⟨trivial, trivial⟩
  | .map p q => ⟨trivial, trivial⟩
  | .ptr p => ⟨trivial, trivial⟩
  | .sliceN p => ⟨rfl, trivial⟩
  | .slice e => ⟨rfl, trivial⟩

theorem zero_one : (t : Ty) → ∀ v ∈ zeroVals t, one v = true
  | .unit => by simp [zeroVals]
  | .pair a b => by
    intro v hv
    rcases List.mem_append.1 hv with hv | hv
    · exact zero_one a v hv
    · exact zero_one b v hv
  | .slice _ => by simp [zeroVals, one]
  | .int _ => by simp [zeroVals, one]
  | .bool => by simp [zeroVals, one]
  | .str => by simp [zeroVals, one]
  | .fn1 _ _ => by simp [zeroVals, one]
  | .fn2 _ _ _ => by simp [zeroVals, one]
  | .seq _ => by simp [zeroVals, one]
  | .seq2 _ _ => by simp [zeroVals, one]
  | .map _ _ => by simp [zeroVals, one]
  | .ptr _ => by simp [zeroVals, one]
  | .sliceN _ => by simp [zeroVals, one]


theorem sets_eq (off : Nat) : (vs : List Value) → (k : Nat) → (cs : Array Value) → off + k + vs.length ≤ cs.size →
    ((vs.zipIdx k).foldl (fun cs (p : Value × Nat) => cs.setIfInBounds (off + p.2) p.1) cs).toList = cs.toList.take (off + k) ++ vs ++ cs.toList.drop (off + k + vs.length)
  | [], k, cs, h => by simp
  | v :: vs, k, cs, h => by
    simp only [List.length_cons] at h
    rw [List.zipIdx_cons, List.foldl_cons, sets_eq off vs (k + 1) _ (by simp; omega)]
    have hlt : off + k < cs.toList.length := by simp; omega
    have e1 : (cs.setIfInBounds (off + k) v).toList = cs.toList.set (off + k) v := by simp
    rw [e1, List.take_set, List.drop_set]
    have e2 : off + (k + 1) = (off + k) + 1 := by omega
    rw [e2, if_pos (by omega)]
    have e3 : (cs.toList.take (off + k + 1)).set (off + k) v = cs.toList.take (off + k) ++ [v] := by
      rw [List.take_succ_eq_append_getElem hlt, List.set_append_right _ _ (by rw [List.length_take]; omega)]
      have : (off + k) - (cs.toList.take (off + k)).length = 0 := by rw [List.length_take]; omega
      rw [this]; rfl
    rw [e3]
    simp only [List.length_cons, List.append_assoc, List.singleton_append, List.cons_append]
    rw [show off + k + 1 + vs.length = off + k + (vs.length + 1) from by omega, List.nil_append]

theorem fill_step {place : Nat → Option (Nat × Nat)} {cells : Array Value} {i o n : Nat} {v : Value} {rest : List (Nat × Value)} {vs : List Value} (hp : place i = some (o, n)) (hv : v.cells.toList = vs) (hn : vs.length = n)
    (hs : o + n ≤ cells.size) : Instr.fill place cells ((i, v) :: rest) = Instr.fill place (cells.toList.take o ++ vs ++ cells.toList.drop (o + n)).toArray rest := by
  have hsz : v.cells.size = n := by rw [← hn, ← hv]; simp
  rw [Instr.fill, hp]
  dsimp only
  rw [if_neg (by rw [hsz]; simp; omega)]
  congr 1
  apply Array.ext'
  have := sets_eq o vs 0 cells (by rw [hn]; omega)
  rw [Nat.add_zero, hn] at this
  rw [← Array.foldl_toList]
  simp only [Array.toList_zipIdx, hv]
  exact this

theorem All2.splice {α β : Type} {R : α → β → Prop} {l m : List α} {l' m' : List β} (o n : Nat) (h : All2 R l l') (h' : All2 R m m') : All2 R (l.take o ++ m ++ l.drop (o + n)) (l'.take o ++ m' ++ l'.drop (o + n)) :=
  ((h.take o).append h').append (h.drop (o + n))

theorem buildL_sound (h : Mod P w0 conc st a w) {L : List (Nat × Bool)} (hl : labs a.tmps L) {te : TyE} : {ps : List (Nat × Operand)} → {cells l : List AVal} → {cs : Array Value} →
    (buildL L te cells ps).run st = some l → All2 (VRel P w conc (okOf conc)) cells cs.toList → (∀ v ∈ cs.toList, one v = true) →
    ∃ cs', Instr.fill (fun i => (placesOf te.nf te.ty)[i]?) cs (ps.map fun p => (p.1, a.eval p.2)) = some cs' ∧ All2 (VRel P w conc (okOf conc)) l cs'.toList ∧ (∀ v ∈ cs'.toList, one v = true)
  | [], cells, l, cs, hr, hv, h1 => by cases hr; exact ⟨cs, rfl, hv, h1⟩
  | (i, x) :: ps, cells, l, cs, hr, hv, h1 => by
    simp only [buildL] at hr
    obtain ⟨s, g1, hr⟩ := RM.bind_some hr
    obtain ⟨m, g2, hr⟩ := RM.bind_some hr
    cases hp : (placesOf te.nf te.ty)[i]? with
    | none => rw [hp] at hr; cases hr
    | some q =>
      obtain ⟨o, n⟩ := q
      rw [hp] at hr
      obtain ⟨g3, hr⟩ := cond_some hr
      simp only [Bool.and_eq_true] at g3
      have k1 := nbeq_true g3.1
      have k2 : o + n ≤ cells.length := by simpa using g3.2
      obtain ⟨vs, e1, e2, e3⟩ := cells_spec g2 (rd_rel h hl g1)
      have hlen := hv.length
      have hlen2 := e3.length
      have hnv : vs.length = n := by omega
      have := buildL_sound h hl (cs := (cs.toList.take o ++ vs ++ cs.toList.drop (o + n)).toArray) hr (hv.splice o n e3) (by
        intro v hv'
        simp only [List.mem_append] at hv'
        rcases hv' with (hv' | hv') | hv'
        · exact h1 v (List.mem_of_mem_take hv')
        · exact e2 v hv'
        · exact h1 v (List.mem_of_mem_drop hv'))
      obtain ⟨cs', f1, f2, f3⟩ := this
      refine ⟨cs', ?_, f2, f3⟩
      rw [List.map_cons, fill_step hp e1 hnv (by simp at hlen ⊢; omega)]
      exact f1


theorem zeroValue_run {T : Nat} {te : TyE} (h : TyOK P T te) : (zeroValue T).run P w = .ok (te.ty.val (zeroVals te.ty)) w := by
  obtain ⟨i, h1, _, _, h2, _⟩ := h.info
  simp [zeroValue, typeInfo, h1, h2]

theorem fill_more {g g' : Nat → Option (Nat × Nat)} (h : ∀ i p, g i = some p → g' i = some p) : ∀ (ps : List (Nat × Value)) (cs cs' : Array Value), Instr.fill g cs ps = some cs' → Instr.fill g' cs ps = some cs'
  | [], _, _, hf => hf
  | (i, v) :: ps, cs, cs', hf => by
    unfold Instr.fill at hf ⊢
    cases hg : g i with
    | none => rw [hg] at hf; cases hf
    | some p =>
      rw [hg] at hf
      rw [h i p hg]
      dsimp only at hf ⊢
      split at hf
      · cases hf
      · rename_i hc
        rw [if_neg hc]
        exact fill_more h ps _ _ hf

theorem placesOf_arr (e : Ty) : ∀ (n i : Nat) (p : Nat × Nat), (placesOf n (Ty.arr e n))[i]? = some p → p = (i * e.sz, e.sz)
  | 0, i, p, h => by simp [placesOf] at h
  | 1, i, p, h => by
    cases i with
    | zero => simp [placesOf, Ty.arr] at h; simp [← h]
    | succ i => simp [placesOf] at h
  | n + 2, 0, p, h => by simp [placesOf, Ty.arr] at h; simp [← h]
  | n + 2, i + 1, p, h => by
    simp only [Ty.arr, placesOf, List.getElem?_cons_succ, List.getElem?_map, Option.map_eq_some_iff] at h
    obtain ⟨q, hq, rfl⟩ := h
    rw [placesOf_arr e (n + 1) i q hq, Nat.succ_mul, Nat.add_comm]

theorem build_sound (hE : EnvOK P E) (h : Mod P w0 conc st a w) {L : List (Nat × Bool)} (hl : labs a.tmps L) {T : Nat} {te : TyE} (hT : Map.get E.G T = some te) (hf : te.ty.noFn = true) (hp : te.ty.isPair = true)
    {ps : Array (Nat × Operand)} {l : List AVal} (hr : (buildL L te (zeroCells te.ty) ps.toList).run st = some l) :
    ∃ v, (Instr.build T (ps.map fun (i, x) => (i, a.eval x))).run P w = .ok v w ∧ SRel P w conc (okOf conc) (.comp l) v := by
  have hok := hE.ty T te hT
  obtain ⟨i, h1, _, _, h2, _⟩ := hok.info
  have hd := hok.desc
  have hst : (∃ fs, P.underlying T = some (.struct fs)) ∨ ∃ n T' e ie, P.underlying T = some (.array n T') ∧ te.ty = Ty.arr e n ∧ te.nf = n ∧ P.info? T' = some ie ∧ ie.size = e.sz := by
    cases ht : te.ty <;> rw [ht] at hp hd <;> first | (cases hp; done) | skip
    dsimp only at hd
    cases ha : te.arr <;> rw [ha] at hd <;> dsimp only [cond] at hd
    · obtain ⟨fs, hu, _⟩ := hd
      exact .inl ⟨fs, hu⟩
    · obtain ⟨n, T', e, hu, k1, k2, ie, k3, k4, _⟩ := hd
      exact .inr ⟨n, T', e, ie, hu, k1, k2, k3, k4⟩
  have hz : (te.ty.val (zeroVals te.ty)).cells = (zeroVals te.ty).toArray := by simp [Ty.val, hp, Value.cells]
  obtain ⟨cs', f1, f2, f3⟩ := buildL_sound (cs := (zeroVals te.ty).toArray) h hl hr (by simpa using zero_rel te.ty) (by simpa using zero_one te.ty)
  have e0 : (ps.map fun (x : Nat × Operand) => (x.1, a.eval x.2)).toList = ps.toList.map fun p => (p.1, a.eval p.2) := by simp
  rw [← e0] at f1
  refine ⟨.agg cs', run_build w T _ cs' ?_, cs'.toList, by simp, f3, f2⟩
  unfold Program.built
  rcases hst with ⟨fs, hu⟩ | ⟨n, T', e, ie, hu, k1, k2, k3, k4⟩
  · obtain ⟨_, hpl⟩ := hok.fields fs hu
    simp only [h1, hu, h2, hpl, hz]
    have e2 : (fun (i : Nat) => (placesOf te.nf te.ty).toArray[i]?) = fun (i : Nat) => (placesOf te.nf te.ty)[i]? := by funext i; simp
    rw [e2]
    exact f1
  · simp only [h1, hu, h2, k3, hz, k4]
    refine fill_more (fun i p hi => ?_) _ _ _ f1
    rw [k1, k2] at hi
    rw [placesOf_arr e n i p hi]

end Go.Abs

set_option linter.unusedSimpArgs false
set_option linter.unusedVariables false
namespace Go.Abs
open Go
variable {P : Program} {E : Env} {w0 : Start} {w : World} {conc : Conc} {st : ASt} {a : Act}

/-- The entries es read as the list l. -/
def EntsRep (P : Program) (w : World) (ok : Nat → Prop) (k v : Ty) (l : List (k.den × v.den)) (es : List MapEntry) : Prop :=
  es.length = l.length ∧ ∀ (i : Nat) (x : k.den × v.den) (e : MapEntry), l[i]? = some x → es[i]? = some e → (∃ ks, e.key = k.val ks ∧ Rep P k w ok ks x.1) ∧ ∃ us, e.val = v.val us ∧ Rep P v w ok us x.2

theorem EntsRep.cons {k v : Ty} {ok : Nat → Prop} {x : k.den × v.den} {l : List (k.den × v.den)} {e : MapEntry} {es : List MapEntry} (h : EntsRep P w ok k v (x :: l) (e :: es)) :
    ((∃ ks, e.key = k.val ks ∧ Rep P k w ok ks x.1) ∧ ∃ us, e.val = v.val us ∧ Rep P v w ok us x.2) ∧ EntsRep P w ok k v l es :=
  ⟨h.2 0 x e rfl rfl, by simpa using h.1, fun i y f hy hf => h.2 (i + 1) y f (by simpa using hy) (by simpa using hf)⟩

/-- What is found by a key. -/
theorem findR_spec {k u : Ty} {ok : Nat → Prop} (n : k.den) : (l : List (k.den × u.den)) → (es : List MapEntry) → (j : Nat) → EntsRep P w ok k u l es →
    (findR k n (l.map (·.1)) es j = none ∧ mgetE k.beq l n = none ∧ ∀ y, mputE k.beq l n y = l ++ [(n, y)]) ∨
    ∃ i e x m, findR k n (l.map (·.1)) es j = some (j + i, e.val) ∧ es[i]? = some e ∧ l[i]? = some (m, x) ∧ k.beq m n = true ∧ mgetE k.beq l n = some x ∧ ∀ y, mputE k.beq l n y = l.set i (n, y)
  | [], es, j, h => .inl ⟨by cases es <;> rfl, rfl, fun _ => rfl⟩
  | p :: l, [], j, h => by have := h.1; simp at this
  | p :: l, e :: es, j, h => by
    obtain ⟨_, hr⟩ := h.cons
    cases hn : k.beq p.1 n
    · rcases findR_spec n l es (j + 1) hr with ⟨g1, g2, g3⟩ | ⟨i, e', x, m, g1, g2, g3, g4, g5, g6⟩
      · refine .inl ⟨?_, ?_, fun y => ?_⟩
        · simp only [List.map_cons, findR, hn, cond_false, g1]
        · simp only [mgetE, hn, cond_false, g2]
        · simp only [mputE, hn, cond_false, g3, List.cons_append]
      · refine .inr ⟨i + 1, e', x, m, ?_, by simpa using g2, by simpa using g3, g4, ?_, fun y => ?_⟩
        · simp only [List.map_cons, findR, hn, cond_false, g1]
          rw [show j + 1 + i = j + (i + 1) from by omega]
        · simp only [mgetE, hn, cond_false, g5]
        · simp only [mputE, hn, cond_false, g6, List.set_cons_succ]
    · refine .inr ⟨0, e, p.2, p.1, ?_, rfl, rfl, hn, by simp only [mgetE, hn, cond_true], fun y => by simp only [mputE, hn, cond_true, List.set_cons_zero]⟩
      simp only [List.map_cons, findR, hn, cond_true, Nat.add_zero]

/-- A map's entries, asked by a key. -/
theorem find_spec {K : Nat} {k u : Ty} (hK : KeyOK P K k) {ok : Nat → Prop} {ks : List Value} {n : k.den} (hk : Rep P k w ok ks n) {l : List (k.den × u.den)} {es : List MapEntry} (h : EntsRep P w ok k u l es) :
    ((Instr.findKey K (k.val ks) es).run P w = .ok none w ∧ mgetE k.beq l n = none ∧ ∀ y, mputE k.beq l n y = l ++ [(n, y)]) ∨
    ∃ i e x m, (Instr.findKey K (k.val ks) es).run P w = .ok (some (i, e.val)) w ∧ es[i]? = some e ∧ l[i]? = some (m, x) ∧ k.beq m n = true ∧ mgetE k.beq l n = some x ∧ ∀ y, mputE k.beq l n y = l.set i (n, y) := by
  have hf := hK.find w ok ks n (l.map (·.1)) es hk (by simp [h.1]) (fun i y e hy he => by
    rw [List.getElem?_map, Option.map_eq_some_iff] at hy
    obtain ⟨x, hx, rfl⟩ := hy
    exact (h.2 i x e hx he).1)
  rcases findR_spec (P := P) (w := w) n l es 0 h with ⟨g1, g2, g3⟩ | ⟨i, e, x, m, g1, g2⟩
  · exact .inl ⟨by rw [hf, g1], g2, g3⟩
  · rw [Nat.zero_add] at g1
    exact .inr ⟨i, e, x, m, by rw [hf, g1], g2⟩

theorem eqs_val : (k : Ty) → k.eqs = true → {ok : Nat → Prop} → {vs us : List Value} → {x y : k.den} → Rep P k w ok vs x → Rep P k w ok us y → k.beq x y = true → vs = us
  | .int _, _, _, _, _, _, _, h1, h2, hb => by
    simp only [Rep] at h1 h2
    have : _ = _ := eq_of_beq hb
    rw [h1, h2, this]
  | .bool, _, _, _, _, _, _, h1, h2, hb => by
    simp only [Rep] at h1 h2
    have : _ = _ := eq_of_beq hb
    rw [h1, h2, this]
  | .str, _, _, _, _, _, _, h1, h2, hb => by
    simp only [Rep] at h1 h2
    have : _ = _ := eq_of_beq hb
    rw [h1, h2, this]
  | .pair a b, he, _, vs, us, (x, x'), (y, y'), h1, h2, hb => by
    simp only [Ty.eqs, Bool.and_eq_true] at he
    simp only [Ty.beq, Bool.and_eq_true] at hb
    have e1 := eqs_val a he.1 h1.1 h2.1 hb.1
    have e2 := eqs_val b he.2 h1.2 h2.2 hb.2
    rw [← List.take_append_drop a.sz vs, ← List.take_append_drop a.sz us, e1, e2]
  | .unit, he, _, _, _, _, _, _, _, _ => by cases he
  | .slice _, he, _, _, _, _, _, _, _, _ => by cases he
  | .fn1 _ _, he, _, _, _, _, _, _, _, _ => by cases he
  | .fn2 _ _ _, he, _, _, _, _, _, _, _, _ => by cases he
  | .seq _, he, _, _, _, _, _, _, _, _ => by cases he
  | .seq2 _ _, he, _, _, _, _, _, _, _, _ => by cases he
  | .map _ _, he, _, _, _, _, _, _, _, _ => by cases he
  | .ptr _, he, _, _, _, _, _, _, _, _ => by cases he
  | .sliceN _, he, _, _, _, _, _, _, _, _ => by cases he

theorem eqs_flat : (k : Ty) → k.eqs = true → k.flat = true
  | .int _, _ => rfl
  | .bool, _ => rfl
  | .str, _ => rfl
  | .pair a b, h => by
    simp only [Ty.eqs, Bool.and_eq_true] at h
    simp only [Ty.flat, eqs_flat a h.1, eqs_flat b h.2, Bool.and_self]
  | .unit, h => by cases h
  | .slice _, h => by cases h
  | .fn1 _ _, h => by cases h
  | .fn2 _ _ _, h => by cases h
  | .seq _, h => by cases h
  | .seq2 _ _, h => by cases h
  | .map _ _, h => by cases h
  | .ptr _, h => by cases h
  | .sliceN _, h => by cases h

theorem getObj_run {r : Nat} {es : Array MapEntry} {clock : Nat} (hb : w.heap[r]? = some (.map es clock)) : (getObj r).run P w = .ok (.map es clock) w := by simp [getObj, Sem.run, hb]

theorem mapOf_spec (h : Mod P w0 conc st a w) {q : Ty} {u : Ty} {b : AVal} {v : Value} {l : List (q.den × u.den)} (hr : (mapOf q u b).run st = some l) (hv : VRel P w conc (okOf conc) b v) :
    ∃ m es clock, v = .map (some m) ∧ w.heap[m]? = some (.map es clock) ∧ EntsRep P w (okOf conc) q u l es.toList := by
  have ofRep : ∀ {c : Value} {l : List (q.den × u.den)}, Rep P (.map q u) w (okOf conc) [c] l → ∃ m es clock, c = .map (some m) ∧ w.heap[m]? = some (.map es clock) ∧ EntsRep P w (okOf conc) q u l es.toList := by
    rintro c l ⟨m, es, clock, e1, _, e3, e4, e5⟩
    cases e1
    exact ⟨m, es, clock, rfl, e3, by simpa using e4, fun i x e hx he => e5 i x e hx (by simpa using he)⟩
  cases b <;> simp only [mapOf] at hr <;> try (cases hr; done)
  · rename_i t d
    have hc : castTy (t := t) (t' := .map q u) d = some l := by
      cases hc : castTy (t := t) (t' := .map q u) d with
      | none => rw [hc] at hr; cases hr
      | some z => rw [hc] at hr; cases hr; rfl
    obtain ⟨rfl, rfl⟩ := castTy_some hc
    obtain ⟨vs, e1, e2⟩ := hv
    have hl := e2.len
    match vs, hl with
    | [c], _ =>
      have : v = c := by rw [e1]; rfl
      subst this
      exact ofRep e2
  · rename_i id ver
    simp only [RM.run] at hr
    split at hr
    · rename_i cv k' u' l' ho
      obtain ⟨h1, h2⟩ := cond_some hr
      have := nbeq_true h1
      subst this
      have hc : castTy (t := .map k' u') (t' := .map q u) l' = some l := by
        cases hc : castTy (t := .map k' u') (t' := .map q u) l' with
        | none => rw [hc] at h2; cases h2
        | some z => rw [hc] at h2; cases h2; rfl
      obtain ⟨he, hl⟩ := castTy_some hc
      cases he
      subst hl
      obtain ⟨c, ow, g1, g2⟩ := obj_rel h ho
      obtain ⟨cv', c', ow', k1, _, _, k3⟩ := hv
      rw [g1] at k1; cases k1
      have hvc := k3 rfl
      subst hvc
      obtain ⟨_, m, es, clock, e1, e3, e4, e5⟩ := g2
      exact ⟨m, es, clock, e1, e3, by simpa using e4, fun i x e hx he => e5 i x e hx (by simpa using he)⟩
    · rename_i cv k' u' l' ho
      obtain ⟨h1, h2⟩ := cond_some hr
      have := nbeq_true h1
      subst this
      have hc : castTy (t := .map k' u') (t' := .map q u) l' = some l := by
        cases hc : castTy (t := .map k' u') (t' := .map q u) l' with
        | none => rw [hc] at h2; cases h2
        | some z => rw [hc] at h2; cases h2; rfl
      obtain ⟨he, hl⟩ := castTy_some hc
      cases he
      subst hl
      obtain ⟨c, ow, g1, g2⟩ := obj_rel h ho
      obtain ⟨cv', c', ow', k1, _, _, k3⟩ := hv
      rw [g1] at k1; cases k1
      have hvc := k3 rfl
      subst hvc
      exact ofRep g2.2
    · cases hr

theorem rdK_sound (hE : EnvOK P E) (h : Mod P w0 conc st a w) {L : List (Nat × Bool)} (hl : labs a.tmps L) {q : Ty} {x : Operand} {n : q.den} (hr : (rdK E q L x).run st = some n) :
    ∃ ks, a.eval x = q.val ks ∧ ∀ I, Rep P q w (okOf (frzL conc I)) ks n := by
  obtain ⟨s, h1, h2⟩ := RM.bind_some hr
  obtain ⟨d, h3, h4⟩ := RM.bind_some h2
  obtain ⟨us, q1, q2⟩ := peek_spec hE h h3 (rd_rel h hl h1)
  split at h4
  · rename_i hd
    cases h4
    refine ⟨us, q1, fun I => ?_⟩
    exact (q2 I (by rw [hd]; intro z hz; simp [ids] at hz)).2
  · cases h4

theorem map_desc (hE : EnvOK P E) {T : Nat} {q : Ty} {u : Ty} (hT : E.ty T = some (.map q u)) :
    ∃ K V, P.underlying T = some (.map K V) ∧ KeyOK P K q ∧ ElOK P V u := by
  obtain ⟨te, hte, hok⟩ := hE.tyOK hT
  have hd := hok.desc
  rw [hte] at hd
  obtain ⟨K, V, h1, h2, h3⟩ := hd
  exact ⟨K, V, h1, h2, h3⟩

theorem lookup_sound (hE : EnvOK P E) (h : Mod P w0 conc st a w) {T : Nat} {q : Ty} {u : Ty} (hT : E.ty T = some (.map q u)) (hu : u.noFn = true) {b : AVal} {v : Value} {l : List (q.den × u.den)} (hb : VRel P w conc (okOf conc) b v)
    (hl : (mapOf q u b).run st = some l) {ks : List Value} {n : q.den} (hk : Rep P q w (okOf conc) ks n) (ok : Bool) : ∃ r, (Instr.lookup T v (q.val ks) ok).run P w = .ok r w ∧ SRel P w conc (okOf conc) (lookS u ok (mgetE q.beq l n)) r := by
  obtain ⟨K, V, h1, h2, inf, h3, h4, h5, h6, h7⟩ := map_desc hE hT
  obtain ⟨m, es, clock, rfl, e2, e3⟩ := mapOf_spec h hl hb
  have fin : ∀ (d : u.den) (us : List Value) (t : Bool), Rep P u w (okOf conc) us d → (mgetE q.beq l n).getD u.dflt = d → (mgetE q.beq l n).isSome = t →
      SRel P w conc (okOf conc) (lookS u ok (mgetE q.beq l n)) (if ok then .tuple #[u.val us, .bool t] else u.val us) := by
    intro d us t hr hd ht
    unfold lookS
    rw [hd, ht]
    cases ok with
    | true => exact ⟨[u.val us, .bool t], rfl, ⟨us, rfl, hr⟩, vrel_bool (conc := conc) t, trivial⟩
    | false => exact ⟨us, rfl, hr⟩
  have hc : (Instr.checkKey es.isEmpty 10000 K (q.val ks)).run P w = .ok () w := h2.chk w _ ks n _ hk
  rcases find_spec h2 hk e3 with ⟨g1, g2, _⟩ | ⟨i, e, x, m', g1, g2, g3, g4, g5, _⟩
  · refine ⟨if ok then .tuple #[u.val (zeroVals u), .bool false] else u.val (zeroVals u), ?_, fin u.dflt _ _ (zero_rep u hu) (by rw [g2]; rfl) (by rw [g2]; rfl)⟩
    have hz : (zeroValue V).run P w = .ok (u.val (zeroVals u)) w := by simp [zeroValue, typeInfo, h3, h6]
    simp only [Instr.lookup, Sem.run_bind, run_underlying h1, Result.andThen_ok, getObj_run e2, hc, g1, hz, Sem.run_pure]
  · obtain ⟨_, us, k3, k4⟩ := e3.2 i _ e g3 g2
    refine ⟨if ok then .tuple #[u.val us, .bool true] else u.val us, ?_, fin x _ _ k4 (by rw [g5]; rfl) (by rw [g5]; rfl)⟩
    simp only [Instr.lookup, Sem.run_bind, run_underlying h1, Result.andThen_ok, getObj_run e2, hc, g1, Sem.run_pure, k3]

end Go.Abs

set_option linter.unusedSimpArgs false
set_option linter.unusedVariables false
namespace Go.Abs
open Go
variable {P : Program} {E : Env} {w0 : Start} {w : World} {conc : Conc} {st : ASt} {a : Act}

theorem isIn_mem {l : List Nat} {n : Nat} (h : isIn l n = true) : n ∈ l := by
  obtain ⟨x, hx, he⟩ := List.any_eq_true.1 h
  rw [nbeq] at he
  have : n = x := by simpa using he
  exact this ▸ hx

theorem eval_tmp {s : Nat} {b : Bool} (h : a.eval (.tmp s) = .bool b) : a.tmps[s]? = some (.bool b) := by
  simp only [Act.eval, Array.getD_eq_getD_getElem?] at h
  cases hs : a.tmps[s]? with
  | none => rw [hs] at h; cases h
  | some v => rw [hs] at h; simp at h; rw [h]

theorem labs_cons {s : Nat} {b : Bool} {L : List (Nat × Bool)} (h : a.tmps[s]? = some (.bool b)) (hl : labs a.tmps L) : labs a.tmps ((s, b) :: L) := by
  intro p hp
  rcases List.mem_cons.1 hp with rfl | hp
  · exact h
  · exact hl p hp

theorem typAt_proj : (n i : Nat) → (t : Ty) → {d : t.den} → {u : Σ u : Ty, u.den} → proj n i t d = some u → typAt n i t = some u.1
  | 1, 0, t, d, u, h => by
    simp only [proj, Option.some.injEq] at h
    subst h
    simp [typAt]
  | n + 2, 0, t, d, u, h => by
    cases t <;> simp only [proj] at h <;> first | (cases h; done) | skip
    simp only [Option.some.injEq] at h
    subst h
    rfl
  | n + 2, i + 1, t, d, u, h => by
    cases t <;> simp only [proj] at h <;> first | (cases h; done) | skip
    exact typAt_proj (n + 1) i _ h
  | 0, i, t, d, u, h => by cases t <;> simp [proj] at h
  | 1, i + 1, t, d, u, h => by cases t <;> simp [proj] at h

theorem run_aggB {T : Nat} {b : Bool} (h : aggB P T = some b) : (isAgg T).run P w = .ok b w := by
  unfold aggB at h
  cases hd : P.underlying T with
  | none => rw [hd] at h; cases h
  | some ds =>
    rw [hd] at h
    simp only [Option.map_some, Option.some.injEq] at h
    subst h
    unfold isAgg
    rw [Sem.run_bind, run_underlying hd]
    cases ds <;> rfl

/-- A field of a struct that is data. -/
theorem field_sound {T : Nat} {te : TyE} (hT : TyOK P T te) (ha : te.arr = false) (hp : te.ty.isPair = true) {i : Nat} {d : te.ty.den} {u : Σ u : Ty, u.den} (hu : proj te.nf i te.ty d = some u) (hn : u.1 ≠ .unit)
    {v : Value} {vs : List Value} (hv : v = te.ty.val vs) (hr : Rep P te.ty w (okOf conc) vs d) :
    ∃ y, (Instr.field T v i).run P w = .ok y w ∧ SRel P w conc (okOf conc) (.v (.pure u.1 u.2)) y := by
  obtain ⟨fs, hfs, hsz⟩ : ∃ fs, P.underlying T = some (.struct fs) ∧ fs.size = te.nf := by
    have hd := hT.desc
    cases ht : te.ty <;> rw [ht] at hp hd <;> first | (cases hp; done) | skip
    dsimp only at hd
    rw [ha] at hd
    exact hd
  obtain ⟨o, h1, h2, h3⟩ := proj_rep te.nf i te.ty (u := u.1) (x := u.2) hu hr
  have hlt : i < fs.size := by rw [hsz]; exact offOf_lt _ _ _ _ h1
  have hf : fs[i]? = some fs[i] := Array.getElem?_eq_getElem hlt
  obtain ⟨g1, inf, g2, g3⟩ := (hT.fields fs hfs).1 i fs[i] hf
  have hag := hT.agg fs hfs i fs[i] u.1 hf (typAt_proj _ _ _ hu)
  have ho : o = fs[i].offset := by rw [h1] at g1; exact Option.some.inj g1
  subst ho
  refine ⟨u.1.val (chunk vs fs[i].offset u.1.sz), ?_, ⟨_, rfl, h3⟩⟩
  have hv' : v = .agg vs.toArray := by rw [hv]; simp [Ty.val, hp]
  rw [hv']
  obtain ⟨ha1, inf', ha2, ha3⟩ := hag
  have hl := h3.len
  have hsz' : (sizeOf fs[i].type).run P w = .ok u.1.sz w := by simp [sizeOf, typeInfo, ha2, ha3]
  have hcs : (vs.toArray.extract fs[i].offset (fs[i].offset + u.1.sz)) = (chunk vs fs[i].offset u.1.sz).toArray := by
    apply Array.ext'
    simp [chunk, List.extract]
  simp only [Instr.field, Sem.run_bind, run_underlying hfs, Result.andThen_ok, hf]
  simp only [asAgg, Sem.run_bind, Sem.run_pure, Result.andThen_ok, Go.part, run_aggB ha1]
  cases hb : u.1.isPair with
  | true =>
    simp only [if_true, Sem.run_bind, hsz', Result.andThen_ok, Sem.run_pure, hcs]
    simp [Ty.val, hb]
  | false =>
    have h1 : u.1.sz = 1 := by
      obtain ⟨t, x⟩ := u
      cases t <;> first | rfl | exact absurd rfl hn | cases hb
    rw [h1] at hl ⊢
    have hch : chunk vs fs[i].offset 1 = vs[fs[i].offset]?.toList := by
      unfold chunk
      cases hx : vs[fs[i].offset]? with
      | none =>
        rw [List.getElem?_eq_none_iff] at hx
        rw [List.drop_eq_nil_of_le hx]; rfl
      | some x =>
        obtain ⟨h5, h6⟩ := List.getElem?_eq_some_iff.1 hx
        rw [List.drop_eq_getElem_cons h5, h6]; rfl
    rw [hch] at hl ⊢
    cases hx : vs[fs[i].offset]? with
    | none => rw [hx] at hl; cases hl
    | some x =>
      have : vs.toArray[fs[i].offset]? = some x := by simpa using hx
      simp [this, Ty.val, hb]

theorem pick_sound (h : Mod P w0 conc st a w) {L : List (Nat × Bool)} (hl : labs a.tmps L) {c x y : Operand} {s : SVal} (hr : (pickOp L c x y).run st = some s) :
    ∃ v, (do pure (Next.value (if ← asBool (a.eval c) then a.eval x else a.eval y)) : Sem Next).run P w = .ok (.value v) w ∧ SRel P w conc (okOf conc) s v := by
  cases c with
  | tmp t =>
    simp only [pickOp] at hr
    obtain ⟨b, g1, hr1⟩ := RM.bind_some hr
    clear hr
    obtain ⟨tv, g2, hr⟩ := RM.bind_some hr1
    clear hr1
    obtain ⟨e1, rfl⟩ := boolOf_sound g2 (rdA_rel h hl g1)
    have et := eval_tmp e1
    rw [e1]
    refine ⟨if tv then a.eval x else a.eval y, rfl, ?_⟩
    split at hr
    · obtain ⟨c', k1, hr⟩ := RM.bind_some hr
      obtain ⟨q, k2, hr⟩ := RM.bind_some hr
      cases hr
      cases tv with
      | true => exact vrel_bool (conc := conc) true
      | false =>
        obtain ⟨e3, _⟩ := boolOf_sound k2 (rdA_rel h (labs_cons et hl) k1)
        rw [if_neg (by simp), e3]
        exact vrel_bool (conc := conc) q
    · obtain ⟨c', k1, hr⟩ := RM.bind_some hr
      obtain ⟨q, k2, hr⟩ := RM.bind_some hr
      cases hr
      cases tv with
      | false => exact vrel_bool (conc := conc) false
      | true =>
        obtain ⟨e3, _⟩ := boolOf_sound k2 (rdA_rel h (labs_cons et hl) k1)
        rw [if_pos rfl, e3]
        exact vrel_bool (conc := conc) q
    · cases hr
  | _ => cases hr

theorem valOp_sound (hE : EnvOK P E) (h : Mod P w0 conc st a w) {L : List (Nat × Bool)} (hl : labs a.tmps L) {o : Oper} {s : SVal} (hr : (valOp E L true o.op).run st = some s) : Gives P conc st a w o s := by
  cases hop : o.op with
  | move x =>
    rw [hop] at hr
    exact ⟨a.eval x, by simp [execOp, hop], rd_rel h hl hr⟩
  | assign x =>
    rw [hop] at hr
    exact ⟨a.eval x, by simp [execOp, hop], rd_rel h hl hr⟩
  | binOp b T x y U =>
    rw [hop] at hr
    obtain ⟨s1, g1, hr⟩ := RM.bind_some hr
    obtain ⟨s2, g2, hr⟩ := RM.bind_some hr
    obtain ⟨r, g3, hr⟩ := RM.bind_some hr
    cases hr
    obtain ⟨u, k1, k2⟩ := binOp_sound hE h x y g3 (rd_rel h hl g1) (rd_rel h hl g2)
    exact gives_of (by simp only [execOp, hop]) ⟨u, k1, k2⟩
  | unOp u T x =>
    rw [hop] at hr
    obtain ⟨b, g1, hr⟩ := RM.bind_some hr
    have hv := rdA_rel h hl g1
    refine gives_of (x := Op.unary u (a.eval x)) (by simp only [execOp, hop]) ?_
    split at hr
    · obtain ⟨vs, e1, e2⟩ := hv
      rw [rep_bool e1 e2]
      cases u <;> first | (cases hr; done) | skip
      cases hr
      exact ⟨_, rfl, vrel_bool (conc := conc) _⟩
    · obtain ⟨vs, e1, e2⟩ := hv
      rw [rep_int e1 e2]
      cases u <;> first | (cases hr; done) | skip
      cases hr
      exact ⟨_, rfl, vrel_int (conc := conc) _⟩
    · cases hr
  | pick c x y =>
    rw [hop] at hr
    obtain ⟨v, h1, h2⟩ := pick_sound h hl hr
    refine ⟨v, ?_, h2⟩
    simp only [execOp, hop]
    exact h1
  | load T x =>
    rw [hop] at hr
    simp only [valOp] at hr
    cases hT : E.ty T with
    | none => rw [hT] at hr; cases hr
    | some t =>
      rw [hT] at hr
      obtain ⟨b, g1, hr⟩ := RM.bind_some hr
      exact gives_of (by simp only [execOp, hop]) (loadAt_sound hE h hT hr (rdA_rel h hl g1))
  | fieldAddr T x i =>
    rw [hop] at hr
    simp only [valOp] at hr
    cases hT : Map.get E.G T with
    | none => rw [hT] at hr; cases hr
    | some te =>
      rw [hT] at hr
      obtain ⟨hp, hr⟩ := cond_some hr
      simp only [Bool.and_eq_true, Bool.not_eq_true'] at hp
      obtain ⟨b, g1, hr⟩ := RM.bind_some hr
      exact gives_of (by simp only [execOp, hop]) (fieldAddrOp_sound (hE.ty T te hT) hp.2 hp.1 hr (rdA_rel h hl g1) h)
  | field T x i =>
    rw [hop] at hr
    simp only [valOp] at hr
    cases hT : Map.get E.G T with
    | none => rw [hT] at hr; cases hr
    | some te =>
      rw [hT] at hr
      obtain ⟨hp, hr⟩ := cond_some hr
      simp only [Bool.and_eq_true, Bool.not_eq_true'] at hp
      obtain ⟨b, g1, hr⟩ := RM.bind_some hr
      split at hr
      · rename_i t d
        split at hr
        · rename_i d' hd
          split at hr
          · rename_i u hu
            cases hi : u.1.isUnit with
            | true => rw [hi] at hr; cases hr
            | false =>
              rw [hi] at hr
              cases hr
              obtain ⟨e, he⟩ := castTy_some hd
              subst e
              subst he
              obtain ⟨vs, e1, e2⟩ := rdA_rel h hl g1
              exact gives_of (by simp only [execOp, hop]) (field_sound (hE.ty T te hT) hp.2 hp.1 hu (fun e => by rw [e] at hi; cases hi) e1 e2)
          · cases hr
        · cases hr
      · cases hr
  | indexAddr T x i =>
    rw [hop] at hr
    simp only [valOp] at hr
    cases hT : Map.get E.G T with
    | none => rw [hT] at hr; cases hr
    | some te =>
      rw [hT] at hr
      dsimp only at hr
      cases ha : te.arr <;> rw [ha] at hr <;> dsimp only [cond] at hr
      · split at hr
        · rename_i e he
          obtain ⟨b, g1, hr⟩ := RM.bind_some hr
          obtain ⟨n, g2, hr⟩ := RM.bind_some hr
          obtain ⟨k, hk⟩ := rdInt_sound h hl g2
          refine gives_of (x := Instr.indexAt T (a.eval x) (a.eval i)) (by simp only [execOp, hop]) ?_
          rw [hk]
          exact indexAddrOp_sound hE h (by unfold Env.ty; rw [hT]; exact congrArg some he) hr (rdA_rel h hl g1)
        · cases hr
      · obtain ⟨b, g1, hr⟩ := RM.bind_some hr
        obtain ⟨n, g2, hr⟩ := RM.bind_some hr
        obtain ⟨_, g3, hr⟩ := RM.opt_some hr
        have h0 : 0 ≤ n := by
          split at g3
          · assumption
          · cases g3
        obtain ⟨k, hk⟩ := rdInt_sound h hl g2
        refine gives_of (x := Instr.indexAt T (a.eval x) (a.eval i)) (by simp only [execOp, hop]) ?_
        rw [hk]
        exact arrAddrOp_sound (hE.ty T te hT) ha h0 k hr (rdA_rel h hl g1) h
  | index T x i =>
    rw [hop] at hr
    simp only [valOp] at hr
    split at hr
    · rename_i hT
      obtain ⟨b, g1, hr⟩ := RM.bind_some hr
      split at hr
      · rename_i l
        obtain ⟨n, g2, hr⟩ := RM.bind_some hr
        obtain ⟨c, g3, hr⟩ := RM.opt_some hr
        cases hr
        rw [part_true] at g3
        obtain ⟨i1, i2, i3⟩ := geti_some g3
        obtain ⟨k, hk⟩ := rdInt_sound h hl g2
        obtain ⟨vs, e1, e2⟩ := rdA_rel h hl g1
        obtain ⟨te, hte, hok⟩ := hE.tyOK hT
        have hd := hok.desc
        rw [hte] at hd
        refine gives_of (x := Instr.index T (a.eval x) (a.eval i)) (by simp only [execOp, hop]) ⟨.int .u8 (c.toNat : Int), ?_, vrel_int (conc := conc) _⟩
        rw [hk, rep_str e1 e2]
        have hb : (⟨⟨l⟩⟩ : ByteArray)[n.toNat]? = some c := by
          have hlt : n.toNat < (⟨⟨l⟩⟩ : ByteArray).size := i2
          rw [getElem?_pos (⟨⟨l⟩⟩ : ByteArray) n.toNat hlt]
          exact congrArg some (List.getElem?_eq_some_iff.1 i3).2
        simp only [Instr.index, asIntOf, pure_bind, Sem.run_bind, run_underlying hd, Result.andThen_ok, if_pos i1, hb]
        rfl
      · cases hr
    · cases hr
  | extract t i =>
    rw [hop] at hr
    simp only [valOp] at hr
    obtain ⟨s1, g1, hr⟩ := RM.bind_some hr
    have hv := rd_rel h hl g1
    split at hr
    · rename_i l
      split at hr
      · rename_i b hb
        cases hr
        obtain ⟨vs, e1, e2⟩ := hv
        obtain ⟨v, e3, e4⟩ := e2.get i b hb
        refine gives_of (x := Instr.extract (a.eval t) i) (by simp only [execOp, hop]) ⟨v, ?_, e4⟩
        rw [e1]
        have : vs.toArray[i]? = some v := by simpa using e3
        simp only [Instr.extract, this]
        rfl
      · cases hr
    · cases hr
  | lookup T m k ok =>
    rw [hop] at hr
    simp only [valOp] at hr
    split at hr
    · rename_i q u hT
      obtain ⟨hu, hr1⟩ := cond_some hr
      obtain ⟨b, g1, hr2⟩ := RM.bind_some hr1
      obtain ⟨l, g2, hr3⟩ := RM.bind_some hr2
      obtain ⟨n, g3, hr4⟩ := RM.bind_some hr3
      cases hr4
      obtain ⟨ks, hk1, hk2⟩ := rdK_sound hE h hl g3
      obtain ⟨K, V, _, hKK, _⟩ := map_desc hE hT
      obtain ⟨r, k1, k2⟩ := lookup_sound hE h hT hu (rdA_rel h hl g1) g2 ((hk2 []).flat q (eqs_flat q hKK.eqs)) ok
      refine gives_of (x := Instr.lookup T (a.eval m) (a.eval k) ok) (by simp only [execOp, hop]) ⟨r, ?_, k2⟩
      rw [hk1]
      exact k1
    · cases hr
  | slice T x lo hi mx =>
    rw [hop] at hr
    cases mx with
    | some m => cases hr
    | none =>
      simp only [valOp] at hr
      cases hT : E.ty T with
      | none => rw [hT] at hr; cases hr
      | some t =>
        rw [hT] at hr
        obtain ⟨b, g1, hr⟩ := RM.bind_some hr
        exact gives_of (by simp only [execOp, hop, Option.map_none]) (sliceOp_sound hE h hl hT hr (rdA_rel h hl g1))
  | convert S T x =>
    rw [hop] at hr
    simp only [valOp] at hr
    split at hr
    · rename_i k k' hS hT
      obtain ⟨n, g1, hr⟩ := RM.bind_some hr
      cases hr
      obtain ⟨q, hq⟩ := rdInt_sound h hl g1
      obtain ⟨te, hte, hok⟩ := hE.tyOK hS
      obtain ⟨te', hte', hok'⟩ := hE.tyOK hT
      have hd := hok.desc
      have hd' := hok'.desc
      rw [hte] at hd
      rw [hte'] at hd'
      refine gives_of (x := Go.convert S T (a.eval x)) (by simp only [execOp, hop]) ⟨_, ?_, vrel_int (conc := conc) _⟩
      rw [hq]
      simp only [Go.convert, Sem.run_bind, run_underlying hd, run_underlying hd', Result.andThen_ok]
      rfl
    · rename_i k hS hT
      obtain ⟨hi, hr⟩ := cond_some hr
      obtain ⟨n, g1, hr⟩ := RM.bind_some hr
      cases hr
      obtain ⟨q, hq⟩ := rdInt_sound h hl g1
      obtain ⟨te, hte, hok⟩ := hE.tyOK hS
      have hd := hok.desc
      rw [hte] at hd
      have hd' := hE.fl T (isIn_mem hi)
      refine gives_of (x := Go.convert S T (a.eval x)) (by simp only [execOp, hop]) ⟨.float .f64 (fofI n), ?_, rfl⟩
      rw [hq]
      simp only [Go.convert, Sem.run_bind, run_underlying hd, run_underlying hd', Result.andThen_ok]
      rfl
    · rename_i k hS hT
      obtain ⟨hi, hr⟩ := cond_some hr
      obtain ⟨b, g1, hr⟩ := RM.bind_some hr
      split at hr
      · rename_i w'
        obtain ⟨n, g2, hr⟩ := RM.opt_some hr
        cases hr
        rw [part_true] at g2
        have hv : a.eval x = .float .f64 w' := rdA_rel h hl g1
        obtain ⟨te, hte, hok⟩ := hE.tyOK hT
        have hd := hok.desc
        rw [hte] at hd
        have hd' := hE.fl S (isIn_mem hi)
        refine gives_of (x := Go.convert S T (a.eval x)) (by simp only [execOp, hop]) ⟨.int k n, ?_, vrel_int (conc := conc) _⟩
        rw [hv]
        simp only [Go.convert, Sem.run_bind, run_underlying hd, run_underlying hd', Result.andThen_ok]
        unfold ftoI at g2
        split at g2
        · rename_i m hm
          split at g2
          · rename_i hb
            cases g2
            simp only [Conv.floatToInt, hm, if_pos hb]
            rfl
          · cases g2
        · cases g2
      · cases hr
    · cases hr
  | build T ps =>
    rw [hop] at hr
    simp only [valOp] at hr
    cases hT : Map.get E.G T with
    | none => rw [hT] at hr; cases hr
    | some te =>
      rw [hT] at hr
      obtain ⟨hp, hr⟩ := cond_some hr
      simp only [Bool.and_eq_true] at hp
      obtain ⟨l, g1, hr⟩ := RM.bind_some hr
      cases hr
      exact gives_of (by simp only [execOp, hop]) (build_sound hE h hl hT hp.1 hp.2 g1)
  | call c =>
    rw [hop] at hr
    obtain ⟨cal, args, tys⟩ := c
    cases cal with
    | value f => cases hr
    | invoke r m => cases hr
    | builtin b =>
      cases b <;> first | (cases hr; done) | skip
      case len =>
        simp only [valOp] at hr
        split at hr
        · rename_i x T hx hTs
          have ha : args = #[x] := by rw [← Array.toArray_toList (xs := args), hx]
          have ht : tys = #[T] := by rw [← Array.toArray_toList (xs := tys), hTs]
          subst ha ht
          split at hr
          · rename_i e hT
            obtain ⟨b, g1, hr⟩ := RM.bind_some hr
            obtain ⟨n, g2, hr⟩ := RM.bind_some hr
            cases hr
            obtain ⟨ad, cap, hv⟩ := lenOf_sound (T := T) h g2 (rdA_rel h hl g1)
            obtain ⟨T', hu, _⟩ := slice_desc hE hT
            refine ⟨.int .i64 (n : Int), ?_, vrel_int (conc := conc) _⟩
            simp [execOp, hop, resolve, invoke, builtin, Builtin.len_, hv, run_underlying hu, goInt]
          · rename_i hT
            obtain ⟨b, g1, hr⟩ := RM.bind_some hr
            split at hr
            · rename_i l
              cases hr
              obtain ⟨vs, e1, e2⟩ := rdA_rel h hl g1
              obtain ⟨te, hte, hok⟩ := hE.tyOK hT
              have hd := hok.desc
              rw [hte] at hd
              have hv := rep_str e1 e2
              refine ⟨.int .i64 (l.length : Int), ?_, vrel_int (conc := conc) _⟩
              have hm : (Builtin.len_ #[T] o.type #[.string ⟨⟨l⟩⟩]).run P w = .ok (.int .i64 (l.length : Int)) w := by
                simp only [Builtin.len_, List.getElem?_toArray, List.getElem?_cons_zero]
                rw [Sem.run_bind, run_underlying hd]; rfl
              have he : #[x].map a.eval = #[.string ⟨⟨l⟩⟩] := by simp only [List.map_toArray, List.map_cons, List.map_nil, hv]
              simp only [execOp, hop, resolve, invoke, builtin, pure_bind, he]
              rw [Sem.run_bind, hm]; rfl
            · cases hr
          · cases hr
        · cases hr
      case max =>
        simp only [valOp] at hr
        split at hr
        · rename_i x y hx
          have ha : args = #[x, y] := by rw [← Array.toArray_toList (xs := args), hx]
          subst ha
          obtain ⟨b, g1, hr⟩ := RM.bind_some hr
          split at hr
          · rename_i k n
            obtain ⟨b', g2, hr⟩ := RM.bind_some hr
            split at hr
            · rename_i k' n'
              obtain ⟨rfl, hr'⟩ := ite_some hr
              cases hr'
              obtain ⟨vs, e1, e2⟩ := rdA_rel h hl g1
              obtain ⟨vs', e3, e4⟩ := rdA_rel h hl g2
              have hv := rep_int e1 e2
              have hv' := rep_int e3 e4
              refine ⟨.int k (imax n n'), ?_, vrel_int (conc := conc) _⟩
              have hm : ∀ tys, (Builtin.max_ tys o.type #[.int k n, .int k n']).run P w = .ok (.int k (imax n n')) w := fun _ => rfl
              have he : #[x, y].map a.eval = #[.int k n, .int k n'] := by simp [hv, hv']
              simp only [execOp, hop, resolve, invoke, builtin, pure_bind, he]
              rw [Sem.run_bind, hm]; rfl
            · cases hr
          · cases hr
        · cases hr
      case min =>
        simp only [valOp] at hr
        split at hr
        · rename_i x y hx
          have ha : args = #[x, y] := by rw [← Array.toArray_toList (xs := args), hx]
          subst ha
          obtain ⟨b, g1, hr⟩ := RM.bind_some hr
          split at hr
          · rename_i k n
            obtain ⟨b', g2, hr⟩ := RM.bind_some hr
            split at hr
            · rename_i k' n'
              obtain ⟨rfl, hr'⟩ := ite_some hr
              cases hr'
              obtain ⟨vs, e1, e2⟩ := rdA_rel h hl g1
              obtain ⟨vs', e3, e4⟩ := rdA_rel h hl g2
              have hv := rep_int e1 e2
              have hv' := rep_int e3 e4
              refine ⟨.int k (imin n n'), ?_, vrel_int (conc := conc) _⟩
              have hm : ∀ tys, (Builtin.min_ tys o.type #[.int k n, .int k n']).run P w = .ok (.int k (imin n n')) w := fun _ => rfl
              have he : #[x, y].map a.eval = #[.int k n, .int k n'] := by simp [hv, hv']
              simp only [execOp, hop, resolve, invoke, builtin, pure_bind, he]
              rw [Sem.run_bind, hm]; rfl
            · cases hr
          · cases hr
        · cases hr
  | nilCheck x =>
    rw [hop] at hr
    simp only [valOp] at hr
    obtain ⟨b, g1, hr⟩ := RM.bind_some hr
    have hv := rdA_rel h hl g1
    have run : ∀ ad, a.eval x = .pointer (some ad) → (execOp a.eval o).run P w = .ok (.value (a.eval x)) w := by
      intro ad he
      simp only [execOp, hop, he]
      rfl
    split at hr
    · cases hr
      obtain ⟨vs, e1, b, off, cs, T, fr, e2, e3⟩ := hv
      rw [e2] at e1
      exact ⟨a.eval x, run _ e1, b, off, cs, T, fr, e1, e3⟩
    · cases hr
      have hv0 := hv
      obtain ⟨b, off, cs, T, fr, e2, e3⟩ := hv
      exact ⟨a.eval x, run _ e2, hv0⟩
    · rename_i id ver off
      simp only [RM.run] at hr
      split at hr
      · rename_i cv u ho
        obtain ⟨k1, hr⟩ := cond_some hr
        have := nbeq_true k1
        subst this
        cases hr
        have hv0 := hv
        obtain ⟨cv', c', ow', q1, _, _, q3⟩ := hv
        obtain ⟨c, ow, r1, _⟩ := obj_rel h ho
        rw [r1] at q1; cases q1
        obtain ⟨bl, e1, e2⟩ := q3 rfl
        exact ⟨a.eval x, run _ e2, hv0⟩
      · cases hr
    · cases hr
  | _ => rw [hop] at hr; cases hr

end Go.Abs

set_option linter.unusedSimpArgs false
set_option linter.unusedVariables false
namespace Go.Abs
open Go
variable {P : Program} {E : Env} {w0 : Start} {w : World} {conc : Conc} {st : ASt} {a : Act}

/-- From a state of which one operation is to be carried out, it leads to another one. -/
def OpOK (P : Program) (w0 : Start) (o : Oper) (a : Act) (w : World) (st' : ASt) : Prop :=
  ∀ (next : Act → World → Prop) (Q : Exit → Act → World → Prop), (∀ a' w', Models P w0 st' a' w' → next a' w') → o.wp P a w next Q

theorem OpOK.value {o : Oper} {st' : ASt} {v : Value} {w' : World} (hr : (execOp a.eval o).run P w = .ok (.value v) w') (h : Models P w0 st' (a.put o.dst v) w') : OpOK P w0 o a w st' := by
  intro next Q hn
  unfold Oper.wp
  rw [hr]
  exact hn _ _ h

theorem OpOK.skip {o : Oper} {st' : ASt} {w' : World} (hr : (execOp a.eval o).run P w = .ok .skip w') (h : Models P w0 st' (a.put o.dst undef) w') : OpOK P w0 o a w st' := by
  intro next Q hn
  unfold Oper.wp
  rw [hr]
  exact hn _ _ h

theorem OpOK.enter {o : Oper} {st' : ASt} {f : Nat} {args : Array Value} {w' : World} {R : Value → World → Prop} (hr : (execOp a.eval o).run P w = .ok (.enter f args) w')
    (hc : Calls P f args w' fun e w'' => ∃ v, e = .returned v ∧ R v w'') (h : ∀ v w'', R v w'' → Models P w0 st' (a.put o.dst v) w'') : OpOK P w0 o a w st' := by
  intro next Q hn
  unfold Oper.wp
  rw [hr]
  refine Calls.mono hc ?_
  rintro e w'' ⟨v, rfl, hv⟩
  exact hn _ _ (h v w'' hv)

theorem applyU_slot {m : Option Nat} {d : Option Nat} {L : List (Nat × Bool)} {g : Bool} {s : SVal} {W0 : W} {st' : ASt} (h : applyU st m (.slot d L g s W0) = some st') :
    (∃ d', d = some d' ∧ st.may d' = true ∧ (∀ q, m = some q → d' ≠ q) ∧
      st' = { N := st.N, marks := moreMarks m st.marks, slots := Map.set st.slots d' ⟨L, g, s⟩, heap := setObjs st.heap W0, fixed := st.fixed }) ∨
    (d = none ∧ st' = { N := st.N, marks := moreMarks m st.marks, slots := st.slots, heap := setObjs st.heap W0, fixed := st.fixed }) := by
  unfold applyU Upd.slot at h
  cases d with
  | none => right; exact ⟨rfl, by cases h; rfl⟩
  | some d' =>
    left
    dsimp only at h
    cases hb : (st.may d' && !isMark m d') with
    | false => rw [hb] at h; cases h
    | true =>
      rw [hb] at h
      simp only [Bool.and_eq_true] at hb
      refine ⟨d', rfl, hb.1, ?_, by cases h; rfl⟩
      intro q hq e
      subst hq
      have := hb.2
      simp [isMark, nbeq, e] at this

theorem applyU_set {d : Nat} {sl : Slot} {W0 : W} {st' : ASt} (h : applyU st none ⟨some (d, sl), W0⟩ = some st') :
    st.may d = true ∧ st' = { N := st.N, marks := st.marks, slots := Map.set st.slots d sl, heap := setObjs st.heap W0, fixed := st.fixed } := by
  have := applyU_slot (st := st) (m := none) (d := some d) (L := sl.L) (g := sl.g) (s := sl.s) (W0 := W0) (st' := st') h
  rcases this with ⟨d', e, h1, _, h2⟩ | ⟨e, _⟩
  · cases e; exact ⟨h1, h2⟩
  · cases e

/-- A slot is written, and objects were. -/
theorem slot_done {w1 : World} {conc1 : Conc} {W0 : W} {d : Option Nat} {s : SVal} {st' : ASt} {v : Value} (h1 : Mod P w0 conc1 { st with heap := setObjs st.heap W0 } a w1)
    (hap : applyU st none (.slot d [] true s W0) = some st') (hv : SRel P w1 conc1 (okOf conc1) s v) : Models P w0 st' (a.put d v) w1 := by
  refine ⟨conc1, ?_⟩
  rcases applyU_slot hap with ⟨d', rfl, g1, _, rfl⟩ | ⟨rfl, rfl⟩
  · exact h1.put (d := d') (sl := ⟨[], true, s⟩) (v := v) (ms := st.marks) g1 (fun _ h => h) (fun p hp => by simp at hp) ⟨fun _ => ⟨rfl, hv⟩, fun hn => absurd (labs_nil _) hn⟩
  · exact h1

/-- Objects that are written no more. -/
theorem frz_done (h : Mod P w0 conc st a w) {W0 : W} (hW : FrzW P conc st w (ids W0) W0) : ∃ conc1, conc1 = frzL conc (ids W0) ∧ Mod P w0 conc1 { st with heap := setObjs st.heap W0 } a w ∧ CLe conc conc1 ∧ Sub w (okOf conc) (okOf conc1) :=
  ⟨_, rfl, h.freeze hW, frzL_le _ _, frzL_sub w _ _⟩

theorem ver_kept {W0 : W} {F : List Nat} (hW : FrzW P conc st w F W0) (d : Nat) : (Map.get (setObjs st.heap W0) d).map (·.1) = (Map.get st.heap d).map (·.1) := by
  rcases get_setObjs st.heap W0 d with ⟨h1, _⟩ | ⟨o, h1, h2⟩
  · rw [h1]
  · obtain ⟨cv, o⟩ := o
    obtain ⟨⟨o0, h3⟩, _⟩ := hW d cv o h2
    rw [h1, h3]; rfl

theorem Mod.new (h : Mod P w0 conc st a w) {id ver : Nat} {c : Value} {o : AObj} {w' : World} (hk : Keeps w w') (hver : ∀ cv c0 ow, conc id = some (cv, c0, ow) → cv < ver)
    (hnew : ∀ b, hasB c b → w.heap.size ≤ b ∧ b < w'.heap.size)
    (hO : ∀ conc', CLe conc conc' → Sub w (okOf conc) (okOf conc') → (∀ b, w.heap.size ≤ b → ¬ hasB c b → okOf conc' b) → ORel P w' conc' (okOf conc') c true o) :
    ∃ conc', Mod P w0 conc' { st with heap := Map.set st.heap id (ver, o) } a w' ∧ conc' id = some (ver, c, true) ∧ CLe conc conc' ∧ Sub w (okOf conc) (okOf conc') := by
  obtain ⟨conc', h1, h2, h3, _, h4⟩ := h.obj (id := id) (ver := ver) (c := c) (o := o) (w' := w') (fun cv c0 ow hc => .inl (hver cv c0 ow hc)) hk.os hk.tape hk.output hk.size
    (fun b hb _ => hk.block b hb) (fun b hb => ⟨.inl (hnew b hb).1, (hnew b hb).2⟩) (fun conc' k1 _ _ k2 k3 => hO conc' k1 k2 k3)
  exact ⟨conc', h1, h2, h3, h4⟩

/-- A new object in slot d, behind objects that are written no more. -/
theorem new_done (h : Mod P w0 conc st a w) {W0 : W} (hW : FrzW P conc st w (ids W0) W0) {d : Nat} {o : AObj} {f : Nat → AVal} {u : Upd} {st' : ASt} {c : Value} {w' : World}
    (hr : (newObj d o f W0).run st = some u) (hap : applyU st none u = some st') (hk : Keeps w w') (hnew : ∀ b, hasB c b → w.heap.size ≤ b ∧ b < w'.heap.size)
    (hO : ∀ conc', CLe conc conc' → Sub w (okOf (frzL conc (ids W0))) (okOf conc') → (∀ b, w.heap.size ≤ b → ¬ hasB c b → okOf conc' b) → ORel P w' conc' (okOf conc') c true o)
    (hf : ∀ conc' ver, conc' d = some (ver, c, true) → VRel P w' conc' (okOf conc') (f ver) c) : Models P w0 st' (a.put (some d) c) w' := by
  obtain ⟨conc1, rfl, h1, h2, h3⟩ := frz_done h hW
  have key : ∀ ver, (∀ cv c0 ow, frzL conc (ids W0) d = some (cv, c0, ow) → cv < ver) → u = ⟨some (d, ⟨[], true, .v (f ver)⟩), W0 ++ [(d, (ver, o))]⟩ → Models P w0 st' (a.put (some d) c) w' := by
    intro ver hver hu
    subst hu
    obtain ⟨conc2, k1, k2, k3, k4⟩ := h1.new (id := d) (ver := ver) (c := c) (o := o) (w' := w') hk hver hnew fun conc' g1 g2 g3 => hO conc' ⟨g1.1.trans h2.1, fun id cv c0 ow hc => by
      obtain ⟨cv', c', ow', q1, q2⟩ := h2.2 id cv c0 ow hc
      obtain ⟨cv2, c2, ow2, q3, q4⟩ := g1.2 id cv' c' ow' q1
      refine ⟨cv2, c2, ow2, q3, ?_⟩
      rcases q2 with q2 | ⟨rfl, rfl⟩ <;> rcases q4 with q4 | ⟨rfl, rfl⟩
      · exact .inl (by omega)
      · exact .inl q2
      · exact .inl q4
      · exact .inr ⟨rfl, rfl⟩⟩ g2 g3
    have hs := slot_done (st := st) (W0 := W0 ++ [(d, (ver, o))]) (d := some d) (s := .v (f ver)) (st' := st') (v := c) (conc1 := conc2) (w1 := w') (a := a) (w0 := w0) (P := P)
    refine hs ?_ ?_ (hf conc2 ver k2)
    · rw [setObjs_append]; exact k1
    · exact hap
  simp only [newObj, RM.run] at hr
  have hv := ver_kept hW d
  cases hg : Map.get st.heap d with
  | none =>
    rw [hg] at hr hv
    cases hr
    refine key 0 (fun cv c0 ow hc => ?_) rfl
    have : frzL conc (ids W0) d = none := h1.dead d (by
      cases hq : Map.get (setObjs st.heap W0) d with
      | none => rfl
      | some q => rw [hq] at hv; cases hv)
    rw [this] at hc; cases hc
  | some q =>
    obtain ⟨cv0, o0⟩ := q
    rw [hg] at hr hv
    cases hr
    refine key (cv0 + 1) (fun cv c0 ow hc => ?_) rfl
    cases hq : Map.get (setObjs st.heap W0) d with
    | none => rw [hq] at hv; cases hv
    | some q =>
      obtain ⟨cv1, o1⟩ := q
      rw [hq] at hv
      simp at hv
      obtain ⟨c', ow', g1, _⟩ := h1.heap d cv1 o1 hq
      rw [g1] at hc
      cases hc
      omega

end Go.Abs
