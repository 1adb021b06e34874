/- Definitions: abstract values of a Go program's slots, and an evaluator of its operations on them. Nothing is claimed here. -/
import Derived.Calls
import Derived.KernelRfl
import Derived.CheckFast
import Derived.Orders
set_option linter.unusedVariables false
namespace Go.Abs

/-- The types of the data that the evaluator knows. A struct is a chain of pairs. -/
inductive Ty where
  | int (k : IntKind)
  | bool
  | str
  | unit
  | slice (e : Ty)
  | pair (a b : Ty)
  | fn1 (a r : Ty)
  | fn2 (a b r : Ty)
  | seq (e : Ty)
  | seq2 (a b : Ty)
  | map (k v : Ty)
  deriving DecidableEq

@[reducible] def Ty.den : Ty → Type
  | .int _ => Int
  | .bool => Bool
  | .str => List UInt8
  | .unit => Unit
  | .slice e => List e.den
  | .pair a b => a.den × b.den
  | .fn1 a r => a.den → Option r.den
  | .fn2 a b r => a.den → b.den → Option r.den
  | .seq e => List e.den
  | .seq2 a b => List (a.den × b.den)
  | .map k v => List (k.den × v.den)

def Ty.sz : Ty → Nat
  | .unit => 0
  | .pair a b => a.sz + b.sz
  | _ => 1

def Ty.isPair : Ty → Bool
  | .pair _ _ => true
  | _ => false

def Ty.isUnit : Ty → Bool
  | .unit => true
  | _ => false

def Ty.dflt : (t : Ty) → t.den
  | .int _ => (0 : Int)
  | .bool => false
  | .str => ([] : List UInt8)
  | .unit => ()
  | .slice _ => []
  | .pair a b => (a.dflt, b.dflt)
  | .fn1 _ _ => fun _ => none
  | .fn2 _ _ _ => fun _ _ => none
  | .seq _ => []
  | .seq2 _ _ => []
  | .map _ _ => []

/-- No memory hangs on data of this type. -/
def Ty.flat : Ty → Bool
  | .int _ | .bool | .str | .unit => true
  | .pair a b => a.flat && b.flat
  | _ => false

def Ty.noFn : Ty → Bool
  | .fn1 _ _ | .fn2 _ _ _ | .seq _ | .seq2 _ _ | .map _ _ => false
  | .pair a b => a.noFn && b.noFn
  | _ => true

@[reducible] def denL : List Ty → Type
  | [] => Unit
  | [t] => t.den
  | t :: u :: ts => t.den × denL (u :: ts)

def dfltL : (ts : List Ty) → denL ts
  | [] => ()
  | [t] => t.dflt
  | t :: u :: ts => (t.dflt, dfltL (u :: ts))

def castTy {t t' : Ty} (d : t.den) : Option t'.den := if h : t = t' then some (h ▸ d) else none

/-- What one cell, or one whole piece of data, holds. An object of the call's own is named by its number and its version. -/
inductive AVal where
  | pure (t : Ty) (d : t.den)
  | nils
  | bptr (id ver off : Nat)
  | pptr (t : Ty) (d : t.den)
  | eptr (id ver : Nat) (e : Ty) (i : Int)
  | hand (id ver : Nat)
  | fref (f : Nat)
  | junk
  | yld

inductive SVal where
  | v (a : AVal)
  | comp (l : List AVal)
  | tup (l : List AVal)

/-- A slot: under which tests it is set (slots with their Bools, and the same as one Bool), and what it holds. -/
structure Slot where
  L : List (Nat × Bool)
  g : Bool
  s : SVal

/-- Objects of the call's own: a box, a slice's buffer; and both when they are written no more. -/
inductive AObj where
  | box (t : Ty) (cells : List AVal)
  | buf (e : Ty) (l : List e.den)
  | fbox (t : Ty) (d : t.den)
  | fbuf (e : Ty) (l : List e.den)
  | map (k v : Ty) (l : List (k.den × v.den))
  | fmap (k v : Ty) (l : List (k.den × v.den))

namespace Map
variable {α : Type}
def get : List (Nat × α) → Nat → Option α
  | [], _ => none
  | (k', v) :: r, k => bif Nat.beq k' k then some v else get r k
def set : List (Nat × α) → Nat → α → List (Nat × α)
  | [], k, v => [(k, v)]
  | (k', v') :: r, k, v => bif Nat.blt k k' then (k, v) :: (k', v') :: r else bif Nat.beq k' k then (k, v) :: r else (k', v') :: set r k v
end Map

/-- N: how many slots there are. marks: the slots that labels name. heap: objects with their versions. fixed: slots that are not written. -/
structure ASt where
  N : Nat
  marks : List Nat
  slots : List (Nat × Slot)
  heap : List (Nat × (Nat × AObj))
  fixed : List Nat

/-! What an operation reads. -/

inductive RM (β : Type) : Type 1 where
  | ret (b : β)
  | fail
  | slot (d : Nat) (f : Option Slot → RM β)
  | obj (id : Nat) (f : Option (Nat × AObj) → RM β)
  | opt (α : Type) (m : Option α) (f : α → RM β)

namespace RM
variable {α β : Type}
def bind : RM α → (α → RM β) → RM β
  | .ret a, k => k a
  | .fail, _ => .fail
  | .slot d f, k => .slot d fun x => (f x).bind k
  | .obj id f, k => .obj id fun x => (f x).bind k
  | .opt γ m f, k => .opt γ m fun x => (f x).bind k

def run : RM β → ASt → Option β
  | .ret b, _ => some b
  | .fail, _ => none
  | .slot d f, st => (f (Map.get st.slots d)).run st
  | .obj id f, st => (f (Map.get st.heap id)).run st
  | .opt _ m f, st => m.bind fun x => (f x).run st

def runK {R : Type} : RM β → ASt → (β → Option R) → Option R
  | .ret b, _, K => K b
  | .fail, _, _ => none
  | .slot d f, st, K => (f (Map.get st.slots d)).runK st K
  | .obj id f, st, K => (f (Map.get st.heap id)).runK st K
  | .opt _ m f, st, K => m.bind fun x => (f x).runK st K

/-- What is read: slots (true) and objects (false). -/
abbrev _root_.Go.Abs.Key := Nat × Bool

def keys : RM β → ASt → List Key
  | .ret _, _ => []
  | .fail, _ => []
  | .slot d f, st => (d, true) :: (f (Map.get st.slots d)).keys st
  | .obj id f, st => (id, false) :: (f (Map.get st.heap id)).keys st
  | .opt _ m f, st => match m with
    | some x => (f x).keys st
    | none => []

def runKK {R : Type} : RM β → ASt → (β → List Key → Option R) → Option R
  | .ret b, _, K => K b []
  | .fail, _, _ => none
  | .slot d f, st, K => (f (Map.get st.slots d)).runKK st fun x ks => K x ((d, true) :: ks)
  | .obj id f, st, K => (f (Map.get st.heap id)).runKK st fun x ks => K x ((id, false) :: ks)
  | .opt _ m f, st, K => m.bind fun x => (f x).runKK st K

def ofOpt : Option β → RM β
  | some b => .ret b
  | none => .fail
end RM

structure TyE where
  ty : Ty
  nf : Nat

structure Con where
  ins : List Ty
  caps : List Ty
  outs : List Ty
  fn : denL ins → denL caps → Option (denL outs)
  fresh : Bool

/-- What an iterator yields: its captured variables, the type of what is made (.seq, .seq2), and the elements. -/
structure ICon where
  caps : List Ty
  out : Ty
  fn : denL caps → Option out.den

/-- Types, contracts, the struct types that are compared, iterators. -/
structure Env where
  G : List (Nat × TyE)
  C : List (Nat × Con)
  Q : List (Nat × Ty)
  I : List (Nat × ICon)

def Env.ty (E : Env) (T : Nat) : Option Ty := (Map.get E.G T).map (·.ty)

def AVal.ofConst : Value → Option AVal
  | .int k n => some (.pure (.int k) n)
  | .bool b => some (.pure .bool b)
  | .string s => some (.pure .str s.data.toList)
  | .slice none 0 0 => some .nils
  | .nilFunc => some .junk
  | _ => none

def ofConsts : List Value → Option (List AVal)
  | [] => some []
  | v :: vs => match AVal.ofConst v, ofConsts vs with
    | some a, some l => some (a :: l)
    | _, _ => none

def SVal.ofConst : Value → Option SVal
  | .agg cs => (ofConsts cs.toList).map .comp
  | x => (AVal.ofConst x).map .v

/-- Which labels may be read: those that are among the given ones. -/
def labOk (L' L : List (Nat × Bool)) : Bool := L'.all fun p => L.any fun q => Nat.beq p.1 q.1 && (bif p.2 then q.2 else !q.2)

def rd (L : List (Nat × Bool)) : Operand → RM SVal
  | .tmp t => .slot t fun
    | some sl => bif labOk sl.L L then .ret sl.s else .fail
    | none => .fail
  | .const v => .ofOpt (SVal.ofConst v)
  | .func f => .ret (.v (.fref f))
  | .global _ => .fail

def SVal.one : SVal → RM AVal
  | .v a => .ret a
  | _ => .fail

def rdA (L : List (Nat × Bool)) (x : Operand) : RM AVal := (rd L x).bind SVal.one

def rdS (L : List (Nat × Bool)) : List Operand → RM (List SVal)
  | [] => .ret []
  | x :: r => (rd L x).bind fun s => (rdS L r).bind fun l => .ret (s :: l)

/-- Objects that are to be written: number, version, content. -/
abbrev W := List (Nat × (Nat × AObj))

def Con.fn1? (c : Con) (a r : Ty) : Option (a.den → Option r.den) :=
  match c with
  | ⟨[a'], [], [r'], f, _⟩ => if h : a' = a ∧ r' = r then some (fun x => h.2 ▸ f (h.1 ▸ x) ()) else none
  | _ => none

/-- A piece of data of a type, and what of the call's own must be written no more if it is kept. -/
def peekA (E : Env) (t : Ty) : AVal → RM (t.den × W)
  | .pure u d => match castTy (t := u) (t' := t) d with
    | some x => .ret (x, [])
    | none => .fail
  | .nils => match t with
    | .slice _ => .ret ([], [])
    | _ => .fail
  | .hand id ver => .obj id fun
    | some (cv, .buf e l) => bif Nat.beq cv ver then (match castTy (t := .slice e) (t' := t) l with
      | some x => .ret (x, [(id, (cv, .fbuf e l))])
      | none => .fail) else .fail
    | some (cv, .fbuf e l) => bif Nat.beq cv ver then (match castTy (t := .slice e) (t' := t) l with
      | some x => .ret (x, [])
      | none => .fail) else .fail
    | some (cv, .map k v l) => bif Nat.beq cv ver then (match castTy (t := .map k v) (t' := t) l with
      | some x => .ret (x, [(id, (cv, .fmap k v l))])
      | none => .fail) else .fail
    | some (cv, .fmap k v l) => bif Nat.beq cv ver then (match castTy (t := .map k v) (t' := t) l with
      | some x => .ret (x, [])
      | none => .fail) else .fail
    | _ => .fail
  | .fref f => match t, Map.get E.C f with
    | .fn1 a r, some c => match c.fn1? a r with
      | some g => .ret (g, [])
      | none => .fail
    | _, _ => .fail
  | _ => .fail

def implode (E : Env) : (t : Ty) → List AVal → RM ((t.den × W) × List AVal)
  | .unit, l => .ret (((), []), l)
  | .pair a b, l => (implode E a l).bind fun x => (implode E b x.2).bind fun y => .ret (((x.1.1, y.1.1), x.1.2 ++ y.1.2), y.2)
  | .int k, a :: l => (peekA E (.int k) a).bind fun x => .ret (x, l)
  | .bool, a :: l => (peekA E .bool a).bind fun x => .ret (x, l)
  | .str, a :: l => (peekA E .str a).bind fun x => .ret (x, l)
  | .slice e, a :: l => (peekA E (.slice e) a).bind fun x => .ret (x, l)
  | .fn1 p r, a :: l => (peekA E (.fn1 p r) a).bind fun x => .ret (x, l)
  | .fn2 p q r, a :: l => (peekA E (.fn2 p q r) a).bind fun x => .ret (x, l)
  | .seq e, a :: l => (peekA E (.seq e) a).bind fun x => .ret (x, l)
  | .seq2 p q, a :: l => (peekA E (.seq2 p q) a).bind fun x => .ret (x, l)
  | .map p q, a :: l => (peekA E (.map p q) a).bind fun x => .ret (x, l)
  | _, [] => .fail

def peek (E : Env) (t : Ty) : SVal → RM (t.den × W)
  | .v a => peekA E t a
  | .comp l => bif t.isPair then (implode E t l).bind fun x => match x.2 with
    | [] => .ret x.1
    | _ => .fail else .fail
  | .tup _ => .fail

def explode : (t : Ty) → t.den → List AVal
  | .unit, _ => []
  | .pair a b, (x, y) => explode a x ++ explode b y
  | .int k, d => [.pure (.int k) d]
  | .bool, d => [.pure .bool d]
  | .str, d => [.pure .str d]
  | .slice e, d => [.pure (.slice e) d]
  | .fn1 a r, d => [.pure (.fn1 a r) d]
  | .fn2 a b r, d => [.pure (.fn2 a b r) d]
  | .seq e, d => [.pure (.seq e) d]
  | .seq2 a b, d => [.pure (.seq2 a b) d]
  | .map a b, d => [.pure (.map a b) d]

/-- The cells of a value. -/
def SVal.cells : SVal → RM (List AVal)
  | .v (.pure t d) => bif t.isUnit then .fail else .ret (explode t d)
  | .v .junk => .fail
  | .v a => .ret [a]
  | .comp l => .ret l
  | .tup _ => .fail

def zeroCells : Ty → List AVal
  | .unit => []
  | .pair a b => zeroCells a ++ zeroCells b
  | .slice _ => [.nils]
  | .int k => [.pure (.int k) (0 : Int)]
  | .bool => [.pure .bool false]
  | .str => [.pure .str ([] : List UInt8)]
  | .fn1 _ _ | .fn2 _ _ _ | .seq _ | .seq2 _ _ | .map _ _ => [.junk]

def geti {α : Type} (l : List α) (i : Int) : Option α := if 0 ≤ i then l[i.toNat]? else none
def seti {α : Type} (l : List α) (i : Int) (x : α) : Option (List α) := if 0 ≤ i ∧ i.toNat < l.length then some (l.set i.toNat x) else none
def cut {α : Type} (l : List α) (lo hi : Int) : Option (List α) :=
  if 0 ≤ lo ∧ lo ≤ hi ∧ hi ≤ (l.length : Int) then some ((l.take hi.toNat).drop lo.toNat) else none
def qdiv (k : IntKind) (x y : Int) : Option Int := if y = 0 then none else some (k.wrap (x.tdiv y))
def qrem (x y : Int) : Option Int := if y = 0 then none else some (x.tmod y)
/-- Lengths that memory bears. -/
def most : Nat := 4294967296
def chk (n : Nat) : Option Unit := if n ≤ most then some () else none
def chki (n : Int) : Option Unit := if 0 ≤ n ∧ n ≤ (most : Int) then some () else none
def imax (x y : Int) : Int := if y > x then y else x
def part {α : Type} (g : Bool) (m : Option α) (d : α) : Option α := bif g then m else some d

/-- Field i of n fields. -/
def proj : (n i : Nat) → (t : Ty) → t.den → Option (Σ u : Ty, u.den)
  | 1, 0, t, d => some ⟨t, d⟩
  | _ + 2, 0, .pair a _, (x, _) => some ⟨a, x⟩
  | n + 2, i + 1, .pair _ b, (_, y) => proj (n + 1) i b y
  | _, _, _, _ => none

def offOf : (n i : Nat) → Ty → Option Nat
  | 1, 0, _ => some 0
  | _ + 2, 0, .pair _ _ => some 0
  | n + 2, i + 1, .pair a b => match offOf (n + 1) i b with
    | some o => some (a.sz + o)
    | none => none
  | _, _, _ => none

/-- Where the fields lie, and how many cells they have. -/
def placesOf : Nat → Ty → List (Nat × Nat)
  | 1, t => [(0, t.sz)]
  | n + 2, .pair a b => (0, a.sz) :: (placesOf (n + 1) b).map fun p => (a.sz + p.1, p.2)
  | _, _ => []

def beqTy : (t : Ty) → t.den → t.den → Option Bool
  | .int _, x, y => some ((x : Int) == y)
  | .bool, x, y => some ((x : Bool) == y)
  | .str, x, y => some ((x : List UInt8) == y)
  | .pair a b, (x, x'), (y, y') => match beqTy a x y, beqTy b x' y' with
    | some p, some q => some (p && q)
    | _, _ => none
  | _, _, _ => none

def intOp (g : Bool) (op : BinOp) (k : IntKind) (x y : Int) : RM AVal :=
  match op with
  | .add => .ret (.pure (.int k) (k.wrap (x + y)))
  | .sub => .ret (.pure (.int k) (k.wrap (x - y)))
  | .mul => .ret (.pure (.int k) (k.wrap (x * y)))
  | .quo => .opt Int (part g (qdiv k x y) 0) fun q => .ret (.pure (.int k) q)
  | .rem => .opt Int (part g (qrem x y) 0) fun q => .ret (.pure (.int k) q)
  | .eql => .ret (.pure .bool (x == y))
  | .neq => .ret (.pure .bool (x != y))
  | .lss => .ret (.pure .bool (decide (x < y)))
  | .leq => .ret (.pure .bool (decide (x ≤ y)))
  | .gtr => .ret (.pure .bool (decide (x > y)))
  | .geq => .ret (.pure .bool (decide (x ≥ y)))
  | _ => .fail

def strOp (g : Bool) (op : BinOp) (x y : List UInt8) : RM AVal :=
  match op with
  | .eql => .ret (.pure .bool (x == y))
  | .neq => .ret (.pure .bool (x != y))
  | .add => .opt Unit (part g (chk (x.length + y.length)) ()) fun _ => .ret (.pure .str (x ++ y))
  | _ => .fail

def eqOp (E : Env) (op : BinOp) (t : Ty) (s s' : SVal) : RM AVal :=
  (peek E t s).bind fun d => (peek E t s').bind fun d' => match beqTy t d.1 d'.1 with
  | some b => match op with
    | .eql => .ret (.pure .bool b)
    | .neq => .ret (.pure .bool (!b))
    | _ => .fail
  | none => .fail

def binOp (E : Env) (g : Bool) (op : BinOp) (T : Nat) (s s' : SVal) : RM AVal :=
  match E.ty T with
  | some (.int k) => (peek E (.int k) s).bind fun x => (peek E (.int k) s').bind fun y => intOp g op k x.1 y.1
  | some .str => (peek E .str s).bind fun x => (peek E .str s').bind fun y => strOp g op x.1 y.1
  | some .bool => eqOp E op .bool s s'
  | some (.pair a b) => match Map.get E.Q T with
    | some t => if t = .pair a b then eqOp E op (.pair a b) s s' else .fail
    | none => .fail
  | _ => .fail

/-- A slice, a string: how long it is. -/
def lenOf : AVal → RM Nat
  | .pure (.slice _) l => .ret (List.length l)
  | .nils => .ret 0
  | .hand id ver => .obj id fun
    | some (cv, .buf _ l) => bif Nat.beq cv ver then .ret l.length else .fail
    | some (cv, .fbuf _ l) => bif Nat.beq cv ver then .ret l.length else .fail
    | _ => .fail
  | _ => .fail

/-- Some cells as a value of a type. -/
def ofCells (t : Ty) (l : List AVal) : RM SVal :=
  match t.isPair, l with
  | false, [c] => .ret (.v c)
  | true, l => bif Nat.beq l.length t.sz then .ret (.comp l) else .fail
  | _, _ => .fail

def loadOp (g : Bool) (t : Ty) : AVal → RM SVal
  | .bptr id ver off => .obj id fun
    | some (cv, .box u cells) => bif Nat.beq cv ver then ofCells t ((cells.drop off).take t.sz) else .fail
    | some (cv, .fbox u d) => bif Nat.beq cv ver then
        (if t = u ∧ off = 0 then .ret (.v (.pure u d)) else ofCells t (((explode u d).drop off).take t.sz)) else .fail
    | _ => .fail
  | .pptr u d => if t = u then .ret (.v (.pure u d)) else .fail
  | .eptr id ver u i => .obj id fun
    | some (cv, .buf e l) => bif Nat.beq cv ver then
        (if t = e ∧ u = e then .opt e.den (part g (geti l i) e.dflt) fun x => .ret (.v (.pure e x)) else .fail) else .fail
    | some (cv, .fbuf e l) => bif Nat.beq cv ver then
        (if t = e ∧ u = e then .opt e.den (part g (geti l i) e.dflt) fun x => .ret (.v (.pure e x)) else .fail) else .fail
    | _ => .fail
  | _ => .fail

def fieldAddrOp (te : TyE) (i : Nat) : AVal → RM SVal
  | .bptr id ver off => .obj id fun
    | some (cv, _) => bif Nat.beq cv ver then (match offOf te.nf i te.ty with
      | some o => .ret (.v (.bptr id ver (off + o)))
      | none => .fail) else .fail
    | none => .fail
  | .pptr t d => if te.ty = t then
      (match proj te.nf i t d with
      | some ⟨u, x⟩ => .ret (.v (.pptr u x))
      | none => .fail) else .fail
  | _ => .fail

def indexAddrOp (g : Bool) (e : Ty) (n : Int) : AVal → RM SVal
  | .pure (.slice u) l => if e = u then .opt u.den (part g (geti l n) u.dflt) fun x => .ret (.v (.pptr u x)) else .fail
  | .hand id ver => .obj id fun
    | some (cv, .buf u l) => bif Nat.beq cv ver then
        (if e = u then .opt u.den (part g (geti l n) u.dflt) fun _ => .ret (.v (.eptr id ver u n)) else .fail) else .fail
    | some (cv, .fbuf u l) => bif Nat.beq cv ver then
        (if e = u then .opt u.den (part g (geti l n) u.dflt) fun x => .ret (.v (.pptr u x)) else .fail) else .fail
    | _ => .fail
  | _ => .fail

def buildL (L : List (Nat × Bool)) (te : TyE) (cells : List AVal) : List (Nat × Operand) → RM (List AVal)
  | [] => .ret cells
  | (i, x) :: r => (rd L x).bind fun s => s.cells.bind fun l => match (placesOf te.nf te.ty)[i]? with
    | some (o, n) => bif Nat.beq l.length n && Nat.ble (o + n) cells.length then buildL L te (cells.take o ++ l ++ cells.drop (o + n)) r else .fail
    | none => .fail

def rdInt (L : List (Nat × Bool)) (x : Operand) : RM Int := (rdA L x).bind fun
  | .pure (.int _) n => .ret n
  | _ => .fail

def rdBound (L : List (Nat × Bool)) (dflt : Int) : Option Operand → RM Int
  | none => .ret dflt
  | some x => rdInt L x

def sliceOp (L : List (Nat × Bool)) (g : Bool) (t : Ty) (lo hi : Option Operand) : AVal → RM SVal
  | .pure (.slice u) l => if t = .slice u then (rdBound L 0 lo).bind fun x => (rdBound L (List.length l : Nat) hi).bind fun y =>
      .opt (List u.den) (part g (cut l x y) []) fun z => .ret (.v (.pure (.slice u) z)) else .fail
  | .pure .str l => if t = .str then (rdBound L 0 lo).bind fun x => (rdBound L (List.length (α := UInt8) l : Nat) hi).bind fun y =>
      .opt (List UInt8) (part g (cut (α := UInt8) l x y) []) fun z => .ret (.v (.pure .str z)) else .fail
  | _ => .fail

/-! Maps, as lists of entries in the order in which they came. -/
def mget {α : Type} : List (Int × α) → Int → Option α
  | [], _ => none
  | p :: r, x => bif p.1 == x then some p.2 else mget r x

def mput {α : Type} : List (Int × α) → Int → α → List (Int × α)
  | [], x, y => [(x, y)]
  | p :: r, x, y => bif p.1 == x then (x, y) :: r else p :: mput r x y

def mapOf (q : IntKind) (u : Ty) : AVal → RM (List (Int × u.den))
  | .pure t d => .ofOpt (castTy (t := t) (t' := .map (.int q) u) d)
  | .hand id ver => .obj id fun
    | some (cv, .map k v l) => bif Nat.beq cv ver then .ofOpt (castTy (t := .map k v) (t' := .map (.int q) u) l) else .fail
    | some (cv, .fmap k v l) => bif Nat.beq cv ver then .ofOpt (castTy (t := .map k v) (t' := .map (.int q) u) l) else .fail
    | _ => .fail
  | _ => .fail

def rdK (q : IntKind) (L : List (Nat × Bool)) (x : Operand) : RM Int := (rdA L x).bind fun
  | .pure (.int k) n => if k = q then .ret n else .fail
  | _ => .fail

def lookS (u : Ty) (ok : Bool) (r : Option u.den) : SVal :=
  bif ok then .tup [.pure u (r.getD u.dflt), .pure .bool r.isSome] else .v (.pure u (r.getD u.dflt))

def boolOf : AVal → RM Bool
  | .pure .bool b => .ret b
  | _ => .fail

def pickOp (L : List (Nat × Bool)) (c a b : Operand) : RM SVal :=
  match c with
  | .tmp s => (rdA L (.tmp s)).bind fun c => (boolOf c).bind fun t =>
    match a, b with
    | .const (.bool true), _ => (rdA ((s, false) :: L) b).bind fun y => (boolOf y).bind fun y => .ret (.v (.pure .bool (t || y)))
    | _, .const (.bool false) => (rdA ((s, true) :: L) a).bind fun x => (boolOf x).bind fun x => .ret (.v (.pure .bool (t && x)))
    | _, _ => .fail
  | _ => .fail

/-- Operations that give a value and change no object. g: they are carried out. -/
def valOp (E : Env) (L : List (Nat × Bool)) (g : Bool) (op : Op) : RM SVal :=
  match op with
  | .move x | .assign x => rd L x
  | .binOp b T x y _ => (rd L x).bind fun s => (rd L y).bind fun s' => (binOp E g b T s s').bind fun a => .ret (.v a)
  | .unOp u _ x => (rdA L x).bind fun
    | .pure .bool b => match u with
      | .not => .ret (.v (.pure .bool (!b)))
      | _ => .fail
    | .pure (.int k) n => match u with
      | .neg => .ret (.v (.pure (.int k) (k.wrap (0 - (n : Int)))))
      | _ => .fail
    | _ => .fail
  | .pick c a b => pickOp L c a b
  | .load T a => match E.ty T with
    | some t => (rdA L a).bind (loadOp g t)
    | none => .fail
  | .fieldAddr T x i => match Map.get E.G T with
    | some te => bif te.ty.isPair then (rdA L x).bind (fieldAddrOp te i) else .fail
    | none => .fail
  | .indexAddr T x i => match E.ty T with
    | some (.slice e) => (rdA L x).bind fun a => (rdInt L i).bind fun n => indexAddrOp g e n a
    | _ => .fail
  | .index T x i => match E.ty T with
    | some .str => (rdA L x).bind fun
      | .pure .str l => (rdInt L i).bind fun n => .opt UInt8 (part g (geti (α := UInt8) l n) 0) fun c => .ret (.v (.pure (.int .u8) (c.toNat : Int)))
      | _ => .fail
    | _ => .fail
  | .extract t i => (rd L t).bind fun
    | .tup l => match l[i]? with
      | some a => .ret (.v a)
      | none => .fail
    | _ => .fail
  | .slice T x lo hi none => match E.ty T with
    | some t => (rdA L x).bind (sliceOp L g t lo hi)
    | none => .fail
  | .lookup T m k ok => match E.ty T with
    | some (.map (.int q) u) => bif u.noFn then (rdA L m).bind fun a => (mapOf q u a).bind fun l => (rdK q L k).bind fun n => .ret (lookS u ok (mget l n)) else .fail
    | _ => .fail
  | .convert S T x => match E.ty S, E.ty T with
    | some (.int _), some (.int k) => (rdInt L x).bind fun n => .ret (.v (.pure (.int k) (k.wrap n)))
    | _, _ => .fail
  | .build T ps => match Map.get E.G T with
    | some te => bif te.ty.noFn && te.ty.isPair then (buildL L te (zeroCells te.ty) ps.toList).bind fun l => .ret (.comp l) else .fail
    | none => .fail
  | .call { callee := .builtin .len, args, argTypes } => match args.toList, argTypes.toList with
    | [x], [T] => match E.ty T with
      | some (.slice _) => (rdA L x).bind fun a => (lenOf a).bind fun n => .ret (.v (.pure (.int .i64) (n : Int)))
      | some .str => (rdA L x).bind fun
        | .pure .str l => .ret (.v (.pure (.int .i64) (List.length (α := UInt8) l : Nat)))
        | _ => .fail
      | _ => .fail
    | _, _ => .fail
  | .call { callee := .builtin .max, args, .. } => match args.toList with
    | [x, y] => (rdA L x).bind fun
      | .pure (.int k) a => (rdA L y).bind fun
        | .pure (.int k') b => if k = k' then .ret (.v (.pure (.int k) (imax a b))) else .fail
        | _ => .fail
      | _ => .fail
    | _ => .fail
  | _ => .fail

def packArgs (E : Env) : (ts : List Ty) → List SVal → RM (denL ts × W)
  | [], [] => .ret ((), [])
  | [t], [s] => peek E t s
  | t :: u :: ts, s :: ss => (peek E t s).bind fun x => (packArgs E (u :: ts) ss).bind fun y => .ret ((x.1, y.1), x.2 ++ y.2)
  | _, _ => .fail

def tupOf : (ts : List Ty) → denL ts → List AVal
  | [], _ => []
  | [t], x => [.pure t x]
  | t :: u :: ts, (x, y) => .pure t x :: tupOf (u :: ts) y

def resS : (ts : List Ty) → denL ts → SVal
  | [], _ => .tup []
  | [t], x => .v (.pure t x)
  | t :: u :: ts, r => .tup (tupOf (t :: u :: ts) r)

def freshFlat : List Ty → Bool
  | [.slice e] => e.flat
  | _ => false

/-- A result that hangs on no memory of the arguments. -/
def Con.light (c : Con) : Bool := c.outs.all Ty.flat || (c.fresh && freshFlat c.outs)

def Con.app (c : Con) (x : denL c.ins) : Option (denL c.outs) :=
  match c, x with
  | ⟨_, [], _, f, _⟩, x => f x ()
  | _, _ => none

/-- Calls: the result, whether it is new, and what may be written no more. -/
def callOp (E : Env) (L : List (Nat × Bool)) (g : Bool) (f : Operand) (args : List Operand) : RM ((Bool × SVal) × W) :=
  match f with
  | .func f => match Map.get E.C f with
    | some c => (rdS L args).bind fun l => (packArgs E c.ins l).bind fun x =>
      .opt (denL c.outs) (part g (c.app x.1) (dfltL c.outs)) fun r => .ret ((c.fresh, resS c.outs r), bif c.light then [] else x.2)
    | none => .fail
  | .tmp t => (rdA L (.tmp t)).bind fun
    | .pure (.fn1 a r) f => (rdS L args).bind fun
      | [s] => (peek E a s).bind fun x => .opt r.den (part g (f x.1) r.dflt) fun y => .ret ((false, .v (.pure r y)), bif r.flat then [] else x.2)
      | _ => .fail
    | .pure (.fn2 a b r) f => (rdS L args).bind fun
      | [s, s'] => (peek E a s).bind fun x => (peek E b s').bind fun x' => .opt r.den (part g (f x.1 x'.1) r.dflt) fun y =>
        .ret ((false, .v (.pure r y)), bif r.flat then [] else x.2 ++ x'.2)
      | _ => .fail
    | _ => .fail
  | _ => .fail

/-- What an operation changes: its slot, and objects. -/
structure Upd where
  dst : Option (Nat × Slot)
  objs : W

def Upd.slot (d : Option Nat) (L : List (Nat × Bool)) (g : Bool) (s : SVal) (w : W) : Upd :=
  ⟨match d with | some d => some (d, ⟨L, g, s⟩) | none => none, w⟩

/-- A new object in the place of slot d, and what the slot holds. -/
def newObj (d : Nat) (o : AObj) (a : Nat → AVal) (w : W) : RM Upd :=
  .obj d fun
  | none => .ret ⟨some (d, ⟨[], true, .v (a 0)⟩), w ++ [(d, (0, o))]⟩
  | some (cv, _) => .ret ⟨some (d, ⟨[], true, .v (a (cv + 1))⟩), w ++ [(d, (cv + 1, o))]⟩

def fillL (E : Env) (e : Ty) (l : List e.den) (w : W) : List (Nat × Operand) → RM (List e.den × W)
  | [] => .ret (l, w)
  | (i, x) :: r => (rd [] x).bind fun s => (peek E e s).bind fun d => bif Nat.blt i l.length then fillL E e (l.set i d.1) (w ++ d.2) r else .fail

/-- A captured variable: what it holds, and that it is written no more. -/
def capA (E : Env) (t : Ty) : AVal → RM (t.den × W)
  | .pptr u d => .ofOpt ((castTy (t := u) (t' := t) d).map fun d => (d, []))
  | .bptr id ver 0 => .obj id fun
    | some (cv, .box u cells) => bif Nat.beq cv ver then (implode E u cells).bind fun p => match p.2 with
      | [] => .ofOpt ((castTy (t := u) (t' := t) p.1.1).map fun d => (d, p.1.2 ++ [(id, (cv, .fbox u p.1.1))]))
      | _ => .fail else .fail
    | some (cv, .fbox u d) => bif Nat.beq cv ver then .ofOpt ((castTy (t := u) (t' := t) d).map fun d => (d, [])) else .fail
    | _ => .fail
  | _ => .fail

def cap1 (E : Env) (t : Ty) (x : Operand) : RM (t.den × W) := (rdA [] x).bind (capA E t)

def capsOf (E : Env) : (ts : List Ty) → List Operand → RM (denL ts × W)
  | [], [] => .ret ((), [])
  | [t], [x] => cap1 E t x
  | t :: u :: ts, x :: r => (cap1 E t x).bind fun d => (capsOf E (u :: ts) r).bind fun y => .ret ((d.1, y.1), d.2 ++ y.2)
  | _, _ => .fail

def funOfL (E : Env) : (ins caps outs : List Ty) → (denL ins → denL caps → Option (denL outs)) → denL caps → List SVal → RM (AVal × W)
  | [a], _, [r], f, caps, [] => .ret (.pure (.fn1 a r) fun x => f x caps, [])
  | [a, b], _, [r], f, caps, [] => .ret (.pure (.fn2 a b r) fun x y => f (x, y) caps, [])
  | [t, a], _, [r], f, caps, [s] => (peek E t s).bind fun d => .ret (.pure (.fn1 a r) fun x => f (d.1, x) caps, d.2)
  | [t, a, b], _, [r], f, caps, [s] => (peek E t s).bind fun d => .ret (.pure (.fn2 a b r) fun x y => f (d.1, x, y) caps, d.2)
  | _, _, _, _, _, _ => .fail

def funOf (E : Env) (c : Con) (caps : denL c.caps) (first : List SVal) : RM (AVal × W) := funOfL E c.ins c.caps c.outs c.fn caps first

def splice {α : Type} (l : List α) (off : Nat) (x : List α) : List α := l.take off ++ x ++ l.drop (off + x.length)

def storeOp (E : Env) (t : Ty) (x : Operand) : AVal → RM Upd
  | .bptr id ver off => (rd [] x).bind fun s => s.cells.bind fun l => .obj id fun
    | some (cv, .box u cells) => bif Nat.beq cv ver && Nat.beq l.length t.sz && Nat.ble (off + t.sz) cells.length then
        .ret ⟨none, [(id, (cv, .box u (splice cells off l)))]⟩ else .fail
    | _ => .fail
  | .eptr id ver u i => (rd [] x).bind fun s => (peek E t s).bind fun d => .obj id fun
    | some (cv, .buf e l) => bif Nat.beq cv ver && d.2.all (fun p => !Nat.beq p.1 id) then
        (if h : t = e ∧ u = e then .opt (List e.den) (seti l i (h.1 ▸ d.1)) fun l' => .ret ⟨none, d.2 ++ [(id, (cv, .buf e l'))]⟩ else .fail) else .fail
    | _ => .fail
  | _ => .fail

def appendOp (E : Env) (T d : Nat) (x : Operand) : AVal → RM Upd
  | .hand id ver => (rdA [] x).bind fun a => .obj id fun
    | some (cv, .buf e l) => bif Nat.beq cv ver then (if E.ty T = some (.slice e) then (peekA E (.slice e) a).bind fun m =>
        .opt Unit (chk (l.length + List.length m.1)) fun _ => .ret ⟨some (d, ⟨[], true, .v (.hand id (cv + 1))⟩), [(id, (cv + 1, .buf e (l ++ m.1)))]⟩ else .fail) else .fail
    | _ => .fail
  | .nils => match E.ty T with
    | some (.slice e) => (rdA [] x).bind fun a => (peekA E (.slice e) a).bind fun m =>
        .opt Unit (chk (List.length m.1)) fun _ => newObj d (.buf e m.1) (.hand d) []
    | _ => .fail
  | _ => .fail

/-- The bytes of a string, as numbers. -/
def bytesOf (l : List UInt8) : List Int := l.map fun c => (c.toNat : Int)

/-- New data: each slice is an object of the call's own. -/
def freshL (id : Nat) : (t : Ty) → t.den → RM (List AVal × W)
  | .slice e, l => .obj id fun
    | none => .ret ([.hand id 0], [(id, (0, .buf e l))])
    | some (cv, _) => .ret ([.hand id (cv + 1)], [(id, (cv + 1, .buf e l))])
  | .pair a b, (x, y) => (freshL id a x).bind fun p => (freshL (id + a.sz) b y).bind fun q => .ret (p.1 ++ q.1, p.2 ++ q.2)
  | .unit, _ => .ret ([], [])
  | t, d => .ret ([.pure t d], [])

def callUpd (d : Option Nat) (r : (Bool × SVal) × W) : RM Upd :=
  match r.1.1, r.1.2, d with
  | true, .v (.pure (.slice e) l), some d => newObj d (.buf e l) (.hand d) r.2
  | true, .v (.pure (.pair a b) x), some d => (freshL ((d + 1) * 4096) (.pair a b) x).bind fun p => .ret ⟨some (d, ⟨[], true, .comp p.1⟩), r.2 ++ p.2⟩
  | _, s, d => .ret (.slot d [] true s r.2)

/-- An entry of a map of the call's own is set. -/
def mapPut (E : Env) (T : Nat) (m k x : Operand) : RM Upd := match E.ty T with
  | some (.map (.int q) u) => (rdA [] m).bind fun
    | .hand id ver => (rdK q [] k).bind fun n => (rd [] x).bind fun s => (peek E u s).bind fun d => .obj id fun
      | some (cv, .map (.int q') u' l) => bif Nat.beq cv ver && d.2.all (fun p => !Nat.beq p.1 id) then
          (if h : q' = q ∧ u' = u then .ret ⟨none, d.2 ++ [(id, (cv, .map (.int q') u' (mput l n (h.2 ▸ d.1))))]⟩ else .fail) else .fail
      | _ => .fail
    | _ => .fail
  | _ => .fail

/-- An operation without a guard. -/
def effOp (E : Env) (o : Oper) : RM Upd :=
  match o.op with
  | .assign (.const (.slice none 0 0)) => match o.dst, E.ty o.type with
    | some d, some (.slice e) => newObj d (.buf e []) (.hand d) []
    | _, _ => .fail
  | .alloc T => match o.dst, E.ty T with
    | some d, some t => newObj d (.box t (zeroCells t)) (fun v => .bptr d v 0) []
    | _, _ => .fail
  | .box T x => match o.dst, E.ty T with
    | some d, some t => (rd [] x).bind fun s => s.cells.bind fun l => bif Nat.beq l.length t.sz then newObj d (.box t l) (fun v => .bptr d v 0) [] else .fail
    | _, _ => .fail
  | .buildSlice T n ps => match o.dst, E.ty T with
    | some d, some (.slice e) => (fillL E e (List.replicate n e.dflt) [] ps.toList).bind fun l =>
      bif e.noFn && Nat.ble (n * e.sz) 16777216 then newObj d (.buf e l.1) (.hand d) l.2 else .fail
    | _, _ => .fail
  | .makeSlice T (.tmp x) (.tmp y) => match o.dst, E.ty T with
    | some d, some (.slice e) => (rdA [] (.tmp x)).bind fun
      | .pure (.int .i64) n => bif Nat.beq x y && e.noFn then .opt Unit (chki n) fun _ => newObj d (.buf e (List.replicate (n : Int).toNat e.dflt)) (.hand d) [] else .fail
      | _ => .fail
    | _, _ => .fail
  | .store T a x => match o.dst, E.ty T with
    | none, some t => (rdA [] a).bind (storeOp E t x)
    | _, _ => .fail
  | .call { callee := .builtin .append, args, argTypes } => match o.dst, args.toList, argTypes.toList with
    | some d, [s, x], [T, T'] => bif Nat.beq T T' then (rdA [] s).bind (appendOp E T d x) else .fail
    | _, _, _ => .fail
  | .makeFunc (.func f) first cap => match Map.get E.C f with
    | some c => (capsOf E c.caps cap.toList).bind fun y => (rdS [] first.toList).bind fun l => (funOf E c y.1 l).bind fun a =>
      .ret (.slot o.dst [] true (.v a.1) (y.2 ++ a.2))
    | none => match Map.get E.I f with
      | some c => bif first.toList.isEmpty then (capsOf E c.caps cap.toList).bind fun y => .opt c.out.den (c.fn y.1) fun xs => .ret (.slot o.dst [] true (.v (.pure c.out xs)) y.2) else .fail
      | none => .fail
  | .makeMap T none => match o.dst, E.ty T with
    | some d, some (.map k u) => newObj d (.map k u []) (.hand d) []
    | _, _ => .fail
  | .mapUpdate T m k x => match o.dst with
    | none => mapPut E T m k x
    | some _ => .fail
  | .insert T m k x => match o.dst with
    | none => mapPut E T m k x
    | some _ => .fail
  | .slice T x lo hi none => (rdA [] x).bind fun a => match a, o.dst with
    | .hand id ver, some d => .obj id fun
      | some (cv, .buf e l) => bif Nat.beq cv ver then (if E.ty T = some (.slice e) then (rdBound [] 0 lo).bind fun p => (rdBound [] (List.length l : Nat) hi).bind fun q =>
          .opt (List e.den) (cut l p q) fun z => .ret ⟨some (d, ⟨[], true, .v (.hand id (cv + 1))⟩), [(id, (cv + 1, .buf e z))]⟩ else .fail) else .fail
      | _ => .fail
    | _, _ => (valOp E [] true (.slice T x lo hi none)).bind fun s => .ret (.slot o.dst [] true s [])
  | .call { callee := .value f, args, .. } => (callOp E [] true f args.toList).bind (callUpd o.dst)
  | .convert S T x => match E.ty S, E.ty T with
    | some .str, some (.slice (.int .u8)) => (rdA [] x).bind fun
      | .pure .str l => .ret (.slot o.dst [] true (.v (.pure (.slice (.int .u8)) (bytesOf l))) [])
      | _ => .fail
    | _, _ => (valOp E [] true (.convert S T x)).bind fun s => .ret (.slot o.dst [] true s [])
  | op => (valOp E [] true op).bind fun s => .ret (.slot o.dst [] true s [])

def gAnd (L : List (Nat × Bool)) (g b : Bool) : Bool :=
  match L with
  | [] => b
  | _ :: _ => g && b

/-- An operation under a guard: slot s holds want. -/
def guardOp (E : Env) (o : Oper) (s : Nat) (want : Bool) : RM Upd :=
  .slot s fun
  | some ⟨L, g, .v (.pure .bool b)⟩ =>
    let L' := (s, want) :: L
    let g' : Bool := gAnd L g (bif want then b else !b)
    match o.op with
    | .call { callee := .value f, args, .. } => (callOp E L' g' f args.toList).bind fun r => match r.2 with
      | [] => .ret (.slot o.dst L' g' r.1.2 [])
      | _ => .fail
    | .buildSlice T n ps => match E.ty T with
      | some (.slice e) => (fillL E e (List.replicate n e.dflt) [] ps.toList).bind fun l => match l.2 with
        | [] => bif e.noFn && Nat.ble (n * e.sz) 16777216 then .ret (.slot o.dst L' g' (.v (.pure (.slice e) l.1)) []) else .fail
        | _ => .fail
      | _ => .fail
    | op => (valOp E L' g' op).bind fun s => .ret (.slot o.dst L' g' s [])
  | _ => .fail

def opRM (E : Env) (ops : Array Oper) (o : Oper) : RM Upd :=
  match o.guard with
  | none => effOp E o
  | some (j, want) => match (ops[j]?).bind (·.dst) with
    | some s => guardOp E o s want
    | none => .fail

/-- The slot that a guard reads. -/
def guardSlot (ops : Array Oper) (o : Oper) : Option Nat :=
  match o.guard with
  | none => none
  | some (j, _) => (ops[j]?).bind (·.dst)

def setObjs : List (Nat × (Nat × AObj)) → W → List (Nat × (Nat × AObj))
  | h, [] => h
  | h, (id, o) :: r => setObjs (Map.set h id o) r

/-- May slot d be written? -/
def ASt.may (st : ASt) (d : Nat) : Bool := Nat.blt d st.N && !st.marks.any (Nat.beq d) && !st.fixed.any (Nat.beq d)

def moreMarks (m : Option Nat) (l : List Nat) : List Nat :=
  match m with
  | some s => s :: l
  | none => l

def isMark (m : Option Nat) (d : Nat) : Bool :=
  match m with
  | some s => Nat.beq d s
  | none => false

def applyU (st : ASt) (m : Option Nat) (u : Upd) : Option ASt :=
  match u.dst with
  | some (d, sl) => bif st.may d && !isMark m d then
      some { N := st.N, marks := moreMarks m st.marks, slots := Map.set st.slots d sl, heap := setObjs st.heap u.objs, fixed := st.fixed } else none
  | none => some { N := st.N, marks := moreMarks m st.marks, slots := st.slots, heap := setObjs st.heap u.objs, fixed := st.fixed }

def opR {R : Type} (E : Env) (ops : Array Oper) (o : Oper) (st : ASt) (K : ASt → Option R) : Option R :=
  (opRM E ops o).runK st fun u => match applyU st (guardSlot ops o) u with
  | some st => K st
  | none => none

def opsR {R : Type} (E : Env) (ops : Array Oper) : List Oper → ASt → (ASt → Option R) → Option R
  | [], st, K => K st
  | o :: r, st, K => opR E ops o st fun st => opsR E ops r st K

/-! An order that is drawn. -/

structure FP where
  r : List Key
  w : List Key

def Upd.keys (u : Upd) : List Key :=
  (match u.dst with
  | some (d, _) => [(d, true)]
  | none => []) ++ u.objs.map fun p => (p.1, false)

def keyEq (k k' : Key) : Bool := Nat.beq k.1 k'.1 && (bif k.2 then k'.2 else !k'.2)
def disj (l m : List Key) : Bool := l.all fun k => !m.any (keyEq k)
def indep (f g : FP) : Bool := disj f.w g.r && disj g.w f.r && disj f.w g.w

/-- Whether each earlier operation stands ahead by an edge (before: as bits), or does not touch the later one. -/
def indepTo (bits : Nat) (g : FP) : Nat → List FP → Bool
  | _, [] => true
  | i, f :: r => (Nat.testBit bits i || indep f g) && indepTo bits g (i + 1) r

/-- The operations with their edges, in the order of the text: fs are the records so far. -/
def opsRD {R : Type} (E : Env) (ops : Array Oper) (bs : List Nat) : List Oper → List FP → ASt → (ASt → Option R) → Option R
  | [], _, st, K => K st
  | o :: r, fs, st, K => (opRM E ops o).runKK st fun u ks => match applyU st (guardSlot ops o) u with
    | some st => bif indepTo (bs.getD fs.length 0) ⟨ks, u.keys⟩ 0 fs then opsRD E ops bs r (fs ++ [⟨ks, u.keys⟩]) st K else none
    | none => none

/-- Without what stands under a test. -/
def unlab (st : ASt) : ASt := { st with marks := [], slots := st.slots.map fun p => (p.1, if p.2.L.isEmpty then p.2 else ⟨[], true, .v .junk⟩) }

/-- What stands ahead of each operation, as bits: what its edges say, and what stands ahead of those. -/
def bitsE : List Edge → List Nat → Nat → Nat
  | [], _, s => s
  | e :: r, acc, s => bitsE r acc (bif Region.binds .any e then s ||| 2 ^ e.on ||| acc.getD e.on 0 else s)

def bef : List Oper → List Nat → List Nat
  | [], acc => acc
  | o :: r, acc => CheckFast.force (bitsE o.after.toList acc 0) fun v => bef r (acc ++ [v])

/-- All edges point to earlier operations. -/
def fwd : Nat → List Oper → Bool
  | _, [] => true
  | i, o :: r => (o.after.toList.all fun e => !Region.binds .any e || Nat.blt e.on i) && fwd (i + 1) r

def regR {R : Type} (E : Env) (ops : Array Oper) (draw : Bool) (st : ASt) (K : ASt → Option R) : Option R :=
  bif draw then (bif fwd 0 ops.toList then opsRD E ops (bef ops.toList []) ops.toList [] st fun st => K (unlab st) else none)
  else opsR E ops ops.toList st fun st => K (unlab st)

abbrev Ev (R : Type) := ASt → (Exit → ASt → Option R) → Option R

def condR {R : Type} (c : Operand) (st : ASt) (x y : Option R) : Option R :=
  ((rdA [] c).bind boolOf).runK st fun t => bif t then x else y

/-- The results of a call. -/
def resOf (E : Env) : List ResultVar → RM (List SVal)
  | [] => .ret []
  | .tmp t :: r => (rd [] (.tmp t)).bind fun s => (resOf E r).bind fun l => .ret (s :: l)
  | .cell a T :: r => match E.ty T with
    | some t => (rdA [] (.tmp a)).bind fun b => (loadOp true t b).bind fun s => (resOf E r).bind fun l => .ret (s :: l)
    | none => .fail

def nodupN : List Nat → Bool
  | [] => true
  | i :: r => !r.any (Nat.beq i) && nodupN r

def freshOne (t : Ty) (a : AVal) (r : List AVal) : RM ((t.den × List Nat) × List AVal) :=
  match a with
  | .pure u d => match castTy (t := u) (t' := t) d with
    | some x => .ret ((x, []), r)
    | none => .fail
  | _ => .fail

/-- Data whose slices are all of the call's own, and which objects these are. -/
def freshCells : (t : Ty) → List AVal → RM ((t.den × List Nat) × List AVal)
  | .slice e, .hand id ver :: r => .obj id fun
    | some (cv, .buf e' l) => bif Nat.beq cv ver then (match castTy (t := .slice e') (t' := .slice e) l with
      | some x => .ret ((x, [id]), r)
      | none => .fail) else .fail
    | _ => .fail
  | .slice e, .nils :: r => .ret ((([] : List e.den), []), r)
  | .pair a b, l => (freshCells a l).bind fun x => (freshCells b x.2).bind fun y => .ret (((x.1.1, y.1.1), x.1.2 ++ y.1.2), y.2)
  | .int k, x :: r => freshOne (.int k) x r
  | .bool, x :: r => freshOne .bool x r
  | .str, x :: r => freshOne .str x r
  | _, _ => .fail

/-- A result that must be a slice of the call's own. -/
def freshOf : (outs : List Ty) → List SVal → RM (denL outs)
  | [.slice e], [.v (.hand id ver)] => .obj id fun
    | some (cv, .buf e' l) => bif Nat.beq cv ver then (match castTy (t := .slice e') (t' := .slice e) l with
      | some x => .ret x
      | none => .fail) else .fail
    | _ => .fail
  | [.slice e], [.v .nils] => .ret ([] : List e.den)
  | [.pair a b], [.comp l] => (freshCells (.pair a b) l).bind fun x => match x.2 with
    | [] => bif nodupN x.1.2 then .ret x.1.1 else .fail
    | _ => .fail
  | _, _ => .fail

def finR (E : Env) (fresh : Bool) (rs : List ResultVar) (outs : List Ty) : Exit → ASt → Option (denL outs)
  | .normal, st | .ret, st => bif fresh then ((resOf E rs).bind fun l => freshOf outs l).runK st some
    else ((resOf E rs).bind fun l => packArgs E outs l).runK st fun x => some x.1
  | _, _ => none

def ptrs : List AVal → List AVal
  | [] => []
  | .pure t d :: r => .pptr t d :: ptrs r
  | a :: r => a :: ptrs r

def number (n : Nat) : List AVal → List (Nat × Slot)
  | [] => []
  | a :: r => (n, ⟨[], true, .v a⟩) :: number (n + 1) r

def entry (N : Nat) (ins caps : List Ty) (x : denL ins) (y : denL caps) : ASt :=
  { N, marks := [], slots := number 0 (tupOf ins x ++ ptrs (tupOf caps y)), heap := [], fixed := [] }

end Go.Abs
