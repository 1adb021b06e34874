/- Parts of one proof, joined: Further functions of the program as plain Lean functions, and that each call does what its function says. Printed by a program of ours. No condition but those that each theorem names. What the small functions compute. Rule books: which are right; walks; classes. Rule books, on: the reference's test, walks, copies. Rule books, on: small ones, copies, the functions of the program. Panels: which are right; counts, marks. Panels: counts, marks, steadiness. Panels: steady tasters; what a panel marks. awake; the reference's test of marks, and its walk; TasteBooks. What a walk's classes say; TasteSheets. Breadth first search over any nodes: what it finds, in which order, and that what it finds comes first. No program. The search over classes and over pairs of classes: what it finds. The classes that are reached; SheetTo; where marks lead to; marks that come before. Ranks of names; the reference -/
import Derived.Test.YtbcbiemjokpghaaL3
import Derived.Test.YtbcbiemjokpghaaL4
set_option linter.unusedVariables false
namespace Go.Abs
open Go

/-- criadera/criaderaref07.SameMarks -/
def s61 (n : Nat) (a : (List (List UInt8)) × Int × (List ((List UInt8) × (List Int) × (List (List UInt8))))) (b : (List (List UInt8)) × Int × (List ((List UInt8) × (List Int) × (List (List UInt8))))) : Option (Bool) :=
  (s45 n a.1 b.1).bind fun x =>
  some (x)

def s61_c (n : Nat) : Con := ⟨[(.pair (.slice .str) (.pair (.int .i64) (.slice (.pair .str (.pair (.slice (.int .i64)) (.slice .str)))))), (.pair (.slice .str) (.pair (.int .i64) (.slice (.pair .str (.pair (.slice (.int .i64)) (.slice .str))))))], [], [.bool], fun x y => s61 n x.1 x.2, false⟩
theorem s61_eq (n : Nat) (x : denL [(.pair (.slice .str) (.pair (.int .i64) (.slice (.pair .str (.pair (.slice (.int .i64)) (.slice .str)))))), (.pair (.slice .str) (.pair (.int .i64) (.slice (.pair .str (.pair (.slice (.int .i64)) (.slice .str))))))]) (y : denL []) : funR (e72 n) Go.Proofs.Try.f61 [(.pair (.slice .str) (.pair (.int .i64) (.slice (.pair .str (.pair (.slice (.int .i64)) (.slice .str)))))), (.pair (.slice .str) (.pair (.int .i64) (.slice (.pair .str (.pair (.slice (.int .i64)) (.slice .str))))))] [] [.bool] false [] x y = (s61_c n).fn x y := by kernel_rfl
theorem s61_ok (n : Nat) : ConOK Go.Proofs.Try.prog 61 (s61_c n) := func_ok (h72 n) hP Go.Proofs.Try.func61 (by kernel_rfl) (by kernel_rfl) (O := []) trivial (s61_eq n)
def e73 (n : Nat) : Env := ⟨gT, (61, s61_c n) :: (e72 n).C, gQ, (e72 n).I, (e72 n).M, (e72 n).S, (e72 n).D, []⟩
theorem h73 (n : Nat) : EnvOK Go.Proofs.Try.prog (e73 n) := env_add (h72 n) (s61_ok n)

def s66_l0 (n : Nat) (d : Int × (List (List UInt8)) × Int × (List ((List UInt8) × (List Int) × (List (List UInt8)))) × (List (List UInt8)) × Int × (List ((List UInt8) × (List Int) × (List (List UInt8)))) × Unit) (again : (Int × (List (List UInt8)) × Int × (List ((List UInt8) × (List Int) × (List (List UInt8)))) × (List (List UInt8)) × Int × (List ((List UInt8) × (List Int) × (List (List UInt8)))) × Unit) → Option (Bool)) (ks : (Unit → Option (Bool)) × (Bool × Unit → Option (Bool)) × Unit) : Option (Bool) :=
  match d, ks with
  | (i, a, a_1, a_2, b, b_1, b_2, _), (k0, k1, _) =>
  bif (decide (i < ((List.length a_2 : Nat) : Int))) then
    (geti a_2 i).bind fun e =>
    (geti b_2 i).bind fun e_1 =>
    (part (!((e.1 : List UInt8) != e_1.1)) (s32 n e.2.1 e_1.2.1) false).bind fun x =>
    (part (!(((e.1 : List UInt8) != e_1.1) || (!x))) (s45 n e.2.2 e_1.2.2) false).bind fun x_1 =>
    bif ((((e.1 : List UInt8) != e_1.1) || (!x)) || (!x_1)) then
      k1 (false, ())
    else
      again ((IntKind.wrap .i64 (i + (1 : Int))), a, a_1, a_2, b, b_1, b_2, ())
  else
    k0 (())

/-- criadera/criaderaref07.Same -/
def s66 (n : Nat) (a : (List (List UInt8)) × Int × (List ((List UInt8) × (List Int) × (List (List UInt8))))) (b : (List (List UInt8)) × Int × (List ((List UInt8) × (List Int) × (List (List UInt8))))) : Option (Bool) :=
  (s61 n (a.1, (a.2.1, a.2.2)) (b.1, (b.2.1, b.2.2))).bind fun x =>
  bif (((!x) || (a.2.1 != b.2.1)) || (((List.length a.2.2 : Nat) : Int) != ((List.length b.2.2 : Nat) : Int))) then
    some (false)
  else
    loopG (s66_l0 n) n ((0 : Int), a.1, a.2.1, a.2.2, b.1, b.2.1, b.2.2, ())
      (fun (_) =>
        some (true),
      fun (t4, _) =>
        some (t4), ())

def s66_t0 : Templ := ⟨66, [(.int .i64), (.slice .str), (.int .i64), (.slice (.pair .str (.pair (.slice (.int .i64)) (.slice .str)))), (.slice .str), (.int .i64), (.slice (.pair .str (.pair (.slice (.int .i64)) (.slice .str))))], [(2, .v (.bptr 66 0)), (3, .v (.bptr 67 0)), (5, .v (.hole (.int .i64)))], [(66, .box (.pair (.slice .str) (.pair (.int .i64) (.slice (.pair .str (.pair (.slice (.int .i64)) (.slice .str)))))) [.hole (.slice .str), .hole (.int .i64), .hole (.slice (.pair .str (.pair (.slice (.int .i64)) (.slice .str))))]), (67, .box (.pair (.slice .str) (.pair (.int .i64) (.slice (.pair .str (.pair (.slice (.int .i64)) (.slice .str)))))) [.hole (.slice .str), .hole (.int .i64), .hole (.slice (.pair .str (.pair (.slice (.int .i64)) (.slice .str))))])], []⟩
def s66_x0 : List (Way × Templ) := [(.exit 0, ⟨66, [], [], [], []⟩), (.ret, ⟨66, [.bool], [(4, .v (.hole .bool))], [], []⟩)]
def s66_o0 (n : Nat) : Ev (denL [.bool]) := loopO n (e73 n) s66_t0 s66_x0 (s66_l0 n)
theorem s66_b0 (n : Nat) (d) (again) (ks) : codeR (R := (denL [.bool])) (e73 n) (Hdl.no (R := (denL [.bool]))) (inn (lp (bd Go.Proofs.Try.f66) 0)) [] (mk s66_t0 d) (turnR (e73 n) s66_t0 s66_x0 again ks) = s66_l0 n d again ks := by kernel_rfl
theorem s66_s0 (n : Nat) : Sound Go.Proofs.Try.prog (Hdl.no (R := (denL [.bool]))) false (lp (bd Go.Proofs.Try.f66) 0) (s66_o0 n) := loop_ok (h73 n) hP (by kernel_rfl) (O := []) trivial (s66_b0 n)
def s66_c (n : Nat) : Con := ⟨[(.pair (.slice .str) (.pair (.int .i64) (.slice (.pair .str (.pair (.slice (.int .i64)) (.slice .str)))))), (.pair (.slice .str) (.pair (.int .i64) (.slice (.pair .str (.pair (.slice (.int .i64)) (.slice .str))))))], [], [.bool], fun x y => s66 n x.1 x.2, false⟩
theorem s66_eq (n : Nat) (x : denL [(.pair (.slice .str) (.pair (.int .i64) (.slice (.pair .str (.pair (.slice (.int .i64)) (.slice .str)))))), (.pair (.slice .str) (.pair (.int .i64) (.slice (.pair .str (.pair (.slice (.int .i64)) (.slice .str))))))]) (y : denL []) : funR (e73 n) Go.Proofs.Try.f66 [(.pair (.slice .str) (.pair (.int .i64) (.slice (.pair .str (.pair (.slice (.int .i64)) (.slice .str)))))), (.pair (.slice .str) (.pair (.int .i64) (.slice (.pair .str (.pair (.slice (.int .i64)) (.slice .str))))))] [] [.bool] false [s66_o0 n] x y = (s66_c n).fn x y := by kernel_rfl
theorem s66_ok (n : Nat) : ConOK Go.Proofs.Try.prog 66 (s66_c n) := func_ok (h73 n) hP Go.Proofs.Try.func66 (by kernel_rfl) (by kernel_rfl) (O := [s66_o0 n]) ⟨s66_s0 n, trivial⟩ (s66_eq n)
def e74 (n : Nat) : Env := ⟨gT, (66, s66_c n) :: (e73 n).C, gQ, (e73 n).I, (e73 n).M, (e73 n).S, (e73 n).D, []⟩
theorem h74 (n : Nat) : EnvOK Go.Proofs.Try.prog (e74 n) := env_add (h73 n) (s66_ok n)

def s63_l0 (n : Nat) (d : (List UInt8) × Int × Unit) (again : ((List UInt8) × Int × Unit) → Option ((List UInt8))) (ks : ((List UInt8) × Unit → Option ((List UInt8))) × ((List UInt8) × Unit → Option ((List UInt8))) × Unit) : Option ((List UInt8)) :=
  match d, ks with
  | (name, i, _), (k0, k1, _) =>
  bif (decide (i < ((List.length name : Nat) : Int))) then
    (geti name i).bind fun c =>
    bif (((UInt8.toNat c : Nat) : Int) == (45 : Int)) then
      (cut name 0 i).bind fun x =>
      k1 (x, ())
    else
      again (name, (IntKind.wrap .i64 (i + (1 : Int))), ())
  else
    k0 (name, ())

/-- criadera/criaderaref07.Rank -/
def s63 (n : Nat) (name : List UInt8) : Option ((List UInt8)) :=
  loopG (s63_l0 n) n (name, (0 : Int), ())
    (fun (name_2, _) =>
      some (name_2),
    fun (t2, _) =>
      some (t2), ())

def s63_t0 : Templ := ⟨18, [.str, (.int .i64)], [(0, .v (.hole .str)), (3, .v (.hole (.int .i64)))], [], []⟩
def s63_x0 : List (Way × Templ) := [(.exit 0, ⟨18, [.str], [(0, .v (.hole .str))], [], []⟩), (.ret, ⟨18, [.str], [(2, .v (.hole .str))], [], []⟩)]
def s63_o0 (n : Nat) : Ev (denL [.str]) := loopO n (e74 n) s63_t0 s63_x0 (s63_l0 n)
theorem s63_b0 (n : Nat) (d) (again) (ks) : codeR (R := (denL [.str])) (e74 n) (Hdl.no (R := (denL [.str]))) (inn (lp (bd Go.Proofs.Try.f63) 0)) [] (mk s63_t0 d) (turnR (e74 n) s63_t0 s63_x0 again ks) = s63_l0 n d again ks := by kernel_rfl
theorem s63_s0 (n : Nat) : Sound Go.Proofs.Try.prog (Hdl.no (R := (denL [.str]))) false (lp (bd Go.Proofs.Try.f63) 0) (s63_o0 n) := loop_ok (h74 n) hP (by kernel_rfl) (O := []) trivial (s63_b0 n)
def s63_c (n : Nat) : Con := ⟨[.str], [], [.str], fun x y => s63 n x, false⟩
theorem s63_eq (n : Nat) (x : denL [.str]) (y : denL []) : funR (e74 n) Go.Proofs.Try.f63 [.str] [] [.str] false [s63_o0 n] x y = (s63_c n).fn x y := by kernel_rfl
theorem s63_ok (n : Nat) : ConOK Go.Proofs.Try.prog 63 (s63_c n) := func_ok (h74 n) hP Go.Proofs.Try.func63 (by kernel_rfl) (by kernel_rfl) (O := [s63_o0 n]) ⟨s63_s0 n, trivial⟩ (s63_eq n)
def e75 (n : Nat) : Env := ⟨gT, (63, s63_c n) :: (e74 n).C, gQ, (e74 n).I, (e74 n).M, (e74 n).S, (e74 n).D, []⟩
theorem h75 (n : Nat) : EnvOK Go.Proofs.Try.prog (e75 n) := env_add (h74 n) (s63_ok n)

def s62_l0_0_0 (n : Nat) (d : Int × Int × Bool × Int × (List (List UInt8)) × Int × (List ((List UInt8) × (List Int) × (List (List UInt8)))) × (List (List UInt8)) × Int × (List ((List UInt8) × (List Int) × (List (List UInt8)))) × (List (Int × Int)) × (List (List Int)) × (List UInt8) × (List Int) × (List (List UInt8)) × (List UInt8) × (List Int) × (List (List UInt8)) × Int × Int × Unit) (again : (Int × Int × Bool × Int × (List (List UInt8)) × Int × (List ((List UInt8) × (List Int) × (List (List UInt8)))) × (List (List UInt8)) × Int × (List ((List UInt8) × (List Int) × (List (List UInt8)))) × (List (Int × Int)) × (List (List Int)) × (List UInt8) × (List Int) × (List (List UInt8)) × (List UInt8) × (List Int) × (List (List UInt8)) × Int × Int × Unit) → Option ((List Int) × Bool)) (ks : (Int × Int × Bool × (List (List UInt8)) × Int × (List ((List UInt8) × (List Int) × (List (List UInt8)))) × (List (List UInt8)) × Int × (List ((List UInt8) × (List Int) × (List (List UInt8)))) × (List (Int × Int)) × (List (List Int)) × (List UInt8) × (List Int) × (List (List UInt8)) × (List UInt8) × (List Int) × (List (List UInt8)) × Int × Int × Unit → Option ((List Int) × Bool)) × Unit) : Option ((List Int) × Bool) :=
  match d, ks with
  | (i, m, known, v_k, a, a_1, a_2, b, b_1, b_2, queue, marks, t9, t9_1, t9_2, y, y_1, y_2, next, next_1, _), (k0, _) =>
  bif (decide (v_k < ((List.length queue : Nat) : Int))) then
    (part (!known) (geti queue v_k) ((0 : Int), (0 : Int))).bind fun e =>
    (part (!known) (geti queue v_k) ((0 : Int), (0 : Int))).bind fun x =>
    again (i, m, (known || ((x.1 == next) && (x.2 == next_1))), (IntKind.wrap .i64 (v_k + (1 : Int))), a, a_1, a_2, b, b_1, b_2, queue, marks, t9, t9_1, t9_2, y, y_1, y_2, next, next_1, ())
  else
    k0 (i, m, known, a, a_1, a_2, b, b_1, b_2, queue, marks, t9, t9_1, t9_2, y, y_1, y_2, next, next_1, ())

def s62_l0_0 (n : Nat) (d : Int × Int × (List (List UInt8)) × Int × (List ((List UInt8) × (List Int) × (List (List UInt8)))) × (List (List UInt8)) × Int × (List ((List UInt8) × (List Int) × (List (List UInt8)))) × (List (Int × Int)) × (List (List Int)) × (List UInt8) × (List Int) × (List (List UInt8)) × (List UInt8) × (List Int) × (List (List UInt8)) × Unit) (again : (Int × Int × (List (List UInt8)) × Int × (List ((List UInt8) × (List Int) × (List (List UInt8)))) × (List (List UInt8)) × Int × (List ((List UInt8) × (List Int) × (List (List UInt8)))) × (List (Int × Int)) × (List (List Int)) × (List UInt8) × (List Int) × (List (List UInt8)) × (List UInt8) × (List Int) × (List (List UInt8)) × Unit) → Option ((List Int) × Bool)) (ks : (Int × (List (List UInt8)) × Int × (List ((List UInt8) × (List Int) × (List (List UInt8)))) × (List (List UInt8)) × Int × (List ((List UInt8) × (List Int) × (List (List UInt8)))) × (List (Int × Int)) × (List (List Int)) × Unit → Option ((List Int) × Bool)) × Unit) : Option ((List Int) × Bool) :=
  match d, ks with
  | (i, m, a, a_1, a_2, b, b_1, b_2, queue, marks, t9, t9_1, t9_2, y, y_1, y_2, _), (k0, _) =>
  bif (decide (m < ((List.length a : Nat) : Int))) then
    (geti t9_1 m).bind fun e =>
    (geti y_1 m).bind fun e_1 =>
    loopG (s62_l0_0_0 n) n (i, m, false, (0 : Int), a, a_1, a_2, b, b_1, b_2, queue, marks, t9, t9_1, t9_2, y, y_1, y_2, e, e_1, ())
      (fun (i_2, m_2, known_1, a_6, a_7, a_8, b_6, b_7, b_8, queue_2, marks_2, t9_6, t9_7, t9_8, y_6, y_7, y_8, next_2, next_3, _) =>
        bif (!known_1) then
          (chk (List.length queue_2 + List.length ([(next_2, next_3)] : List (Int × Int)))).bind fun u =>
          (geti marks_2 i_2).bind fun e_3 =>
          (geti marks_2 i_2).bind fun x_1 =>
          (s27 n x_1).bind fun x_2 =>
          (chk (List.length x_2 + List.length ([m_2] : List Int))).bind fun u_1 =>
          (chk (List.length marks_2 + List.length ([(x_2 ++ ([m_2] : List Int))] : List (List Int)))).bind fun u_2 =>
          again (i_2, (IntKind.wrap .i64 (m_2 + (1 : Int))), a_6, a_7, a_8, b_6, b_7, b_8, (queue_2 ++ ([(next_2, next_3)] : List (Int × Int))), (marks_2 ++ ([(x_2 ++ ([m_2] : List Int))] : List (List Int))), t9_6, t9_7, t9_8, y_6, y_7, y_8, ())
        else
          again (i_2, (IntKind.wrap .i64 (m_2 + (1 : Int))), a_6, a_7, a_8, b_6, b_7, b_8, queue_2, marks_2, t9_6, t9_7, t9_8, y_6, y_7, y_8, ()), ())
  else
    k0 (i, a, a_1, a_2, b, b_1, b_2, queue, marks, ())

def s62_l0 (n : Nat) (d : Int × (List (List UInt8)) × Int × (List ((List UInt8) × (List Int) × (List (List UInt8)))) × (List (List UInt8)) × Int × (List ((List UInt8) × (List Int) × (List (List UInt8)))) × (List (Int × Int)) × (List (List Int)) × Unit) (again : (Int × (List (List UInt8)) × Int × (List ((List UInt8) × (List Int) × (List (List UInt8)))) × (List (List UInt8)) × Int × (List ((List UInt8) × (List Int) × (List (List UInt8)))) × (List (Int × Int)) × (List (List Int)) × Unit) → Option ((List Int) × Bool)) (ks : (Unit → Option ((List Int) × Bool)) × ((List Int) × Bool × Unit → Option ((List Int) × Bool)) × Unit) : Option ((List Int) × Bool) :=
  match d, ks with
  | (i, a, a_1, a_2, b, b_1, b_2, queue, marks, _), (k0, k1, _) =>
  bif (decide (i < ((List.length queue : Nat) : Int))) then
    (geti queue i).bind fun e =>
    (geti queue i).bind fun x =>
    (geti a_2 x.1).bind fun e_1 =>
    (geti queue i).bind fun e_2 =>
    (geti queue i).bind fun x_1 =>
    (geti b_2 x_1.2).bind fun e_3 =>
    (s63 n e_1.1).bind fun x_2 =>
    (s63 n e_3.1).bind fun x_3 =>
    bif ((x_2 : List UInt8) != x_3) then
      (geti marks i).bind fun e_4 =>
      (geti marks i).bind fun x_4 =>
      k1 (x_4, true, ())
    else
      loopG (s62_l0_0 n) n (i, (0 : Int), a, a_1, a_2, b, b_1, b_2, queue, marks, e_1.1, e_1.2.1, e_1.2.2, e_3.1, e_3.2.1, e_3.2.2, ())
        (fun (i_4, a_12, a_13, a_14, b_12, b_13, b_14, queue_4, marks_4, _) =>
          again ((IntKind.wrap .i64 (i_4 + (1 : Int))), a_12, a_13, a_14, b_12, b_13, b_14, queue_4, marks_4, ()), ())
  else
    k0 (())

/-- criadera/criaderaref07.Distinguish -/
def s62 (n : Nat) (a : (List (List UInt8)) × Int × (List ((List UInt8) × (List Int) × (List (List UInt8))))) (b : (List (List UInt8)) × Int × (List ((List UInt8) × (List Int) × (List (List UInt8))))) : Option ((List Int) × Bool) :=
  loopG (s62_l0 n) n ((0 : Int), a.1, a.2.1, a.2.2, b.1, b.2.1, b.2.2, ([(a.2.1, b.2.1)] : List (Int × Int)), ([([] : List Int)] : List (List Int)), ())
    (fun (_) =>
      some (([] : List Int), false),
    fun (t4, t5, _) =>
      some (t4, t5), ())

def s62_t0_0_0 : Templ := ⟨107, [(.int .i64), (.int .i64), .bool, (.int .i64), (.slice .str), (.int .i64), (.slice (.pair .str (.pair (.slice (.int .i64)) (.slice .str)))), (.slice .str), (.int .i64), (.slice (.pair .str (.pair (.slice (.int .i64)) (.slice .str)))), (.slice (.pair (.int .i64) (.int .i64))), (.slice (.slice (.int .i64))), .str, (.slice (.int .i64)), (.slice .str), .str, (.slice (.int .i64)), (.slice .str), (.int .i64), (.int .i64)], [(2, .v (.bptr 107 0)), (3, .v (.bptr 108 0)), (6, .v (.hand 109)), (7, .v (.hand 110)), (8, .v (.hole (.int .i64))), (9, .v (.bptr 111 0)), (10, .v (.bptr 112 0)), (11, .v (.hole (.int .i64))), (12, .v (.bptr 113 0)), (13, .v (.hole .bool)), (14, .v (.hole (.int .i64)))], [(107, .box (.pair (.slice .str) (.pair (.int .i64) (.slice (.pair .str (.pair (.slice (.int .i64)) (.slice .str)))))) [.hole (.slice .str), .hole (.int .i64), .hole (.slice (.pair .str (.pair (.slice (.int .i64)) (.slice .str))))]), (108, .box (.pair (.slice .str) (.pair (.int .i64) (.slice (.pair .str (.pair (.slice (.int .i64)) (.slice .str)))))) [.hole (.slice .str), .hole (.int .i64), .hole (.slice (.pair .str (.pair (.slice (.int .i64)) (.slice .str))))]), (109, .buf (.pair (.int .i64) (.int .i64))), (110, .buf (.slice (.int .i64))), (111, .box (.pair .str (.pair (.slice (.int .i64)) (.slice .str))) [.hole .str, .hole (.slice (.int .i64)), .hole (.slice .str)]), (112, .box (.pair .str (.pair (.slice (.int .i64)) (.slice .str))) [.hole .str, .hole (.slice (.int .i64)), .hole (.slice .str)]), (113, .box (.pair (.int .i64) (.int .i64)) [.hole (.int .i64), .hole (.int .i64)])], []⟩
def s62_x0_0_0 : List (Way × Templ) := [(.exit 4, ⟨107, [(.int .i64), (.int .i64), .bool, (.slice .str), (.int .i64), (.slice (.pair .str (.pair (.slice (.int .i64)) (.slice .str)))), (.slice .str), (.int .i64), (.slice (.pair .str (.pair (.slice (.int .i64)) (.slice .str)))), (.slice (.pair (.int .i64) (.int .i64))), (.slice (.slice (.int .i64))), .str, (.slice (.int .i64)), (.slice .str), .str, (.slice (.int .i64)), (.slice .str), (.int .i64), (.int .i64)], [(2, .v (.bptr 107 0)), (3, .v (.bptr 108 0)), (6, .v (.hand 109)), (7, .v (.hand 110)), (8, .v (.hole (.int .i64))), (9, .v (.bptr 111 0)), (10, .v (.bptr 112 0)), (11, .v (.hole (.int .i64))), (12, .v (.bptr 113 0)), (13, .v (.hole .bool))], [(107, .box (.pair (.slice .str) (.pair (.int .i64) (.slice (.pair .str (.pair (.slice (.int .i64)) (.slice .str)))))) [.hole (.slice .str), .hole (.int .i64), .hole (.slice (.pair .str (.pair (.slice (.int .i64)) (.slice .str))))]), (108, .box (.pair (.slice .str) (.pair (.int .i64) (.slice (.pair .str (.pair (.slice (.int .i64)) (.slice .str)))))) [.hole (.slice .str), .hole (.int .i64), .hole (.slice (.pair .str (.pair (.slice (.int .i64)) (.slice .str))))]), (109, .buf (.pair (.int .i64) (.int .i64))), (110, .buf (.slice (.int .i64))), (111, .box (.pair .str (.pair (.slice (.int .i64)) (.slice .str))) [.hole .str, .hole (.slice (.int .i64)), .hole (.slice .str)]), (112, .box (.pair .str (.pair (.slice (.int .i64)) (.slice .str))) [.hole .str, .hole (.slice (.int .i64)), .hole (.slice .str)]), (113, .box (.pair (.int .i64) (.int .i64)) [.hole (.int .i64), .hole (.int .i64)])], []⟩)]
def s62_o0_0_0 (n : Nat) : Ev (denL [(.slice (.int .i64)), .bool]) := loopO n (e75 n) s62_t0_0_0 s62_x0_0_0 (s62_l0_0_0 n)
theorem s62_b0_0_0 (n : Nat) (d) (again) (ks) : codeR (R := (denL [(.slice (.int .i64)), .bool])) (e75 n) (Hdl.no (R := (denL [(.slice (.int .i64)), .bool]))) (inn (lp (inn (lp (inn (lp (bd Go.Proofs.Try.f62) 0)) 0)) 0)) [] (mk s62_t0_0_0 d) (turnR (e75 n) s62_t0_0_0 s62_x0_0_0 again ks) = s62_l0_0_0 n d again ks := by kernel_rfl
theorem s62_s0_0_0 (n : Nat) : Sound Go.Proofs.Try.prog (Hdl.no (R := (denL [(.slice (.int .i64)), .bool]))) false (lp (inn (lp (inn (lp (bd Go.Proofs.Try.f62) 0)) 0)) 0) (s62_o0_0_0 n) := loop_ok (h75 n) hP (by kernel_rfl) (O := []) trivial (s62_b0_0_0 n)
def s62_t0_0 : Templ := ⟨107, [(.int .i64), (.int .i64), (.slice .str), (.int .i64), (.slice (.pair .str (.pair (.slice (.int .i64)) (.slice .str)))), (.slice .str), (.int .i64), (.slice (.pair .str (.pair (.slice (.int .i64)) (.slice .str)))), (.slice (.pair (.int .i64) (.int .i64))), (.slice (.slice (.int .i64))), .str, (.slice (.int .i64)), (.slice .str), .str, (.slice (.int .i64)), (.slice .str)], [(2, .v (.bptr 107 0)), (3, .v (.bptr 108 0)), (6, .v (.hand 109)), (7, .v (.hand 110)), (8, .v (.hole (.int .i64))), (9, .v (.bptr 111 0)), (10, .v (.bptr 112 0)), (11, .v (.hole (.int .i64)))], [(107, .box (.pair (.slice .str) (.pair (.int .i64) (.slice (.pair .str (.pair (.slice (.int .i64)) (.slice .str)))))) [.hole (.slice .str), .hole (.int .i64), .hole (.slice (.pair .str (.pair (.slice (.int .i64)) (.slice .str))))]), (108, .box (.pair (.slice .str) (.pair (.int .i64) (.slice (.pair .str (.pair (.slice (.int .i64)) (.slice .str)))))) [.hole (.slice .str), .hole (.int .i64), .hole (.slice (.pair .str (.pair (.slice (.int .i64)) (.slice .str))))]), (109, .buf (.pair (.int .i64) (.int .i64))), (110, .buf (.slice (.int .i64))), (111, .box (.pair .str (.pair (.slice (.int .i64)) (.slice .str))) [.hole .str, .hole (.slice (.int .i64)), .hole (.slice .str)]), (112, .box (.pair .str (.pair (.slice (.int .i64)) (.slice .str))) [.hole .str, .hole (.slice (.int .i64)), .hole (.slice .str)])], []⟩
def s62_x0_0 : List (Way × Templ) := [(.exit 2, ⟨107, [(.int .i64), (.slice .str), (.int .i64), (.slice (.pair .str (.pair (.slice (.int .i64)) (.slice .str)))), (.slice .str), (.int .i64), (.slice (.pair .str (.pair (.slice (.int .i64)) (.slice .str)))), (.slice (.pair (.int .i64) (.int .i64))), (.slice (.slice (.int .i64)))], [(2, .v (.bptr 107 0)), (3, .v (.bptr 108 0)), (6, .v (.hand 109)), (7, .v (.hand 110)), (8, .v (.hole (.int .i64)))], [(107, .box (.pair (.slice .str) (.pair (.int .i64) (.slice (.pair .str (.pair (.slice (.int .i64)) (.slice .str)))))) [.hole (.slice .str), .hole (.int .i64), .hole (.slice (.pair .str (.pair (.slice (.int .i64)) (.slice .str))))]), (108, .box (.pair (.slice .str) (.pair (.int .i64) (.slice (.pair .str (.pair (.slice (.int .i64)) (.slice .str)))))) [.hole (.slice .str), .hole (.int .i64), .hole (.slice (.pair .str (.pair (.slice (.int .i64)) (.slice .str))))]), (109, .buf (.pair (.int .i64) (.int .i64))), (110, .buf (.slice (.int .i64)))], []⟩)]
def s62_o0_0 (n : Nat) : Ev (denL [(.slice (.int .i64)), .bool]) := loopO n (e75 n) s62_t0_0 s62_x0_0 (s62_l0_0 n)
theorem s62_b0_0 (n : Nat) (d) (again) (ks) : codeR (R := (denL [(.slice (.int .i64)), .bool])) (e75 n) (Hdl.no (R := (denL [(.slice (.int .i64)), .bool]))) (inn (lp (inn (lp (bd Go.Proofs.Try.f62) 0)) 0)) [s62_o0_0_0 n] (mk s62_t0_0 d) (turnR (e75 n) s62_t0_0 s62_x0_0 again ks) = s62_l0_0 n d again ks := by kernel_rfl
theorem s62_s0_0 (n : Nat) : Sound Go.Proofs.Try.prog (Hdl.no (R := (denL [(.slice (.int .i64)), .bool]))) false (lp (inn (lp (bd Go.Proofs.Try.f62) 0)) 0) (s62_o0_0 n) := loop_ok (h75 n) hP (by kernel_rfl) (O := [s62_o0_0_0 n]) ⟨s62_s0_0_0 n, trivial⟩ (s62_b0_0 n)
def s62_t0 : Templ := ⟨107, [(.int .i64), (.slice .str), (.int .i64), (.slice (.pair .str (.pair (.slice (.int .i64)) (.slice .str)))), (.slice .str), (.int .i64), (.slice (.pair .str (.pair (.slice (.int .i64)) (.slice .str)))), (.slice (.pair (.int .i64) (.int .i64))), (.slice (.slice (.int .i64)))], [(2, .v (.bptr 107 0)), (3, .v (.bptr 108 0)), (6, .v (.hand 109)), (7, .v (.hand 110)), (8, .v (.hole (.int .i64)))], [(107, .box (.pair (.slice .str) (.pair (.int .i64) (.slice (.pair .str (.pair (.slice (.int .i64)) (.slice .str)))))) [.hole (.slice .str), .hole (.int .i64), .hole (.slice (.pair .str (.pair (.slice (.int .i64)) (.slice .str))))]), (108, .box (.pair (.slice .str) (.pair (.int .i64) (.slice (.pair .str (.pair (.slice (.int .i64)) (.slice .str)))))) [.hole (.slice .str), .hole (.int .i64), .hole (.slice (.pair .str (.pair (.slice (.int .i64)) (.slice .str))))]), (109, .buf (.pair (.int .i64) (.int .i64))), (110, .buf (.slice (.int .i64)))], []⟩
def s62_x0 : List (Way × Templ) := [(.exit 0, ⟨107, [], [], [], []⟩), (.ret, ⟨107, [(.slice (.int .i64)), .bool], [(4, .v (.hole (.slice (.int .i64)))), (5, .v (.hole .bool))], [], []⟩)]
def s62_o0 (n : Nat) : Ev (denL [(.slice (.int .i64)), .bool]) := loopO n (e75 n) s62_t0 s62_x0 (s62_l0 n)
theorem s62_b0 (n : Nat) (d) (again) (ks) : codeR (R := (denL [(.slice (.int .i64)), .bool])) (e75 n) (Hdl.no (R := (denL [(.slice (.int .i64)), .bool]))) (inn (lp (bd Go.Proofs.Try.f62) 0)) [s62_o0_0 n] (mk s62_t0 d) (turnR (e75 n) s62_t0 s62_x0 again ks) = s62_l0 n d again ks := by kernel_rfl
theorem s62_s0 (n : Nat) : Sound Go.Proofs.Try.prog (Hdl.no (R := (denL [(.slice (.int .i64)), .bool]))) false (lp (bd Go.Proofs.Try.f62) 0) (s62_o0 n) := loop_ok (h75 n) hP (by kernel_rfl) (O := [s62_o0_0 n]) ⟨s62_s0_0 n, trivial⟩ (s62_b0 n)
def s62_c (n : Nat) : Con := ⟨[(.pair (.slice .str) (.pair (.int .i64) (.slice (.pair .str (.pair (.slice (.int .i64)) (.slice .str)))))), (.pair (.slice .str) (.pair (.int .i64) (.slice (.pair .str (.pair (.slice (.int .i64)) (.slice .str))))))], [], [(.slice (.int .i64)), .bool], fun x y => s62 n x.1 x.2, false⟩
theorem s62_eq (n : Nat) (x : denL [(.pair (.slice .str) (.pair (.int .i64) (.slice (.pair .str (.pair (.slice (.int .i64)) (.slice .str)))))), (.pair (.slice .str) (.pair (.int .i64) (.slice (.pair .str (.pair (.slice (.int .i64)) (.slice .str))))))]) (y : denL []) : funR (e75 n) Go.Proofs.Try.f62 [(.pair (.slice .str) (.pair (.int .i64) (.slice (.pair .str (.pair (.slice (.int .i64)) (.slice .str)))))), (.pair (.slice .str) (.pair (.int .i64) (.slice (.pair .str (.pair (.slice (.int .i64)) (.slice .str))))))] [] [(.slice (.int .i64)), .bool] false [s62_o0 n] x y = (s62_c n).fn x y := by kernel_rfl
theorem s62_ok (n : Nat) : ConOK Go.Proofs.Try.prog 62 (s62_c n) := func_ok (h75 n) hP Go.Proofs.Try.func62 (by kernel_rfl) (by kernel_rfl) (O := [s62_o0 n]) ⟨s62_s0 n, trivial⟩ (s62_eq n)
def e76 (n : Nat) : Env := ⟨gT, (62, s62_c n) :: (e75 n).C, gQ, (e75 n).I, (e75 n).M, (e75 n).S, (e75 n).D, []⟩
theorem h76 (n : Nat) : EnvOK Go.Proofs.Try.prog (e76 n) := env_add (h75 n) (s62_ok n)

/-- criadera/criaderaref07.isAlike -/
def s121 (n : Nat) (b : (List (List UInt8)) × Int × (List ((List UInt8) × (List Int) × (List (List UInt8))))) (x : Int) (y : Int) : Option (Bool) :=
  (s62 n (b.1, (x, b.2.2)) (b.1, (y, b.2.2))).bind fun x_1 =>
  some ((!x_1.2))

def s121_c (n : Nat) : Con := ⟨[(.pair (.slice .str) (.pair (.int .i64) (.slice (.pair .str (.pair (.slice (.int .i64)) (.slice .str)))))), (.int .i64), (.int .i64)], [], [.bool], fun x y => s121 n x.1 x.2.1 x.2.2, false⟩
theorem s121_eq (n : Nat) (x : denL [(.pair (.slice .str) (.pair (.int .i64) (.slice (.pair .str (.pair (.slice (.int .i64)) (.slice .str)))))), (.int .i64), (.int .i64)]) (y : denL []) : funR (e76 n) Go.Proofs.Try.f121 [(.pair (.slice .str) (.pair (.int .i64) (.slice (.pair .str (.pair (.slice (.int .i64)) (.slice .str)))))), (.int .i64), (.int .i64)] [] [.bool] false [] x y = (s121_c n).fn x y := by kernel_rfl
theorem s121_ok (n : Nat) : ConOK Go.Proofs.Try.prog 121 (s121_c n) := func_ok (h76 n) hP Go.Proofs.Try.func121 (by kernel_rfl) (by kernel_rfl) (O := []) trivial (s121_eq n)
def e77 (n : Nat) : Env := ⟨gT, (121, s121_c n) :: (e76 n).C, gQ, (e76 n).I, (e76 n).M, (e76 n).S, (e76 n).D, []⟩
theorem h77 (n : Nat) : EnvOK Go.Proofs.Try.prog (e77 n) := env_add (h76 n) (s121_ok n)

def s68_l0_0 (n : Nat) (d : Int × Int × Int × (List (List UInt8)) × Int × (List ((List UInt8) × (List Int) × (List (List UInt8)))) × (List (List Int)) × Unit) (again : (Int × Int × Int × (List (List UInt8)) × Int × (List ((List UInt8) × (List Int) × (List (List UInt8)))) × (List (List Int)) × Unit) → Option ((List (List Int)))) (ks : (Int × Int × (List (List UInt8)) × Int × (List ((List UInt8) × (List Int) × (List (List UInt8)))) × (List (List Int)) × Unit → Option ((List (List Int)))) × Unit) : Option ((List (List Int))) :=
  match d, ks with
  | (i, v_at, v_k, b, b_1, b_2, out, _), (k0, _) =>
  bif (decide (v_k < ((List.length out : Nat) : Int))) then
    (geti out v_k).bind fun l =>
    (geti out v_k).bind fun l_1 =>
    (geti out v_k).bind fun l_2 =>
    (geti l_2 (0 : Int)).bind fun e =>
    (geti out v_k).bind fun l_3 =>
    (geti l_3 (0 : Int)).bind fun x =>
    (s121 n (b, (b_1, b_2)) x i).bind fun x_1 =>
    bif x_1 then
      again (i, v_k, (IntKind.wrap .i64 (v_k + (1 : Int))), b, b_1, b_2, out, ())
    else
      again (i, v_at, (IntKind.wrap .i64 (v_k + (1 : Int))), b, b_1, b_2, out, ())
  else
    k0 (i, v_at, b, b_1, b_2, out, ())

def s68_l0 (n : Nat) (d : Int × (List (List UInt8)) × Int × (List ((List UInt8) × (List Int) × (List (List UInt8)))) × (List (List Int)) × Unit) (again : (Int × (List (List UInt8)) × Int × (List ((List UInt8) × (List Int) × (List (List UInt8)))) × (List (List Int)) × Unit) → Option ((List (List Int)))) (ks : ((List (List Int)) × Unit → Option ((List (List Int)))) × Unit) : Option ((List (List Int))) :=
  match d, ks with
  | (i, b, b_1, b_2, out, _), (k0, _) =>
  bif (decide (i < ((List.length b_2 : Nat) : Int))) then
    loopG (s68_l0_0 n) n (i, (-1 : Int), (0 : Int), b, b_1, b_2, out, ())
      (fun (i_2, v_at_1, b_6, b_7, b_8, out_2, _) =>
        bif (decide (v_at_1 < (0 : Int))) then
          (chk (List.length out_2 + 1)).bind fun u =>
          again ((IntKind.wrap .i64 (i_2 + (1 : Int))), b_6, b_7, b_8, (out_2 ++ [([i_2] : List Int)]), ())
        else
          (geti out_2 v_at_1).bind fun l_4 =>
          (geti out_2 v_at_1).bind fun l_5 =>
          if v_at_1 = v_at_1 then
          (geti out_2 v_at_1).bind fun l_6 =>
          (chk (List.length l_6 + List.length ([i_2] : List Int))).bind fun u_1 =>
          (seti out_2 v_at_1 (l_6 ++ ([i_2] : List Int))).bind fun l_7 =>
          again ((IntKind.wrap .i64 (i_2 + (1 : Int))), b_6, b_7, b_8, l_7, ())
          else none, ())
  else
    k0 (out, ())

/-- criadera/criaderaref07.Alike -/
def s68 (n : Nat) (b : (List (List UInt8)) × Int × (List ((List UInt8) × (List Int) × (List (List UInt8))))) : Option ((List (List Int))) :=
  loopG (s68_l0 n) n ((0 : Int), b.1, b.2.1, b.2.2, ([] : List (List Int)), ())
    (fun (out_3, _) =>
      some (out_3), ())

def s68_e (n : Nat) : Env := ⟨(e77 n).G, (e77 n).C, (e77 n).Q, (e77 n).I, (e77 n).M, (e77 n).S, (e77 n).D, [3]⟩
theorem s68_h (n : Nat) : EnvOK Go.Proofs.Try.prog (s68_e n) := env_n (h77 n) _
def s68_t0_0 : Templ := ⟨48, [(.int .i64), (.int .i64), (.int .i64), (.slice .str), (.int .i64), (.slice (.pair .str (.pair (.slice (.int .i64)) (.slice .str)))), (.slice (.slice (.int .i64)))], [(1, .v (.bptr 48 0)), (3, .v (.nhand 49)), (4, .v (.hole (.int .i64))), (5, .v (.hole (.int .i64))), (6, .v (.hole (.int .i64)))], [(48, .box (.pair (.slice .str) (.pair (.int .i64) (.slice (.pair .str (.pair (.slice (.int .i64)) (.slice .str)))))) [.hole (.slice .str), .hole (.int .i64), .hole (.slice (.pair .str (.pair (.slice (.int .i64)) (.slice .str))))]), (49, .nbuf (.int .i64))], []⟩
def s68_x0_0 : List (Way × Templ) := [(.exit 2, ⟨48, [(.int .i64), (.int .i64), (.slice .str), (.int .i64), (.slice (.pair .str (.pair (.slice (.int .i64)) (.slice .str)))), (.slice (.slice (.int .i64)))], [(1, .v (.bptr 48 0)), (3, .v (.nhand 49)), (4, .v (.hole (.int .i64))), (5, .v (.hole (.int .i64)))], [(48, .box (.pair (.slice .str) (.pair (.int .i64) (.slice (.pair .str (.pair (.slice (.int .i64)) (.slice .str)))))) [.hole (.slice .str), .hole (.int .i64), .hole (.slice (.pair .str (.pair (.slice (.int .i64)) (.slice .str))))]), (49, .nbuf (.int .i64))], []⟩)]
def s68_o0_0 (n : Nat) : Ev (denL [(.slice (.slice (.int .i64)))]) := loopO n (s68_e n) s68_t0_0 s68_x0_0 (s68_l0_0 n)
theorem s68_b0_0 (n : Nat) (d) (again) (ks) : codeR (R := (denL [(.slice (.slice (.int .i64)))])) (s68_e n) (Hdl.no (R := (denL [(.slice (.slice (.int .i64)))]))) (inn (lp (inn (lp (bd Go.Proofs.Try.f68) 0)) 0)) [] (mk s68_t0_0 d) (turnR (s68_e n) s68_t0_0 s68_x0_0 again ks) = s68_l0_0 n d again ks := by kernel_rfl
theorem s68_s0_0 (n : Nat) : Sound Go.Proofs.Try.prog (Hdl.no (R := (denL [(.slice (.slice (.int .i64)))]))) false (lp (inn (lp (bd Go.Proofs.Try.f68) 0)) 0) (s68_o0_0 n) := loop_ok (s68_h n) hP (by kernel_rfl) (O := []) trivial (s68_b0_0 n)
def s68_t0 : Templ := ⟨48, [(.int .i64), (.slice .str), (.int .i64), (.slice (.pair .str (.pair (.slice (.int .i64)) (.slice .str)))), (.slice (.slice (.int .i64)))], [(1, .v (.bptr 48 0)), (3, .v (.nhand 49)), (4, .v (.hole (.int .i64)))], [(48, .box (.pair (.slice .str) (.pair (.int .i64) (.slice (.pair .str (.pair (.slice (.int .i64)) (.slice .str)))))) [.hole (.slice .str), .hole (.int .i64), .hole (.slice (.pair .str (.pair (.slice (.int .i64)) (.slice .str))))]), (49, .nbuf (.int .i64))], []⟩
def s68_x0 : List (Way × Templ) := [(.exit 0, ⟨48, [(.slice (.slice (.int .i64)))], [(3, .v (.nhand 48))], [(48, .nbuf (.int .i64))], []⟩)]
def s68_o0 (n : Nat) : Ev (denL [(.slice (.slice (.int .i64)))]) := loopO n (s68_e n) s68_t0 s68_x0 (s68_l0 n)
theorem s68_b0 (n : Nat) (d) (again) (ks) : codeR (R := (denL [(.slice (.slice (.int .i64)))])) (s68_e n) (Hdl.no (R := (denL [(.slice (.slice (.int .i64)))]))) (inn (lp (bd Go.Proofs.Try.f68) 0)) [s68_o0_0 n] (mk s68_t0 d) (turnR (s68_e n) s68_t0 s68_x0 again ks) = s68_l0 n d again ks := by kernel_rfl
theorem s68_s0 (n : Nat) : Sound Go.Proofs.Try.prog (Hdl.no (R := (denL [(.slice (.slice (.int .i64)))]))) false (lp (bd Go.Proofs.Try.f68) 0) (s68_o0 n) := loop_ok (s68_h n) hP (by kernel_rfl) (O := [s68_o0_0 n]) ⟨s68_s0_0 n, trivial⟩ (s68_b0 n)
def s68_c (n : Nat) : Con := ⟨[(.pair (.slice .str) (.pair (.int .i64) (.slice (.pair .str (.pair (.slice (.int .i64)) (.slice .str))))))], [], [(.slice (.slice (.int .i64)))], fun x y => s68 n x, false⟩
theorem s68_eq (n : Nat) (x : denL [(.pair (.slice .str) (.pair (.int .i64) (.slice (.pair .str (.pair (.slice (.int .i64)) (.slice .str))))))]) (y : denL []) : funR (s68_e n) Go.Proofs.Try.f68 [(.pair (.slice .str) (.pair (.int .i64) (.slice (.pair .str (.pair (.slice (.int .i64)) (.slice .str))))))] [] [(.slice (.slice (.int .i64)))] false [s68_o0 n] x y = (s68_c n).fn x y := by kernel_rfl
theorem s68_ok (n : Nat) : ConOK Go.Proofs.Try.prog 68 (s68_c n) := func_ok (s68_h n) hP Go.Proofs.Try.func68 (by kernel_rfl) (by kernel_rfl) (O := [s68_o0 n]) ⟨s68_s0 n, trivial⟩ (s68_eq n)
def e78 (n : Nat) : Env := ⟨gT, (68, s68_c n) :: (e77 n).C, gQ, (e77 n).I, (e77 n).M, (e77 n).S, (e77 n).D, []⟩
theorem h78 (n : Nat) : EnvOK Go.Proofs.Try.prog (e78 n) := env_add (h77 n) (s68_ok n)

def s67_l0 (n : Nat) (d : (List (List Int)) × (List (List Int)) × Int × Unit) (again : ((List (List Int)) × (List (List Int)) × Int × Unit) → Option (Bool)) (ks : (Unit → Option (Bool)) × (Bool × Unit → Option (Bool)) × Unit) : Option (Bool) :=
  match d, ks with
  | (a, b, i, _), (k0, k1, _) =>
  bif (decide (i < ((List.length a : Nat) : Int))) then
    (geti a i).bind fun e =>
    (geti b i).bind fun e_1 =>
    (s32 n e e_1).bind fun x =>
    bif (!x) then
      k1 (false, ())
    else
      again (a, b, (IntKind.wrap .i64 (i + (1 : Int))), ())
  else
    k0 (())

/-- criadera/criaderabase.Lists -/
def s67 (n : Nat) (a : List (List Int)) (b : List (List Int)) : Option (Bool) :=
  bif (((List.length a : Nat) : Int) != ((List.length b : Nat) : Int)) then
    some (false)
  else
    loopG (s67_l0 n) n (a, b, (0 : Int), ())
      (fun (_) =>
        some (true),
      fun (t4, _) =>
        some (t4), ())

def s67_t0 : Templ := ⟨27, [(.slice (.slice (.int .i64))), (.slice (.slice (.int .i64))), (.int .i64)], [(0, .v (.hole (.slice (.slice (.int .i64))))), (1, .v (.hole (.slice (.slice (.int .i64))))), (5, .v (.hole (.int .i64)))], [], []⟩
def s67_x0 : List (Way × Templ) := [(.exit 0, ⟨27, [], [], [], []⟩), (.ret, ⟨27, [.bool], [(4, .v (.hole .bool))], [], []⟩)]
def s67_o0 (n : Nat) : Ev (denL [.bool]) := loopO n (e78 n) s67_t0 s67_x0 (s67_l0 n)
theorem s67_b0 (n : Nat) (d) (again) (ks) : codeR (R := (denL [.bool])) (e78 n) (Hdl.no (R := (denL [.bool]))) (inn (lp (bd Go.Proofs.Try.f67) 0)) [] (mk s67_t0 d) (turnR (e78 n) s67_t0 s67_x0 again ks) = s67_l0 n d again ks := by kernel_rfl
theorem s67_s0 (n : Nat) : Sound Go.Proofs.Try.prog (Hdl.no (R := (denL [.bool]))) false (lp (bd Go.Proofs.Try.f67) 0) (s67_o0 n) := loop_ok (h78 n) hP (by kernel_rfl) (O := []) trivial (s67_b0 n)
def s67_c (n : Nat) : Con := ⟨[(.slice (.slice (.int .i64))), (.slice (.slice (.int .i64)))], [], [.bool], fun x y => s67 n x.1 x.2, false⟩
theorem s67_eq (n : Nat) (x : denL [(.slice (.slice (.int .i64))), (.slice (.slice (.int .i64)))]) (y : denL []) : funR (e78 n) Go.Proofs.Try.f67 [(.slice (.slice (.int .i64))), (.slice (.slice (.int .i64)))] [] [.bool] false [s67_o0 n] x y = (s67_c n).fn x y := by kernel_rfl
theorem s67_ok (n : Nat) : ConOK Go.Proofs.Try.prog 67 (s67_c n) := func_ok (h78 n) hP Go.Proofs.Try.func67 (by kernel_rfl) (by kernel_rfl) (O := [s67_o0 n]) ⟨s67_s0 n, trivial⟩ (s67_eq n)
def e79 (n : Nat) : Env := ⟨gT, (67, s67_c n) :: (e78 n).C, gQ, (e78 n).I, (e78 n).M, (e78 n).S, (e78 n).D, []⟩
theorem h79 (n : Nat) : EnvOK Go.Proofs.Try.prog (e79 n) := env_add (h78 n) (s67_ok n)

def s122_l0_0 (n : Nat) (d : Int × Int × (List (List UInt8)) × Int × (List ((List UInt8) × (List Int) × (List (List UInt8)))) × (List (List Int)) × (List Bool) × (List Int) × Unit) (again : (Int × Int × (List (List UInt8)) × Int × (List ((List UInt8) × (List Int) × (List (List UInt8)))) × (List (List Int)) × (List Bool) × (List Int) × Unit) → Option ((List (List Int)) × (List Bool) × (List Int))) (ks : (Int × (List (List UInt8)) × Int × (List ((List UInt8) × (List Int) × (List (List UInt8)))) × (List (List Int)) × (List Bool) × (List Int) × Unit → Option ((List (List Int)) × (List Bool) × (List Int))) × Unit) : Option ((List (List Int)) × (List Bool) × (List Int)) :=
  match d, ks with
  | (i, m, b, b_1, b_2, marks, known, order, _), (k0, _) =>
  bif (decide (m < ((List.length b : Nat) : Int))) then
    (geti order i).bind fun e =>
    (geti order i).bind fun x =>
    (geti b_2 x).bind fun e_1 =>
    (geti e_1.2.1 m).bind fun e_2 =>
    (geti known e_2).bind fun e_3 =>
    (geti known e_2).bind fun x_1 =>
    bif (!x_1) then
      (geti order i).bind fun e_4 =>
      (geti order i).bind fun x_2 =>
      (geti marks x_2).bind fun e_5 =>
      (geti marks x_2).bind fun x_3 =>
      (s27 n x_3).bind fun x_4 =>
      (chk (List.length x_4 + List.length ([m] : List Int))).bind fun u =>
      (geti known e_2).bind fun e_6 =>
      (seti known e_2 true).bind fun l =>
      (geti marks e_2).bind fun e_7 =>
      (seti marks e_2 (x_4 ++ ([m] : List Int))).bind fun l_1 =>
      (chk (List.length order + List.length ([e_2] : List Int))).bind fun u_1 =>
      again (i, (IntKind.wrap .i64 (m + (1 : Int))), b, b_1, b_2, l_1, l, (order ++ ([e_2] : List Int)), ())
    else
      again (i, (IntKind.wrap .i64 (m + (1 : Int))), b, b_1, b_2, marks, known, order, ())
  else
    k0 (i, b, b_1, b_2, marks, known, order, ())

def s122_l0 (n : Nat) (d : Int × (List (List UInt8)) × Int × (List ((List UInt8) × (List Int) × (List (List UInt8)))) × (List (List Int)) × (List Bool) × (List Int) × Unit) (again : (Int × (List (List UInt8)) × Int × (List ((List UInt8) × (List Int) × (List (List UInt8)))) × (List (List Int)) × (List Bool) × (List Int) × Unit) → Option ((List (List Int)) × (List Bool) × (List Int))) (ks : ((List (List Int)) × (List Bool) × (List Int) × Unit → Option ((List (List Int)) × (List Bool) × (List Int))) × Unit) : Option ((List (List Int)) × (List Bool) × (List Int)) :=
  match d, ks with
  | (i, b, b_1, b_2, marks, known, order, _), (k0, _) =>
  bif (decide (i < ((List.length order : Nat) : Int))) then
    loopG (s122_l0_0 n) n (i, (0 : Int), b, b_1, b_2, marks, known, order, ())
      (fun (i_2, b_6, b_7, b_8, marks_2, known_2, order_2, _) =>
        again ((IntKind.wrap .i64 (i_2 + (1 : Int))), b_6, b_7, b_8, marks_2, known_2, order_2, ()), ())
  else
    k0 (marks, known, order, ())

/-- criadera/criaderaref07.firsts -/
def s122 (n : Nat) (b : (List (List UInt8)) × Int × (List ((List UInt8) × (List Int) × (List (List UInt8))))) : Option ((List (List Int)) × (List Bool) × (List Int)) :=
  (chki ((List.length b.2.2 : Nat) : Int)).bind fun u =>
  (chki ((List.length b.2.2 : Nat) : Int)).bind fun u_1 =>
  (geti (List.replicate (Int.toNat ((List.length b.2.2 : Nat) : Int)) false) b.2.1).bind fun e =>
  (seti (List.replicate (Int.toNat ((List.length b.2.2 : Nat) : Int)) false) b.2.1 true).bind fun l =>
  loopG (s122_l0 n) n ((0 : Int), b.1, b.2.1, b.2.2, (List.replicate (Int.toNat ((List.length b.2.2 : Nat) : Int)) []), l, ([b.2.1] : List Int), ())
    (fun (marks_3, known_3, order_3, _) =>
      some (marks_3, known_3, order_3), ())

def s122_t0_0 : Templ := ⟨80, [(.int .i64), (.int .i64), (.slice .str), (.int .i64), (.slice (.pair .str (.pair (.slice (.int .i64)) (.slice .str)))), (.slice (.slice (.int .i64))), (.slice .bool), (.slice (.int .i64))], [(1, .v (.bptr 80 0)), (5, .v (.hand 81)), (6, .v (.hand 82)), (7, .v (.hand 83)), (8, .v (.hole (.int .i64))), (9, .v (.hole (.int .i64)))], [(80, .box (.pair (.slice .str) (.pair (.int .i64) (.slice (.pair .str (.pair (.slice (.int .i64)) (.slice .str)))))) [.hole (.slice .str), .hole (.int .i64), .hole (.slice (.pair .str (.pair (.slice (.int .i64)) (.slice .str))))]), (81, .buf (.slice (.int .i64))), (82, .buf .bool), (83, .buf (.int .i64))], []⟩
def s122_x0_0 : List (Way × Templ) := [(.exit 2, ⟨80, [(.int .i64), (.slice .str), (.int .i64), (.slice (.pair .str (.pair (.slice (.int .i64)) (.slice .str)))), (.slice (.slice (.int .i64))), (.slice .bool), (.slice (.int .i64))], [(1, .v (.bptr 80 0)), (5, .v (.hand 81)), (6, .v (.hand 82)), (7, .v (.hand 83)), (8, .v (.hole (.int .i64)))], [(80, .box (.pair (.slice .str) (.pair (.int .i64) (.slice (.pair .str (.pair (.slice (.int .i64)) (.slice .str)))))) [.hole (.slice .str), .hole (.int .i64), .hole (.slice (.pair .str (.pair (.slice (.int .i64)) (.slice .str))))]), (81, .buf (.slice (.int .i64))), (82, .buf .bool), (83, .buf (.int .i64))], []⟩)]
def s122_o0_0 (n : Nat) : Ev (denL [(.slice (.slice (.int .i64))), (.slice .bool), (.slice (.int .i64))]) := loopO n (e79 n) s122_t0_0 s122_x0_0 (s122_l0_0 n)
theorem s122_b0_0 (n : Nat) (d) (again) (ks) : codeR (R := (denL [(.slice (.slice (.int .i64))), (.slice .bool), (.slice (.int .i64))])) (e79 n) (Hdl.no (R := (denL [(.slice (.slice (.int .i64))), (.slice .bool), (.slice (.int .i64))]))) (inn (lp (inn (lp (bd Go.Proofs.Try.f122) 0)) 0)) [] (mk s122_t0_0 d) (turnR (e79 n) s122_t0_0 s122_x0_0 again ks) = s122_l0_0 n d again ks := by kernel_rfl
theorem s122_s0_0 (n : Nat) : Sound Go.Proofs.Try.prog (Hdl.no (R := (denL [(.slice (.slice (.int .i64))), (.slice .bool), (.slice (.int .i64))]))) false (lp (inn (lp (bd Go.Proofs.Try.f122) 0)) 0) (s122_o0_0 n) := loop_ok (h79 n) hP (by kernel_rfl) (O := []) trivial (s122_b0_0 n)
def s122_t0 : Templ := ⟨80, [(.int .i64), (.slice .str), (.int .i64), (.slice (.pair .str (.pair (.slice (.int .i64)) (.slice .str)))), (.slice (.slice (.int .i64))), (.slice .bool), (.slice (.int .i64))], [(1, .v (.bptr 80 0)), (5, .v (.hand 81)), (6, .v (.hand 82)), (7, .v (.hand 83)), (8, .v (.hole (.int .i64)))], [(80, .box (.pair (.slice .str) (.pair (.int .i64) (.slice (.pair .str (.pair (.slice (.int .i64)) (.slice .str)))))) [.hole (.slice .str), .hole (.int .i64), .hole (.slice (.pair .str (.pair (.slice (.int .i64)) (.slice .str))))]), (81, .buf (.slice (.int .i64))), (82, .buf .bool), (83, .buf (.int .i64))], []⟩
def s122_x0 : List (Way × Templ) := [(.exit 0, ⟨80, [(.slice (.slice (.int .i64))), (.slice .bool), (.slice (.int .i64))], [(5, .v (.hand 80)), (6, .v (.hand 81)), (7, .v (.hand 82))], [(80, .buf (.slice (.int .i64))), (81, .buf .bool), (82, .buf (.int .i64))], []⟩)]
def s122_o0 (n : Nat) : Ev (denL [(.slice (.slice (.int .i64))), (.slice .bool), (.slice (.int .i64))]) := loopO n (e79 n) s122_t0 s122_x0 (s122_l0 n)
theorem s122_b0 (n : Nat) (d) (again) (ks) : codeR (R := (denL [(.slice (.slice (.int .i64))), (.slice .bool), (.slice (.int .i64))])) (e79 n) (Hdl.no (R := (denL [(.slice (.slice (.int .i64))), (.slice .bool), (.slice (.int .i64))]))) (inn (lp (bd Go.Proofs.Try.f122) 0)) [s122_o0_0 n] (mk s122_t0 d) (turnR (e79 n) s122_t0 s122_x0 again ks) = s122_l0 n d again ks := by kernel_rfl
theorem s122_s0 (n : Nat) : Sound Go.Proofs.Try.prog (Hdl.no (R := (denL [(.slice (.slice (.int .i64))), (.slice .bool), (.slice (.int .i64))]))) false (lp (bd Go.Proofs.Try.f122) 0) (s122_o0 n) := loop_ok (h79 n) hP (by kernel_rfl) (O := [s122_o0_0 n]) ⟨s122_s0_0 n, trivial⟩ (s122_b0 n)
def s122_c (n : Nat) : Con := ⟨[(.pair (.slice .str) (.pair (.int .i64) (.slice (.pair .str (.pair (.slice (.int .i64)) (.slice .str))))))], [], [(.slice (.slice (.int .i64))), (.slice .bool), (.slice (.int .i64))], fun x y => s122 n x, false⟩
theorem s122_eq (n : Nat) (x : denL [(.pair (.slice .str) (.pair (.int .i64) (.slice (.pair .str (.pair (.slice (.int .i64)) (.slice .str))))))]) (y : denL []) : funR (e79 n) Go.Proofs.Try.f122 [(.pair (.slice .str) (.pair (.int .i64) (.slice (.pair .str (.pair (.slice (.int .i64)) (.slice .str))))))] [] [(.slice (.slice (.int .i64))), (.slice .bool), (.slice (.int .i64))] false [s122_o0 n] x y = (s122_c n).fn x y := by kernel_rfl
theorem s122_ok (n : Nat) : ConOK Go.Proofs.Try.prog 122 (s122_c n) := func_ok (h79 n) hP Go.Proofs.Try.func122 (by kernel_rfl) (by kernel_rfl) (O := [s122_o0 n]) ⟨s122_s0 n, trivial⟩ (s122_eq n)
def e80 (n : Nat) : Env := ⟨gT, (122, s122_c n) :: (e79 n).C, gQ, (e79 n).I, (e79 n).M, (e79 n).S, (e79 n).D, []⟩
theorem h80 (n : Nat) : EnvOK Go.Proofs.Try.prog (e80 n) := env_add (h79 n) (s122_ok n)

def s69_l0_0 (n : Nat) (d : (List Bool) × (List Int) × Int × Int × Int × (List (List UInt8)) × Int × (List ((List UInt8) × (List Int) × (List (List UInt8)))) × Int × (List Int) × (List Int) × Unit) (again : ((List Bool) × (List Int) × Int × Int × Int × (List (List UInt8)) × Int × (List ((List UInt8) × (List Int) × (List (List UInt8)))) × Int × (List Int) × (List Int) × Unit) → Option (((List (List UInt8)) × Int × (List ((List UInt8) × (List Int) × (List (List UInt8))))))) (ks : ((List Bool) × (List Int) × Int × Int × (List (List UInt8)) × Int × (List ((List UInt8) × (List Int) × (List (List UInt8)))) × Int × (List Int) × (List Int) × Unit → Option (((List (List UInt8)) × Int × (List ((List UInt8) × (List Int) × (List (List UInt8))))))) × Unit) : Option (((List (List UInt8)) × Int × (List ((List UInt8) × (List Int) × (List (List UInt8)))))) :=
  match d, ks with
  | (known, order, i, v_at, v_k, b, b_1, b_2, t2, heads, number, _), (k0, _) =>
  bif (decide (v_k < ((List.length heads : Nat) : Int))) then
    (geti heads v_k).bind fun e =>
    (geti heads v_k).bind fun x =>
    (geti order i).bind fun e_1 =>
    (s121 n (b, (b_1, b_2)) x e_1).bind fun x_1 =>
    bif x_1 then
      again (known, order, i, v_k, (IntKind.wrap .i64 (v_k + (1 : Int))), b, b_1, b_2, t2, heads, number, ())
    else
      again (known, order, i, v_at, (IntKind.wrap .i64 (v_k + (1 : Int))), b, b_1, b_2, t2, heads, number, ())
  else
    k0 (known, order, i, v_at, b, b_1, b_2, t2, heads, number, ())

def s69_l0 (n : Nat) (d : (List Bool) × (List Int) × Int × (List (List UInt8)) × Int × (List ((List UInt8) × (List Int) × (List (List UInt8)))) × Int × (List Int) × (List Int) × Unit) (again : ((List Bool) × (List Int) × Int × (List (List UInt8)) × Int × (List ((List UInt8) × (List Int) × (List (List UInt8)))) × Int × (List Int) × (List Int) × Unit) → Option (((List (List UInt8)) × Int × (List ((List UInt8) × (List Int) × (List (List UInt8))))))) (ks : ((List Bool) × (List (List UInt8)) × Int × (List ((List UInt8) × (List Int) × (List (List UInt8)))) × Int × (List Int) × (List Int) × Unit → Option (((List (List UInt8)) × Int × (List ((List UInt8) × (List Int) × (List (List UInt8))))))) × Unit) : Option (((List (List UInt8)) × Int × (List ((List UInt8) × (List Int) × (List (List UInt8)))))) :=
  match d, ks with
  | (known, order, i, b, b_1, b_2, t2, heads, number, _), (k0, _) =>
  bif (decide (i < ((List.length order : Nat) : Int))) then
    loopG (s69_l0_0 n) n (known, order, i, (-1 : Int), (0 : Int), b, b_1, b_2, t2, heads, number, ())
      (fun (known_2, order_2, i_2, v_at_1, b_6, b_7, b_8, t2_2, heads_2, number_2, _) =>
        bif (decide (v_at_1 < (0 : Int))) then
          (geti order_2 i_2).bind fun e_2 =>
          (chk (List.length heads_2 + List.length ([e_2] : List Int))).bind fun u =>
          (geti order_2 i_2).bind fun e_3 =>
          (geti number_2 e_3).bind fun e_4 =>
          (seti number_2 e_3 ((List.length heads_2 : Nat) : Int)).bind fun l =>
          (geti order_2 i_2).bind fun e_5 =>
          (geti (heads_2 ++ ([e_2] : List Int)) ((List.length heads_2 : Nat) : Int)).bind fun e_6 =>
          (geti (heads_2 ++ ([e_2] : List Int)) ((List.length heads_2 : Nat) : Int)).bind fun x_2 =>
          bif (decide (e_5 < x_2)) then
            (geti order_2 i_2).bind fun e_7 =>
            (geti (heads_2 ++ ([e_2] : List Int)) ((List.length heads_2 : Nat) : Int)).bind fun e_8 =>
            (seti (heads_2 ++ ([e_2] : List Int)) ((List.length heads_2 : Nat) : Int) e_7).bind fun l_1 =>
            again (known_2, order_2, (IntKind.wrap .i64 (i_2 + (1 : Int))), b_6, b_7, b_8, t2_2, l_1, l, ())
          else
            again (known_2, order_2, (IntKind.wrap .i64 (i_2 + (1 : Int))), b_6, b_7, b_8, t2_2, (heads_2 ++ ([e_2] : List Int)), l, ())
        else
          (geti order_2 i_2).bind fun e_9 =>
          (geti number_2 e_9).bind fun e_10 =>
          (seti number_2 e_9 v_at_1).bind fun l_2 =>
          (geti order_2 i_2).bind fun e_11 =>
          (geti heads_2 v_at_1).bind fun e_12 =>
          (geti heads_2 v_at_1).bind fun x_3 =>
          bif (decide (e_11 < x_3)) then
            (geti order_2 i_2).bind fun e_13 =>
            (geti heads_2 v_at_1).bind fun e_14 =>
            (seti heads_2 v_at_1 e_13).bind fun l_3 =>
            again (known_2, order_2, (IntKind.wrap .i64 (i_2 + (1 : Int))), b_6, b_7, b_8, t2_2, l_3, l_2, ())
          else
            again (known_2, order_2, (IntKind.wrap .i64 (i_2 + (1 : Int))), b_6, b_7, b_8, t2_2, heads_2, l_2, ()), ())
  else
    k0 (known, b, b_1, b_2, t2, heads, number, ())

def s69_l1_0 (n : Nat) (d : (List Bool) × Int × Int × (List (List UInt8)) × Int × (List ((List UInt8) × (List Int) × (List (List UInt8)))) × Int × (List Int) × (List Int) × (List (List UInt8)) × Int × (List ((List UInt8) × (List Int) × (List (List UInt8)))) × (List UInt8) × (List Int) × (List (List UInt8)) × (List UInt8) × (List (List UInt8)) × (List Int) × Unit) (again : ((List Bool) × Int × Int × (List (List UInt8)) × Int × (List ((List UInt8) × (List Int) × (List (List UInt8)))) × Int × (List Int) × (List Int) × (List (List UInt8)) × Int × (List ((List UInt8) × (List Int) × (List (List UInt8)))) × (List UInt8) × (List Int) × (List (List UInt8)) × (List UInt8) × (List (List UInt8)) × (List Int) × Unit) → Option (((List (List UInt8)) × Int × (List ((List UInt8) × (List Int) × (List (List UInt8))))))) (ks : ((List Bool) × Int × (List (List UInt8)) × Int × (List ((List UInt8) × (List Int) × (List (List UInt8)))) × Int × (List Int) × (List Int) × (List (List UInt8)) × Int × (List ((List UInt8) × (List Int) × (List (List UInt8)))) × (List UInt8) × (List (List UInt8)) × (List Int) × Unit → Option (((List (List UInt8)) × Int × (List ((List UInt8) × (List Int) × (List (List UInt8))))))) × Unit) : Option (((List (List UInt8)) × Int × (List ((List UInt8) × (List Int) × (List (List UInt8)))))) :=
  match d, ks with
  | (known, i, m, b, b_1, b_2, t2, heads, number, out, out_1, out_2, c, c_1, c_2, t14, t14_1, t14_2, _), (k0, _) =>
  bif (decide (m < ((List.length c_1 : Nat) : Int))) then
    (geti c_1 m).bind fun e =>
    (geti number e).bind fun e_1 =>
    (geti number e).bind fun x =>
    (chk (List.length t14_2 + List.length ([x] : List Int))).bind fun u =>
    again (known, i, (IntKind.wrap .i64 (m + (1 : Int))), b, b_1, b_2, t2, heads, number, out, out_1, out_2, c, c_1, c_2, t14, t14_1, (t14_2 ++ ([x] : List Int)), ())
  else
    k0 (known, i, b, b_1, b_2, t2, heads, number, out, out_1, out_2, t14, t14_1, t14_2, ())

def s69_l1 (n : Nat) (d : (List Bool) × Int × (List (List UInt8)) × Int × (List ((List UInt8) × (List Int) × (List (List UInt8)))) × Int × (List Int) × (List Int) × (List (List UInt8)) × Int × (List ((List UInt8) × (List Int) × (List (List UInt8)))) × Unit) (again : ((List Bool) × Int × (List (List UInt8)) × Int × (List ((List UInt8) × (List Int) × (List (List UInt8)))) × Int × (List Int) × (List Int) × (List (List UInt8)) × Int × (List ((List UInt8) × (List Int) × (List (List UInt8)))) × Unit) → Option (((List (List UInt8)) × Int × (List ((List UInt8) × (List Int) × (List (List UInt8))))))) (ks : ((List Bool) × (List (List UInt8)) × Int × (List ((List UInt8) × (List Int) × (List (List UInt8)))) × Int × (List (List UInt8)) × Int × (List ((List UInt8) × (List Int) × (List (List UInt8)))) × Unit → Option (((List (List UInt8)) × Int × (List ((List UInt8) × (List Int) × (List (List UInt8))))))) × Unit) : Option (((List (List UInt8)) × Int × (List ((List UInt8) × (List Int) × (List (List UInt8)))))) :=
  match d, ks with
  | (known, i, b, b_1, b_2, t2, heads, number, out, out_1, out_2, _), (k0, _) =>
  bif (decide (i < ((List.length heads : Nat) : Int))) then
    (geti heads i).bind fun e =>
    (geti heads i).bind fun x =>
    (geti b_2 x).bind fun e_1 =>
    (s84 n e_1.2.2).bind fun x_1 =>
    loopG (s69_l1_0 n) n (known, i, (0 : Int), b, b_1, b_2, t2, heads, number, out, out_1, out_2, e_1.1, e_1.2.1, e_1.2.2, e_1.1, x_1, ([] : List Int), ())
      (fun (known_2, i_2, b_6, b_7, b_8, t2_2, heads_2, number_2, out_6, out_7, out_8, t14_3, t14_4, t14_5, _) =>
        (chk (List.length out_8 + List.length ([(t14_3, (t14_5, t14_4))] : List ((List UInt8) × (List Int) × (List (List UInt8)))))).bind fun u_1 =>
        again (known_2, (IntKind.wrap .i64 (i_2 + (1 : Int))), b_6, b_7, b_8, t2_2, heads_2, number_2, out_6, out_7, (out_8 ++ ([(t14_3, (t14_5, t14_4))] : List ((List UInt8) × (List Int) × (List (List UInt8))))), ()), ())
  else
    k0 (known, b, b_1, b_2, t2, out, out_1, out_2, ())

/-- criadera/criaderaref07.Least -/
def s69 (n : Nat) (b : (List (List UInt8)) × Int × (List ((List UInt8) × (List Int) × (List (List UInt8))))) : Option (((List (List UInt8)) × Int × (List ((List UInt8) × (List Int) × (List (List UInt8)))))) :=
  (s122 n (b.1, (b.2.1, b.2.2))).bind fun x =>
  (chki ((List.length b.2.2 : Nat) : Int)).bind fun u =>
  loopG (s69_l0 n) n (x.2.1, x.2.2, (0 : Int), b.1, b.2.1, b.2.2, (0 : Int), ([] : List Int), (List.replicate (Int.toNat ((List.length b.2.2 : Nat) : Int)) (0 : Int)), ())
    (fun (known_3, b_10, b_11, b_12, t2_3, heads_3, number_3, _) =>
      (s84 n b_10).bind fun x_5 =>
      loopG (s69_l1 n) n (known_3, (0 : Int), b_10, b_11, b_12, t2_3, heads_3, number_3, x_5, (0 : Int), ([] : List ((List UInt8) × (List Int) × (List (List UInt8)))), ())
        (fun (known_7, b_22, b_23, b_24, t2_7, out_9, out_10, out_11, _) =>
          (geti known_7 b_23).bind fun e_19 =>
          bif (!e_19) then
            some ((([] : List (List UInt8)), ((0 : Int), ([] : List ((List UInt8) × (List Int) × (List (List UInt8)))))))
          else
            some ((out_9, (out_10, out_11))), ()), ())

def s69_t0_0 : Templ := ⟨141, [(.slice .bool), (.slice (.int .i64)), (.int .i64), (.int .i64), (.int .i64), (.slice .str), (.int .i64), (.slice (.pair .str (.pair (.slice (.int .i64)) (.slice .str)))), (.int .i64), (.slice (.int .i64)), (.slice (.int .i64))], [(1, .v (.bptr 141 0)), (2, .v (.bptr 142 0)), (4, .v (.hole (.slice .bool))), (5, .v (.hole (.slice (.int .i64)))), (6, .v (.hand 143)), (7, .v (.hand 144)), (8, .v (.hole (.int .i64))), (9, .v (.hole (.int .i64))), (10, .v (.hole (.int .i64)))], [(141, .box (.pair (.slice .str) (.pair (.int .i64) (.slice (.pair .str (.pair (.slice (.int .i64)) (.slice .str)))))) [.hole (.slice .str), .hole (.int .i64), .hole (.slice (.pair .str (.pair (.slice (.int .i64)) (.slice .str))))]), (142, .box (.pair (.slice .str) (.pair (.int .i64) (.slice (.pair .str (.pair (.slice (.int .i64)) (.slice .str)))))) [.nils, .hole (.int .i64), .nils]), (143, .buf (.int .i64)), (144, .buf (.int .i64))], []⟩
def s69_x0_0 : List (Way × Templ) := [(.exit 2, ⟨141, [(.slice .bool), (.slice (.int .i64)), (.int .i64), (.int .i64), (.slice .str), (.int .i64), (.slice (.pair .str (.pair (.slice (.int .i64)) (.slice .str)))), (.int .i64), (.slice (.int .i64)), (.slice (.int .i64))], [(1, .v (.bptr 141 0)), (2, .v (.bptr 142 0)), (4, .v (.hole (.slice .bool))), (5, .v (.hole (.slice (.int .i64)))), (6, .v (.hand 143)), (7, .v (.hand 144)), (8, .v (.hole (.int .i64))), (9, .v (.hole (.int .i64)))], [(141, .box (.pair (.slice .str) (.pair (.int .i64) (.slice (.pair .str (.pair (.slice (.int .i64)) (.slice .str)))))) [.hole (.slice .str), .hole (.int .i64), .hole (.slice (.pair .str (.pair (.slice (.int .i64)) (.slice .str))))]), (142, .box (.pair (.slice .str) (.pair (.int .i64) (.slice (.pair .str (.pair (.slice (.int .i64)) (.slice .str)))))) [.nils, .hole (.int .i64), .nils]), (143, .buf (.int .i64)), (144, .buf (.int .i64))], []⟩)]
def s69_o0_0 (n : Nat) : Ev (denL [(.pair (.slice .str) (.pair (.int .i64) (.slice (.pair .str (.pair (.slice (.int .i64)) (.slice .str))))))]) := loopO n (e80 n) s69_t0_0 s69_x0_0 (s69_l0_0 n)
theorem s69_b0_0 (n : Nat) (d) (again) (ks) : codeR (R := (denL [(.pair (.slice .str) (.pair (.int .i64) (.slice (.pair .str (.pair (.slice (.int .i64)) (.slice .str))))))])) (e80 n) (Hdl.no (R := (denL [(.pair (.slice .str) (.pair (.int .i64) (.slice (.pair .str (.pair (.slice (.int .i64)) (.slice .str))))))]))) (inn (lp (inn (lp (bd Go.Proofs.Try.f69) 0)) 0)) [] (mk s69_t0_0 d) (turnR (e80 n) s69_t0_0 s69_x0_0 again ks) = s69_l0_0 n d again ks := by kernel_rfl
theorem s69_s0_0 (n : Nat) : Sound Go.Proofs.Try.prog (Hdl.no (R := (denL [(.pair (.slice .str) (.pair (.int .i64) (.slice (.pair .str (.pair (.slice (.int .i64)) (.slice .str))))))]))) false (lp (inn (lp (bd Go.Proofs.Try.f69) 0)) 0) (s69_o0_0 n) := loop_ok (h80 n) hP (by kernel_rfl) (O := []) trivial (s69_b0_0 n)
def s69_t1_0 : Templ := ⟨141, [(.slice .bool), (.int .i64), (.int .i64), (.slice .str), (.int .i64), (.slice (.pair .str (.pair (.slice (.int .i64)) (.slice .str)))), (.int .i64), (.slice (.int .i64)), (.slice (.int .i64)), (.slice .str), (.int .i64), (.slice (.pair .str (.pair (.slice (.int .i64)) (.slice .str)))), .str, (.slice (.int .i64)), (.slice .str), .str, (.slice .str), (.slice (.int .i64))], [(1, .v (.bptr 141 0)), (2, .v (.bptr 142 0)), (4, .v (.hole (.slice .bool))), (6, .v (.hand 143)), (7, .v (.hand 144)), (11, .v (.bptr 145 0)), (12, .v (.hole (.int .i64))), (13, .v (.bptr 147 0)), (14, .v (.bptr 148 0)), (15, .v (.hole (.int .i64)))], [(141, .box (.pair (.slice .str) (.pair (.int .i64) (.slice (.pair .str (.pair (.slice (.int .i64)) (.slice .str)))))) [.hole (.slice .str), .hole (.int .i64), .hole (.slice (.pair .str (.pair (.slice (.int .i64)) (.slice .str))))]), (142, .box (.pair (.slice .str) (.pair (.int .i64) (.slice (.pair .str (.pair (.slice (.int .i64)) (.slice .str)))))) [.nils, .hole (.int .i64), .nils]), (143, .buf (.int .i64)), (144, .buf (.int .i64)), (145, .box (.pair (.slice .str) (.pair (.int .i64) (.slice (.pair .str (.pair (.slice (.int .i64)) (.slice .str)))))) [.hole (.slice .str), .hole (.int .i64), .hand 146]), (146, .buf (.pair .str (.pair (.slice (.int .i64)) (.slice .str)))), (147, .box (.pair .str (.pair (.slice (.int .i64)) (.slice .str))) [.hole .str, .hole (.slice (.int .i64)), .hole (.slice .str)]), (148, .box (.pair .str (.pair (.slice (.int .i64)) (.slice .str))) [.hole .str, .hand 149, .hole (.slice .str)]), (149, .buf (.int .i64))], []⟩
def s69_x1_0 : List (Way × Templ) := [(.exit 6, ⟨141, [(.slice .bool), (.int .i64), (.slice .str), (.int .i64), (.slice (.pair .str (.pair (.slice (.int .i64)) (.slice .str)))), (.int .i64), (.slice (.int .i64)), (.slice (.int .i64)), (.slice .str), (.int .i64), (.slice (.pair .str (.pair (.slice (.int .i64)) (.slice .str)))), .str, (.slice .str), (.slice (.int .i64))], [(1, .v (.bptr 141 0)), (2, .v (.bptr 142 0)), (4, .v (.hole (.slice .bool))), (6, .v (.hand 143)), (7, .v (.hand 144)), (11, .v (.bptr 145 0)), (12, .v (.hole (.int .i64))), (14, .v (.bptr 147 0))], [(141, .box (.pair (.slice .str) (.pair (.int .i64) (.slice (.pair .str (.pair (.slice (.int .i64)) (.slice .str)))))) [.hole (.slice .str), .hole (.int .i64), .hole (.slice (.pair .str (.pair (.slice (.int .i64)) (.slice .str))))]), (142, .box (.pair (.slice .str) (.pair (.int .i64) (.slice (.pair .str (.pair (.slice (.int .i64)) (.slice .str)))))) [.nils, .hole (.int .i64), .nils]), (143, .buf (.int .i64)), (144, .buf (.int .i64)), (145, .box (.pair (.slice .str) (.pair (.int .i64) (.slice (.pair .str (.pair (.slice (.int .i64)) (.slice .str)))))) [.hole (.slice .str), .hole (.int .i64), .hand 146]), (146, .buf (.pair .str (.pair (.slice (.int .i64)) (.slice .str)))), (147, .box (.pair .str (.pair (.slice (.int .i64)) (.slice .str))) [.hole .str, .hand 148, .hole (.slice .str)]), (148, .buf (.int .i64))], []⟩)]
def s69_o1_0 (n : Nat) : Ev (denL [(.pair (.slice .str) (.pair (.int .i64) (.slice (.pair .str (.pair (.slice (.int .i64)) (.slice .str))))))]) := loopO n (e80 n) s69_t1_0 s69_x1_0 (s69_l1_0 n)
theorem s69_b1_0 (n : Nat) (d) (again) (ks) : codeR (R := (denL [(.pair (.slice .str) (.pair (.int .i64) (.slice (.pair .str (.pair (.slice (.int .i64)) (.slice .str))))))])) (e80 n) (Hdl.no (R := (denL [(.pair (.slice .str) (.pair (.int .i64) (.slice (.pair .str (.pair (.slice (.int .i64)) (.slice .str))))))]))) (inn (lp (inn (lp (bd Go.Proofs.Try.f69) 1)) 0)) [] (mk s69_t1_0 d) (turnR (e80 n) s69_t1_0 s69_x1_0 again ks) = s69_l1_0 n d again ks := by kernel_rfl
theorem s69_s1_0 (n : Nat) : Sound Go.Proofs.Try.prog (Hdl.no (R := (denL [(.pair (.slice .str) (.pair (.int .i64) (.slice (.pair .str (.pair (.slice (.int .i64)) (.slice .str))))))]))) false (lp (inn (lp (bd Go.Proofs.Try.f69) 1)) 0) (s69_o1_0 n) := loop_ok (h80 n) hP (by kernel_rfl) (O := []) trivial (s69_b1_0 n)
def s69_t0 : Templ := ⟨141, [(.slice .bool), (.slice (.int .i64)), (.int .i64), (.slice .str), (.int .i64), (.slice (.pair .str (.pair (.slice (.int .i64)) (.slice .str)))), (.int .i64), (.slice (.int .i64)), (.slice (.int .i64))], [(1, .v (.bptr 141 0)), (2, .v (.bptr 142 0)), (4, .v (.hole (.slice .bool))), (5, .v (.hole (.slice (.int .i64)))), (6, .v (.hand 143)), (7, .v (.hand 144)), (8, .v (.hole (.int .i64)))], [(141, .box (.pair (.slice .str) (.pair (.int .i64) (.slice (.pair .str (.pair (.slice (.int .i64)) (.slice .str)))))) [.hole (.slice .str), .hole (.int .i64), .hole (.slice (.pair .str (.pair (.slice (.int .i64)) (.slice .str))))]), (142, .box (.pair (.slice .str) (.pair (.int .i64) (.slice (.pair .str (.pair (.slice (.int .i64)) (.slice .str)))))) [.nils, .hole (.int .i64), .nils]), (143, .buf (.int .i64)), (144, .buf (.int .i64))], []⟩
def s69_x0 : List (Way × Templ) := [(.exit 0, ⟨141, [(.slice .bool), (.slice .str), (.int .i64), (.slice (.pair .str (.pair (.slice (.int .i64)) (.slice .str)))), (.int .i64), (.slice (.int .i64)), (.slice (.int .i64))], [(1, .v (.bptr 141 0)), (2, .v (.bptr 142 0)), (4, .v (.hole (.slice .bool))), (6, .v (.hand 143)), (7, .v (.hand 144))], [(141, .box (.pair (.slice .str) (.pair (.int .i64) (.slice (.pair .str (.pair (.slice (.int .i64)) (.slice .str)))))) [.hole (.slice .str), .hole (.int .i64), .hole (.slice (.pair .str (.pair (.slice (.int .i64)) (.slice .str))))]), (142, .box (.pair (.slice .str) (.pair (.int .i64) (.slice (.pair .str (.pair (.slice (.int .i64)) (.slice .str)))))) [.nils, .hole (.int .i64), .nils]), (143, .buf (.int .i64)), (144, .buf (.int .i64))], []⟩)]
def s69_o0 (n : Nat) : Ev (denL [(.pair (.slice .str) (.pair (.int .i64) (.slice (.pair .str (.pair (.slice (.int .i64)) (.slice .str))))))]) := loopO n (e80 n) s69_t0 s69_x0 (s69_l0 n)
theorem s69_b0 (n : Nat) (d) (again) (ks) : codeR (R := (denL [(.pair (.slice .str) (.pair (.int .i64) (.slice (.pair .str (.pair (.slice (.int .i64)) (.slice .str))))))])) (e80 n) (Hdl.no (R := (denL [(.pair (.slice .str) (.pair (.int .i64) (.slice (.pair .str (.pair (.slice (.int .i64)) (.slice .str))))))]))) (inn (lp (bd Go.Proofs.Try.f69) 0)) [s69_o0_0 n] (mk s69_t0 d) (turnR (e80 n) s69_t0 s69_x0 again ks) = s69_l0 n d again ks := by kernel_rfl
theorem s69_s0 (n : Nat) : Sound Go.Proofs.Try.prog (Hdl.no (R := (denL [(.pair (.slice .str) (.pair (.int .i64) (.slice (.pair .str (.pair (.slice (.int .i64)) (.slice .str))))))]))) false (lp (bd Go.Proofs.Try.f69) 0) (s69_o0 n) := loop_ok (h80 n) hP (by kernel_rfl) (O := [s69_o0_0 n]) ⟨s69_s0_0 n, trivial⟩ (s69_b0 n)
def s69_t1 : Templ := ⟨141, [(.slice .bool), (.int .i64), (.slice .str), (.int .i64), (.slice (.pair .str (.pair (.slice (.int .i64)) (.slice .str)))), (.int .i64), (.slice (.int .i64)), (.slice (.int .i64)), (.slice .str), (.int .i64), (.slice (.pair .str (.pair (.slice (.int .i64)) (.slice .str))))], [(1, .v (.bptr 141 0)), (2, .v (.bptr 142 0)), (4, .v (.hole (.slice .bool))), (6, .v (.hand 143)), (7, .v (.hand 144)), (11, .v (.bptr 145 0)), (12, .v (.hole (.int .i64)))], [(141, .box (.pair (.slice .str) (.pair (.int .i64) (.slice (.pair .str (.pair (.slice (.int .i64)) (.slice .str)))))) [.hole (.slice .str), .hole (.int .i64), .hole (.slice (.pair .str (.pair (.slice (.int .i64)) (.slice .str))))]), (142, .box (.pair (.slice .str) (.pair (.int .i64) (.slice (.pair .str (.pair (.slice (.int .i64)) (.slice .str)))))) [.nils, .hole (.int .i64), .nils]), (143, .buf (.int .i64)), (144, .buf (.int .i64)), (145, .box (.pair (.slice .str) (.pair (.int .i64) (.slice (.pair .str (.pair (.slice (.int .i64)) (.slice .str)))))) [.hole (.slice .str), .hole (.int .i64), .hand 146]), (146, .buf (.pair .str (.pair (.slice (.int .i64)) (.slice .str))))], []⟩
def s69_x1 : List (Way × Templ) := [(.exit 4, ⟨141, [(.slice .bool), (.slice .str), (.int .i64), (.slice (.pair .str (.pair (.slice (.int .i64)) (.slice .str)))), (.int .i64), (.slice .str), (.int .i64), (.slice (.pair .str (.pair (.slice (.int .i64)) (.slice .str))))], [(1, .v (.bptr 141 0)), (2, .v (.bptr 142 0)), (4, .v (.hole (.slice .bool))), (11, .v (.bptr 143 0))], [(141, .box (.pair (.slice .str) (.pair (.int .i64) (.slice (.pair .str (.pair (.slice (.int .i64)) (.slice .str)))))) [.hole (.slice .str), .hole (.int .i64), .hole (.slice (.pair .str (.pair (.slice (.int .i64)) (.slice .str))))]), (142, .box (.pair (.slice .str) (.pair (.int .i64) (.slice (.pair .str (.pair (.slice (.int .i64)) (.slice .str)))))) [.nils, .hole (.int .i64), .nils]), (143, .box (.pair (.slice .str) (.pair (.int .i64) (.slice (.pair .str (.pair (.slice (.int .i64)) (.slice .str)))))) [.hole (.slice .str), .hole (.int .i64), .hand 144]), (144, .buf (.pair .str (.pair (.slice (.int .i64)) (.slice .str))))], []⟩)]
def s69_o1 (n : Nat) : Ev (denL [(.pair (.slice .str) (.pair (.int .i64) (.slice (.pair .str (.pair (.slice (.int .i64)) (.slice .str))))))]) := loopO n (e80 n) s69_t1 s69_x1 (s69_l1 n)
theorem s69_b1 (n : Nat) (d) (again) (ks) : codeR (R := (denL [(.pair (.slice .str) (.pair (.int .i64) (.slice (.pair .str (.pair (.slice (.int .i64)) (.slice .str))))))])) (e80 n) (Hdl.no (R := (denL [(.pair (.slice .str) (.pair (.int .i64) (.slice (.pair .str (.pair (.slice (.int .i64)) (.slice .str))))))]))) (inn (lp (bd Go.Proofs.Try.f69) 1)) [s69_o1_0 n] (mk s69_t1 d) (turnR (e80 n) s69_t1 s69_x1 again ks) = s69_l1 n d again ks := by kernel_rfl
theorem s69_s1 (n : Nat) : Sound Go.Proofs.Try.prog (Hdl.no (R := (denL [(.pair (.slice .str) (.pair (.int .i64) (.slice (.pair .str (.pair (.slice (.int .i64)) (.slice .str))))))]))) false (lp (bd Go.Proofs.Try.f69) 1) (s69_o1 n) := loop_ok (h80 n) hP (by kernel_rfl) (O := [s69_o1_0 n]) ⟨s69_s1_0 n, trivial⟩ (s69_b1 n)
def s69_c (n : Nat) : Con := ⟨[(.pair (.slice .str) (.pair (.int .i64) (.slice (.pair .str (.pair (.slice (.int .i64)) (.slice .str))))))], [], [(.pair (.slice .str) (.pair (.int .i64) (.slice (.pair .str (.pair (.slice (.int .i64)) (.slice .str))))))], fun x y => s69 n x, false⟩
theorem s69_eq (n : Nat) (x : denL [(.pair (.slice .str) (.pair (.int .i64) (.slice (.pair .str (.pair (.slice (.int .i64)) (.slice .str))))))]) (y : denL []) : funR (e80 n) Go.Proofs.Try.f69 [(.pair (.slice .str) (.pair (.int .i64) (.slice (.pair .str (.pair (.slice (.int .i64)) (.slice .str))))))] [] [(.pair (.slice .str) (.pair (.int .i64) (.slice (.pair .str (.pair (.slice (.int .i64)) (.slice .str))))))] false [s69_o0 n, s69_o1 n] x y = (s69_c n).fn x y := by kernel_rfl
theorem s69_ok (n : Nat) : ConOK Go.Proofs.Try.prog 69 (s69_c n) := func_ok (h80 n) hP Go.Proofs.Try.func69 (by kernel_rfl) (by kernel_rfl) (O := [s69_o0 n, s69_o1 n]) ⟨s69_s0 n, s69_s1 n, trivial⟩ (s69_eq n)
def e81 (n : Nat) : Env := ⟨gT, (69, s69_c n) :: (e80 n).C, gQ, (e80 n).I, (e80 n).M, (e80 n).S, (e80 n).D, []⟩
theorem h81 (n : Nat) : EnvOK Go.Proofs.Try.prog (e81 n) := env_add (h80 n) (s69_ok n)

def s70_l0 (n : Nat) (d : (List Bool) × Int × (List Int) × Unit) (again : ((List Bool) × Int × (List Int) × Unit) → Option ((List Int))) (ks : ((List Int) × Unit → Option ((List Int))) × Unit) : Option ((List Int)) :=
  match d, ks with
  | (known, i, out, _), (k0, _) =>
  bif (decide (i < ((List.length known : Nat) : Int))) then
    (geti known i).bind fun e =>
    bif e then
      (chk (List.length out + List.length ([i] : List Int))).bind fun u =>
      again (known, (IntKind.wrap .i64 (i + (1 : Int))), (out ++ ([i] : List Int)), ())
    else
      again (known, (IntKind.wrap .i64 (i + (1 : Int))), out, ())
  else
    k0 (out, ())

/-- criadera/criaderaref07.Reachable -/
def s70 (n : Nat) (b : (List (List UInt8)) × Int × (List ((List UInt8) × (List Int) × (List (List UInt8))))) : Option ((List Int)) :=
  (s122 n (b.1, (b.2.1, b.2.2))).bind fun x =>
  loopG (s70_l0 n) n (x.2.1, (0 : Int), ([] : List Int), ())
    (fun (out_1, _) =>
      some (out_1), ())

def s70_t0 : Templ := ⟨29, [(.slice .bool), (.int .i64), (.slice (.int .i64))], [(3, .v (.hand 29)), (5, .v (.hole (.slice .bool))), (7, .v (.hole (.int .i64)))], [(29, .buf (.int .i64))], []⟩
def s70_x0 : List (Way × Templ) := [(.exit 0, ⟨29, [(.slice (.int .i64))], [(3, .v (.hand 29))], [(29, .buf (.int .i64))], []⟩)]
def s70_o0 (n : Nat) : Ev (denL [(.slice (.int .i64))]) := loopO n (e81 n) s70_t0 s70_x0 (s70_l0 n)
theorem s70_b0 (n : Nat) (d) (again) (ks) : codeR (R := (denL [(.slice (.int .i64))])) (e81 n) (Hdl.no (R := (denL [(.slice (.int .i64))]))) (inn (lp (bd Go.Proofs.Try.f70) 0)) [] (mk s70_t0 d) (turnR (e81 n) s70_t0 s70_x0 again ks) = s70_l0 n d again ks := by kernel_rfl
theorem s70_s0 (n : Nat) : Sound Go.Proofs.Try.prog (Hdl.no (R := (denL [(.slice (.int .i64))]))) false (lp (bd Go.Proofs.Try.f70) 0) (s70_o0 n) := loop_ok (h81 n) hP (by kernel_rfl) (O := []) trivial (s70_b0 n)
def s70_c (n : Nat) : Con := ⟨[(.pair (.slice .str) (.pair (.int .i64) (.slice (.pair .str (.pair (.slice (.int .i64)) (.slice .str))))))], [], [(.slice (.int .i64))], fun x y => s70 n x, false⟩
theorem s70_eq (n : Nat) (x : denL [(.pair (.slice .str) (.pair (.int .i64) (.slice (.pair .str (.pair (.slice (.int .i64)) (.slice .str))))))]) (y : denL []) : funR (e81 n) Go.Proofs.Try.f70 [(.pair (.slice .str) (.pair (.int .i64) (.slice (.pair .str (.pair (.slice (.int .i64)) (.slice .str))))))] [] [(.slice (.int .i64))] false [s70_o0 n] x y = (s70_c n).fn x y := by kernel_rfl
theorem s70_ok (n : Nat) : ConOK Go.Proofs.Try.prog 70 (s70_c n) := func_ok (h81 n) hP Go.Proofs.Try.func70 (by kernel_rfl) (by kernel_rfl) (O := [s70_o0 n]) ⟨s70_s0 n, trivial⟩ (s70_eq n)
def e82 (n : Nat) : Env := ⟨gT, (70, s70_c n) :: (e81 n).C, gQ, (e81 n).I, (e81 n).M, (e81 n).S, (e81 n).D, []⟩
theorem h82 (n : Nat) : EnvOK Go.Proofs.Try.prog (e82 n) := env_add (h81 n) (s70_ok n)

def s18_l0 (n : Nat) (d : (List Int) × Int × (List (List UInt8)) × Int × (List ((List UInt8) × (List Int) × (List (List UInt8)))) × Unit) (again : ((List Int) × Int × (List (List UInt8)) × Int × (List ((List UInt8) × (List Int) × (List (List UInt8)))) × Unit) → Option (Int)) (ks : (Unit → Option (Int)) × (Int × Unit → Option (Int)) × Unit) : Option (Int) :=
  match d, ks with
  | (marks, i, b, b_1, b_2, _), (k0, k1, _) =>
  bif (decide (i < ((List.length marks : Nat) : Int))) then
    (geti marks i).bind fun e =>
    (s19 n e (0 : Int) (IntKind.wrap .i64 (((List.length b : Nat) : Int) - (1 : Int)))).bind fun x =>
    bif (!x) then
      k1 ((6 : Int), ())
    else
      again (marks, (IntKind.wrap .i64 (i + (1 : Int))), b, b_1, b_2, ())
  else
    k0 (())

/-- criadera/criaderaref07.MarksErr -/
def s18 (n : Nat) (b : (List (List UInt8)) × Int × (List ((List UInt8) × (List Int) × (List (List UInt8))))) (marks : List Int) : Option (Int) :=
  bif (decide (((List.length marks : Nat) : Int) > (40 : Int))) then
    some ((8 : Int))
  else
    loopG (s18_l0 n) n (marks, (0 : Int), b.1, b.2.1, b.2.2, ())
      (fun (_) =>
        some ((0 : Int)),
      fun (t4, _) =>
        some (t4), ())

def s18_t0 : Templ := ⟨25, [(.slice (.int .i64)), (.int .i64), (.slice .str), (.int .i64), (.slice (.pair .str (.pair (.slice (.int .i64)) (.slice .str))))], [(1, .v (.hole (.slice (.int .i64)))), (2, .v (.bptr 25 0)), (5, .v (.hole (.int .i64)))], [(25, .box (.pair (.slice .str) (.pair (.int .i64) (.slice (.pair .str (.pair (.slice (.int .i64)) (.slice .str)))))) [.hole (.slice .str), .hole (.int .i64), .hole (.slice (.pair .str (.pair (.slice (.int .i64)) (.slice .str))))])], []⟩
def s18_x0 : List (Way × Templ) := [(.exit 0, ⟨25, [], [], [], []⟩), (.ret, ⟨25, [(.int .i64)], [(4, .v (.hole (.int .i64)))], [], []⟩)]
def s18_o0 (n : Nat) : Ev (denL [(.int .i64)]) := loopO n (e82 n) s18_t0 s18_x0 (s18_l0 n)
theorem s18_b0 (n : Nat) (d) (again) (ks) : codeR (R := (denL [(.int .i64)])) (e82 n) (Hdl.no (R := (denL [(.int .i64)]))) (inn (lp (bd Go.Proofs.Try.f18) 0)) [] (mk s18_t0 d) (turnR (e82 n) s18_t0 s18_x0 again ks) = s18_l0 n d again ks := by kernel_rfl
theorem s18_s0 (n : Nat) : Sound Go.Proofs.Try.prog (Hdl.no (R := (denL [(.int .i64)]))) false (lp (bd Go.Proofs.Try.f18) 0) (s18_o0 n) := loop_ok (h82 n) hP (by kernel_rfl) (O := []) trivial (s18_b0 n)
def s18_c (n : Nat) : Con := ⟨[(.pair (.slice .str) (.pair (.int .i64) (.slice (.pair .str (.pair (.slice (.int .i64)) (.slice .str)))))), (.slice (.int .i64))], [], [(.int .i64)], fun x y => s18 n x.1 x.2, false⟩
theorem s18_eq (n : Nat) (x : denL [(.pair (.slice .str) (.pair (.int .i64) (.slice (.pair .str (.pair (.slice (.int .i64)) (.slice .str)))))), (.slice (.int .i64))]) (y : denL []) : funR (e82 n) Go.Proofs.Try.f18 [(.pair (.slice .str) (.pair (.int .i64) (.slice (.pair .str (.pair (.slice (.int .i64)) (.slice .str)))))), (.slice (.int .i64))] [] [(.int .i64)] false [s18_o0 n] x y = (s18_c n).fn x y := by kernel_rfl
theorem s18_ok (n : Nat) : ConOK Go.Proofs.Try.prog 18 (s18_c n) := func_ok (h82 n) hP Go.Proofs.Try.func18 (by kernel_rfl) (by kernel_rfl) (O := [s18_o0 n]) ⟨s18_s0 n, trivial⟩ (s18_eq n)
def e83 (n : Nat) : Env := ⟨gT, (18, s18_c n) :: (e82 n).C, gQ, (e82 n).I, (e82 n).M, (e82 n).S, (e82 n).D, []⟩
theorem h83 (n : Nat) : EnvOK Go.Proofs.Try.prog (e83 n) := env_add (h82 n) (s18_ok n)

def s40_l0 (n : Nat) (d : (List Int) × Int × (List (List UInt8)) × Int × (List ((List UInt8) × (List Int) × (List (List UInt8)))) × (List Int) × Unit) (again : ((List Int) × Int × (List (List UInt8)) × Int × (List ((List UInt8) × (List Int) × (List (List UInt8)))) × (List Int) × Unit) → Option ((List Int))) (ks : ((List Int) × Unit → Option ((List Int))) × Unit) : Option ((List Int)) :=
  match d, ks with
  | (marks, i, b, b_1, b_2, out, _), (k0, _) =>
  bif (decide (i < ((List.length marks : Nat) : Int))) then
    (geti out i).bind fun e =>
    (geti out i).bind fun x =>
    (geti b_2 x).bind fun e_1 =>
    (geti marks i).bind fun e_2 =>
    (geti e_1.2.1 e_2).bind fun e_3 =>
    (chk (List.length out + List.length ([e_3] : List Int))).bind fun u =>
    again (marks, (IntKind.wrap .i64 (i + (1 : Int))), b, b_1, b_2, (out ++ ([e_3] : List Int)), ())
  else
    k0 (out, ())

/-- criadera/criaderaref07.Walk -/
def s40 (n : Nat) (b : (List (List UInt8)) × Int × (List ((List UInt8) × (List Int) × (List (List UInt8))))) (marks : List Int) : Option ((List Int)) :=
  loopG (s40_l0 n) n (marks, (0 : Int), b.1, b.2.1, b.2.2, ([b.2.1] : List Int), ())
    (fun (out_1, _) =>
      some (out_1), ())

def s40_t0 : Templ := ⟨35, [(.slice (.int .i64)), (.int .i64), (.slice .str), (.int .i64), (.slice (.pair .str (.pair (.slice (.int .i64)) (.slice .str)))), (.slice (.int .i64))], [(1, .v (.hole (.slice (.int .i64)))), (2, .v (.bptr 35 0)), (5, .v (.hand 36)), (6, .v (.hole (.int .i64)))], [(35, .box (.pair (.slice .str) (.pair (.int .i64) (.slice (.pair .str (.pair (.slice (.int .i64)) (.slice .str)))))) [.hole (.slice .str), .hole (.int .i64), .hole (.slice (.pair .str (.pair (.slice (.int .i64)) (.slice .str))))]), (36, .buf (.int .i64))], []⟩
def s40_x0 : List (Way × Templ) := [(.exit 0, ⟨35, [(.slice (.int .i64))], [(5, .v (.hand 35))], [(35, .buf (.int .i64))], []⟩)]
def s40_o0 (n : Nat) : Ev (denL [(.slice (.int .i64))]) := loopO n (e83 n) s40_t0 s40_x0 (s40_l0 n)
theorem s40_b0 (n : Nat) (d) (again) (ks) : codeR (R := (denL [(.slice (.int .i64))])) (e83 n) (Hdl.no (R := (denL [(.slice (.int .i64))]))) (inn (lp (bd Go.Proofs.Try.f40) 0)) [] (mk s40_t0 d) (turnR (e83 n) s40_t0 s40_x0 again ks) = s40_l0 n d again ks := by kernel_rfl
theorem s40_s0 (n : Nat) : Sound Go.Proofs.Try.prog (Hdl.no (R := (denL [(.slice (.int .i64))]))) false (lp (bd Go.Proofs.Try.f40) 0) (s40_o0 n) := loop_ok (h83 n) hP (by kernel_rfl) (O := []) trivial (s40_b0 n)
def s40_c (n : Nat) : Con := ⟨[(.pair (.slice .str) (.pair (.int .i64) (.slice (.pair .str (.pair (.slice (.int .i64)) (.slice .str)))))), (.slice (.int .i64))], [], [(.slice (.int .i64))], fun x y => s40 n x.1 x.2, false⟩
theorem s40_eq (n : Nat) (x : denL [(.pair (.slice .str) (.pair (.int .i64) (.slice (.pair .str (.pair (.slice (.int .i64)) (.slice .str)))))), (.slice (.int .i64))]) (y : denL []) : funR (e83 n) Go.Proofs.Try.f40 [(.pair (.slice .str) (.pair (.int .i64) (.slice (.pair .str (.pair (.slice (.int .i64)) (.slice .str)))))), (.slice (.int .i64))] [] [(.slice (.int .i64))] false [s40_o0 n] x y = (s40_c n).fn x y := by kernel_rfl
theorem s40_ok (n : Nat) : ConOK Go.Proofs.Try.prog 40 (s40_c n) := func_ok (h83 n) hP Go.Proofs.Try.func40 (by kernel_rfl) (by kernel_rfl) (O := [s40_o0 n]) ⟨s40_s0 n, trivial⟩ (s40_eq n)
def e84 (n : Nat) : Env := ⟨gT, (40, s40_c n) :: (e83 n).C, gQ, (e83 n).I, (e83 n).M, (e83 n).S, (e83 n).D, []⟩
theorem h84 (n : Nat) : EnvOK Go.Proofs.Try.prog (e84 n) := env_add (h83 n) (s40_ok n)

/-- criadera/criaderaref07.At -/
def s22 (n : Nat) (b : (List (List UInt8)) × Int × (List ((List UInt8) × (List Int) × (List (List UInt8))))) (marks : List Int) : Option (Int) :=
  (s40 n (b.1, (b.2.1, b.2.2)) marks).bind fun x =>
  (geti x (IntKind.wrap .i64 (((List.length x : Nat) : Int) - (1 : Int)))).bind fun e =>
  some (e)

def s22_c (n : Nat) : Con := ⟨[(.pair (.slice .str) (.pair (.int .i64) (.slice (.pair .str (.pair (.slice (.int .i64)) (.slice .str)))))), (.slice (.int .i64))], [], [(.int .i64)], fun x y => s22 n x.1 x.2, false⟩
theorem s22_eq (n : Nat) (x : denL [(.pair (.slice .str) (.pair (.int .i64) (.slice (.pair .str (.pair (.slice (.int .i64)) (.slice .str)))))), (.slice (.int .i64))]) (y : denL []) : funR (e84 n) Go.Proofs.Try.f22 [(.pair (.slice .str) (.pair (.int .i64) (.slice (.pair .str (.pair (.slice (.int .i64)) (.slice .str)))))), (.slice (.int .i64))] [] [(.int .i64)] false [] x y = (s22_c n).fn x y := by kernel_rfl
theorem s22_ok (n : Nat) : ConOK Go.Proofs.Try.prog 22 (s22_c n) := func_ok (h84 n) hP Go.Proofs.Try.func22 (by kernel_rfl) (by kernel_rfl) (O := []) trivial (s22_eq n)
def e85 (n : Nat) : Env := ⟨gT, (22, s22_c n) :: (e84 n).C, gQ, (e84 n).I, (e84 n).M, (e84 n).S, (e84 n).D, []⟩
theorem h85 (n : Nat) : EnvOK Go.Proofs.Try.prog (e85 n) := env_add (h84 n) (s22_ok n)

/-- criadera/criaderalaw07.TasteLeast -/
def s12 (n : Nat) (b : (List (List UInt8)) × Int × (List ((List UInt8) × (List Int) × (List (List UInt8))))) (marks : List Int) : Option (Bool) :=
  (s15 n).bind fun x =>
  bif (!x) then
    some (false)
  else
    (s16 n (b.1, (b.2.1, b.2.2))).bind fun x_1 =>
    bif ((!x_1) || (decide (((List.length marks : Nat) : Int) > (12 : Int)))) then
      some (true)
    else
      (s21 n (b.1, (b.2.1, b.2.2))).bind fun x_2 =>
      (s64 n x_2).bind fun x_3 =>
      (s21 n (b.1, (b.2.1, b.2.2))).bind fun x_4 =>
      (s65 n x_4).bind fun x_5 =>
      (s17 n (b.1, (b.2.1, b.2.2))).bind fun x_6 =>
      bif (x_6 != (0 : Int)) then
        (part (((x_3.2 == x_6) && (x_5.2 == x_6)) && (((List.length x_3.1 : Nat) : Int) == (0 : Int))) (s66 n (x_5.1.1, (x_5.1.2.1, x_5.1.2.2)) (([] : List (List UInt8)), ((0 : Int), ([] : List ((List UInt8) × (List Int) × (List (List UInt8))))))) false).bind fun x_7 =>
        some (((((x_3.2 == x_6) && (x_5.2 == x_6)) && (((List.length x_3.1 : Nat) : Int) == (0 : Int))) && x_7))
      else
        (part (!(x_3.2 != (0 : Int))) (s68 n (b.1, (b.2.1, b.2.2))) []).bind fun x_8 =>
        (part (!(x_3.2 != (0 : Int))) (s67 n x_3.1 x_8) false).bind fun x_9 =>
        (part (!(((x_3.2 != (0 : Int)) || (!x_9)) || (x_5.2 != (0 : Int)))) (s69 n (b.1, (b.2.1, b.2.2))) ([], ((0 : Int), []))).bind fun x_10 =>
        (part (!(((x_3.2 != (0 : Int)) || (!x_9)) || (x_5.2 != (0 : Int)))) (s66 n (x_5.1.1, (x_5.1.2.1, x_5.1.2.2)) x_10) false).bind fun x_11 =>
        (part (!((((x_3.2 != (0 : Int)) || (!x_9)) || (x_5.2 != (0 : Int))) || (!x_11))) (s70 n (b.1, (b.2.1, b.2.2))) []).bind fun x_12 =>
        bif (((((x_3.2 != (0 : Int)) || (!x_9)) || (x_5.2 != (0 : Int))) || (!x_11)) || (decide (((List.length x_5.1.2.2 : Nat) : Int) > ((List.length x_12 : Nat) : Int)))) then
          some (false)
        else
          (s21 n (x_5.1.1, (x_5.1.2.1, x_5.1.2.2))).bind fun x_13 =>
          (s65 n x_13).bind fun x_14 =>
          (part (!(x_14.2 != (0 : Int))) (s66 n (x_5.1.1, (x_5.1.2.1, x_5.1.2.2)) (x_14.1.1, (x_14.1.2.1, x_14.1.2.2))) false).bind fun x_15 =>
          bif ((x_14.2 != (0 : Int)) || (!x_15)) then
            some (false)
          else
            (s18 n (b.1, (b.2.1, b.2.2)) marks).bind fun x_16 =>
            bif (x_16 != (0 : Int)) then
              some (true)
            else
              (s22 n (x_5.1.1, (x_5.1.2.1, x_5.1.2.2)) marks).bind fun x_17 =>
              (geti x_5.1.2.2 x_17).bind fun e =>
              (s63 n e.1).bind fun x_18 =>
              (s22 n (b.1, (b.2.1, b.2.2)) marks).bind fun x_19 =>
              (geti b.2.2 x_19).bind fun e_1 =>
              (s63 n e_1.1).bind fun x_20 =>
              some (((x_18 : List UInt8) == x_20))

def s12_c (n : Nat) : Con := ⟨[(.pair (.slice .str) (.pair (.int .i64) (.slice (.pair .str (.pair (.slice (.int .i64)) (.slice .str)))))), (.slice (.int .i64))], [], [.bool], fun x y => s12 n x.1 x.2, false⟩
theorem s12_eq (n : Nat) (x : denL [(.pair (.slice .str) (.pair (.int .i64) (.slice (.pair .str (.pair (.slice (.int .i64)) (.slice .str)))))), (.slice (.int .i64))]) (y : denL []) : funR (e85 n) Go.Proofs.Try.f12 [(.pair (.slice .str) (.pair (.int .i64) (.slice (.pair .str (.pair (.slice (.int .i64)) (.slice .str)))))), (.slice (.int .i64))] [] [.bool] false [] x y = (s12_c n).fn x y := by kernel_rfl
theorem s12_ok (n : Nat) : ConOK Go.Proofs.Try.prog 12 (s12_c n) := func_ok (h85 n) hP Go.Proofs.Try.func12 (by kernel_rfl) (by kernel_rfl) (O := []) trivial (s12_eq n)
def e86 (n : Nat) : Env := ⟨gT, (12, s12_c n) :: (e85 n).C, gQ, (e85 n).I, (e85 n).M, (e85 n).S, (e85 n).D, []⟩
theorem h86 (n : Nat) : EnvOK Go.Proofs.Try.prog (e86 n) := env_add (h85 n) (s12_ok n)



end Go.Abs

set_option linter.unusedSimpArgs false
set_option linter.unusedVariables false
namespace Go.Abs
open Go

/-! Specifications. -/
def firstErr : List Int → Int
  | [] => 0
  | e :: r => bif e == 0 then firstErr r else e
def unl (ok : Bool) (e : Int) : Int := bif ok then 0 else e
def inR (n lo hi : Int) : Bool := decide (lo ≤ n) && decide (n ≤ hi)

def chOk (first : Bool) (c : UInt8) : Bool :=
  let n : Int := (c.toNat : Int)
  let letter := (decide (n ≥ 97) && decide (n ≤ 122)) || (decide (n ≥ 65) && decide (n ≤ 90))
  !(!letter && (first || (n != 45 && (decide (n < 48) || decide (n > 57)))))
def charsOk : Nat → List UInt8 → Bool
  | _, [] => true
  | i, c :: r => chOk (i == 0) c && charsOk (i + 1) r
def nameOk (s : List UInt8) : Bool := charsOk 0 s && s != [] && decide (s.length ≤ 12)

theorem v81 (n : Nat) (ok : Bool) (e : Int) : s81 n ok e = some (unl ok e) := by
  unfold s81 unl
  cases ok <;> rfl
theorem v82 (n : Nat) (x lo hi : Int) : s82 n x lo hi = some (inR x lo hi) := rfl
theorem v19 (n : Nat) (x lo hi : Int) : s19 n x lo hi = some (inR x lo hi) := rfl

theorem v80 (n : Nat) (l : List Int) (hl : l.length ≤ maxLen) (hn : l.length < n) : s80 n l = some (firstErr l) := by
  unfold s80
  refine list_loop0 l (fun i => (l, (l.length : Int), (i : Int), ())) (fun _ r => some (firstErr r)) hl ?_ ?_ hn
  · intro i x r hi hx hd hg hlt hw again ih
    simp only [s80_l0, hlt, cond_true, hg, Option.bind_some, hw, ih, firstErr, bne]
    cases h : (x == 0) <;> rfl
  · intro hlt again
    simp only [s80_l0, hlt, cond_false, firstErr]

theorem zero_beq (i : Nat) : ((i : Int) == 0) = (i == 0) := by
  cases i <;> simp
  omega

theorem v98 (n : Nat) (s : List UInt8) (hl : s.length ≤ maxLen) (hn : s.length < n) : s98 n s = some (nameOk s) := by
  unfold s98
  have hb : (bytesOf s).length = s.length := by simp [bytesOf]
  rw [hb]
  refine (list_loop0 s (fun i => (s, bytesOf s, (s.length : Int), (i : Int), ())) (fun i r => some (charsOk i r && s != [] && decide (s.length ≤ 12))) hl ?_ ?_ hn)
  · intro i x r hi hx hd hg hlt hw again ih
    have hg' : geti (bytesOf s) (i : Int) = some (x.toNat : Int) := by
      rw [geti_nat]; simp [bytesOf, hx]
    simp only [s98_l0, hlt, cond_true, hg', Option.bind_some, hw, ih, charsOk, chOk, zero_beq]
    rw [bif_eq]
    split
    · rename_i h
      rw [h]; rfl
    · rename_i h
      rw [Bool.not_eq_true] at h
      rw [h]; rfl
  · intro hlt again
    simp only [s98_l0, hlt, cond_false, charsOk, Bool.true_and]
    congr 2
    simp
    omega

theorem v101 (n : Nat) (s : List UInt8) (hl : s.length ≤ maxLen) (hn : s.length < n) : s101 n s = some (nameOk s) := by
  unfold s101
  rw [bif_eq]
  split
  · rename_i h
    have : nameOk s = false := by
      unfold nameOk
      cases s with
      | nil => simp
      | cons c r =>
        simp only [Bool.or_eq_true, decide_eq_true_eq] at h
        have : ¬ (c :: r).length ≤ 12 := by rcases h with h | h <;> simp at h ⊢ <;> omega
        simp only [this, decide_false, Bool.and_false]
    rw [this]
  · rename_i h
    have h12 : 1 ≤ s.length ∧ s.length ≤ 12 := by simp at h; omega
    refine (list_loop0 s (fun i => (s, (i : Int), ())) (fun i r => some (charsOk i r)) hl ?_ ?_ hn).trans ?_
    · intro i x r hi hx hd hg hlt hw again ih
      simp only [s101_l0, hlt, cond_true, hg, Option.bind_some, hw, ih, charsOk, chOk, zero_beq]
      rw [bif_eq]
      split
      · rename_i h
        rw [h]; rfl
      · rename_i h
        rw [Bool.not_eq_true] at h
        rw [h]; rfl
    · intro hlt again
      simp only [s101_l0, hlt, cond_false, charsOk]
    · unfold nameOk
      have : s != [] := by cases s <;> simp at h12 ⊢
      simp [this, h12]

/-- The place of the first element that is so, or -1. -/
def idxF {α : Type} (p : α → Bool) : Nat → List α → Int
  | _, [] => -1
  | i, x :: r => bif p x then (i : Int) else idxF p (i + 1) r
theorem idxF_any {α : Type} (p : α → Bool) (l : List α) : ∀ i, decide (idxF p i l ≥ 0) = l.any p := by
  induction l with
  | nil => intro i; rfl
  | cons x r ih =>
    intro i
    rw [List.any_cons, ← ih (i + 1)]
    cases h : p x <;> simp [idxF, h]

theorem v143 (n : Nat) (s : List (List UInt8)) (v : List UInt8) (hl : s.length ≤ maxLen) (hn : s.length < n) : s143 n s v = some (idxF (fun x => v == x) 0 s) := by
  unfold s143
  refine list_loop0 s (fun i => (s, v, (s.length : Int), (i : Int), ())) (fun i r => some (idxF (fun x => v == x) i r)) hl ?_ ?_ hn
  · intro i x r hi hx hd hg hlt hw again ih
    simp only [s143_l0, hlt, cond_true, hg, Option.bind_some, hw, ih, idxF]
    cases h : (v == x) <;> rfl
  · intro hlt again
    simp only [s143_l0, hlt, cond_false, idxF]

theorem v129 (n : Nat) (s : List (List UInt8)) (v : List UInt8) (hl : s.length ≤ maxLen) (hn : s.length < n) : s129 n s v = some (s.any fun x => v == x) := by
  unfold s129
  rw [v143 n s v hl hn, Option.bind_some, idxF_any]

theorem v127 (n : Nat) (s : List Int) (v : Int) (hl : s.length ≤ maxLen) (hn : s.length < n) : s127 n s v = some (idxF (fun x => v == x) 0 s) := by
  unfold s127
  refine list_loop0 s (fun i => (s, v, (s.length : Int), (i : Int), ())) (fun i r => some (idxF (fun x => v == x) i r)) hl ?_ ?_ hn
  · intro i x r hi hx hd hg hlt hw again ih
    simp only [s127_l0, hlt, cond_true, hg, Option.bind_some, hw, ih, idxF]
    cases h : (v == x) <;> rfl
  · intro hlt again
    simp only [s127_l0, hlt, cond_false, idxF]

theorem v128 (n : Nat) (s : List Int) (v : Int) (hl : s.length ≤ maxLen) (hn : s.length < n) : s128 n s v = some (s.any fun x => v == x) := by
  unfold s128
  rw [v127 n s v hl hn, Option.bind_some, idxF_any]

theorem v102 (n : Nat) (s : List (List UInt8)) (v : List UInt8) (hl : s.length ≤ maxLen) (hn : s.length < n) : s102 n s v = some (s.any fun x => v == x) := by
  unfold s102
  refine list_loop0 s (fun i => (s, v, (i : Int), ())) (fun i r => some (r.any fun x => v == x)) hl ?_ ?_ hn
  · intro i x r hi hx hd hg hlt hw again ih
    simp only [s102_l0, hlt, cond_true, hg, Option.bind_some, hw, ih, List.any_cons]
    rw [BEq.comm]
    cases h : (v == x) <;> rfl
  · intro hlt again
    simp only [s102_l0, hlt, cond_false, List.any_nil]

theorem v130 (n : Nat) (s : List Int) (f : Int → Option Bool) (q : Int → Bool) (hf : ∀ x ∈ s, f x = some (q x)) (hl : s.length ≤ maxLen) (hn : s.length < n) : s130 n s f = some (idxF q 0 s) := by
  unfold s130
  refine list_loop0 s (fun i => (s, f, (s.length : Int), (i : Int), ())) (fun i r => some (idxF q i r)) hl ?_ ?_ hn
  · intro i x r hi hx hd hg hlt hw again ih
    simp only [s130_l0, hlt, cond_true, hg, Option.bind_some, hw, ih, idxF, hf x (List.mem_of_getElem? hx)]
    cases h : q x <;> rfl
  · intro hlt again
    simp only [s130_l0, hlt, cond_false, idxF]
theorem v94 (n : Nat) (s : List Int) (f : Int → Option Bool) (q : Int → Bool) (hf : ∀ x ∈ s, f x = some (q x)) (hl : s.length ≤ maxLen) (hn : s.length < n) : s94 n s f = some (s.any q) := by
  unfold s94
  rw [v130 n s f q hf hl hn, Option.bind_some, idxF_any]
theorem v131 (n : Nat) (s : List (List UInt8)) (f : List UInt8 → Option Bool) (q : List UInt8 → Bool) (hf : ∀ x ∈ s, f x = some (q x)) (hl : s.length ≤ maxLen) (hn : s.length < n) : s131 n s f = some (idxF q 0 s) := by
  unfold s131
  refine list_loop0 s (fun i => (s, f, (s.length : Int), (i : Int), ())) (fun i r => some (idxF q i r)) hl ?_ ?_ hn
  · intro i x r hi hx hd hg hlt hw again ih
    simp only [s131_l0, hlt, cond_true, hg, Option.bind_some, hw, ih, idxF, hf x (List.mem_of_getElem? hx)]
    cases h : q x <;> rfl
  · intro hlt again
    simp only [s131_l0, hlt, cond_false, idxF]
theorem v96 (n : Nat) (s : List (List UInt8)) (f : List UInt8 → Option Bool) (q : List UInt8 → Bool) (hf : ∀ x ∈ s, f x = some (q x)) (hl : s.length ≤ maxLen) (hn : s.length < n) : s96 n s f = some (s.any q) := by
  unfold s96
  rw [v131 n s f q hf hl hn, Option.bind_some, idxF_any]

end Go.Abs

set_option linter.unusedSimpArgs false
set_option linter.unusedVariables false
namespace Go.Abs
open Go

abbrev Txt := List UInt8
abbrev Cls := Txt × List Int × List Txt
abbrev Book := List Txt × Int × List Cls

def Lt {α : Type} (n : Nat) (l : List α) : Prop := l.length < n
def fitC (n : Nat) (c : Cls) : Prop := Lt n c.1 ∧ Lt n c.2.1 ∧ Lt n c.2.2 ∧ ∀ s ∈ c.2.2, Lt n s
def fitB (n : Nat) (b : Book) : Prop := Lt n b.1 ∧ (∀ s ∈ b.1, Lt n s) ∧ Lt n b.2.2 ∧ ∀ c ∈ b.2.2, fitC n c
structure Fuel (n : Nat) : Prop where
  lo : 2000 ≤ n
  hi : n ≤ 2147483648
theorem Fuel.le {n : Nat} (h : Fuel n) {α : Type} {l : List α} (hl : Lt n l) : l.length ≤ maxLen := by
  have := h.hi
  unfold Lt at hl
  unfold maxLen
  omega

def nameErrS (name : Txt) (others : List Txt) : Int := firstErr [unl (nameOk name) 4, unl (!(others.any fun x => name == x)) 5]
def marksGo (pre : List Txt) : List Txt → Int
  | [] => 0
  | m :: r => bif nameErrS m pre == 0 then marksGo (pre ++ [m]) r else nameErrS m pre
def clsErr (nm nc : Int) (pre : List Txt) (c : Cls) : Int :=
  firstErr [nameErrS c.1 pre, unl (((c.2.1.length : Int) == nm) && ((c.2.2.length : Int) == nm)) 10, unl (!(c.2.1.any fun k => !inR k 0 (nc - 1))) 6, unl (!(c.2.2.any fun s => !nameOk s)) 4]
def clsGo (nm nc : Int) : Nat → List Txt → List Cls → Int × Int
  | _, _, [] => (0, 0)
  | i, pre, c :: r => bif clsErr nm nc pre c == 0 then clsGo nm nc (i + 1) (pre ++ [c.1]) r else ((i : Int), clsErr nm nc pre c)
def sizeErr (b : Book) : Int := firstErr [unl (decide (0 < b.1.length) && decide (0 < b.2.2.length)) 10, unl (decide (b.1.length ≤ 6) && decide (b.2.2.length ≤ 8)) 8]
def bookErr (b : Book) : Int × Int :=
  bif sizeErr b == 0 then
    (bif marksGo [] b.1 == 0 then
      (bif inR b.2.1 0 ((b.2.2.length : Int) - 1) then clsGo b.1.length b.2.2.length 0 [] b.2.2 else (0, 6))
    else (0, marksGo [] b.1))
  else (0, sizeErr b)

theorem v92 (n : Nat) (name : Txt) (others : List Txt) (hf : Fuel n) (h1 : Lt n name) (h2 : Lt n others) : s92 n name others = some (nameErrS name others) := by
  unfold s92
  have := hf.lo
  rw [v98 n name (hf.le h1) h1, Option.bind_some, v81, Option.bind_some, v129 n others name (hf.le h2) h2, Option.bind_some, v81, Option.bind_some, v80 n _ (by simp [maxLen]) (by simp; omega)]
  rfl

/-- Marks, one after the other: both programs. -/
theorem v37_l0 (n : Nat) (hf : Fuel n) (marks : List Txt) (m : Int) (b1 : Int) (b2 : List Cls) (cl : Int) (h1 : Lt n marks) (h2 : ∀ s ∈ marks, Lt n s)
    (k0 : Int × List Txt × Int × List Cls × Int × Unit → Option (Int × Int)) (k1 : Int × Int × Unit → Option (Int × Int)) :
    loopG (s37_l0 n) n (m, marks, (marks.length : Int), (0 : Int), marks, b1, b2, cl, ()) (k0, k1, ()) =
      bif marksGo [] marks == 0 then k0 (m, marks, b1, b2, cl, ()) else k1 (0, marksGo [] marks, ()) := by
  refine (list_loop0 marks (fun i => (m, marks, (marks.length : Int), (i : Int), marks, b1, b2, cl, ())) (fun i r => bif marksGo (marks.take i) r == 0 then k0 (m, marks, b1, b2, cl, ()) else k1 (0, marksGo (marks.take i) r, ())) (hf.le h1) ?_ ?_ h1)
  · intro i x r hi hx hd hg hlt hw again ih
    have hx' : x ∈ marks := List.mem_of_getElem? hx
    simp only [s37_l0, hlt, cond_true, hg, Option.bind_some, hw, ih, cut_zero marks i (by omega), v92 n x (marks.take i) hf (h2 x hx') (by unfold Lt at *; simp; omega)]
    have ht : marks.take (i + 1) = marks.take i ++ [x] := by rw [List.take_add_one, hx]; rfl
    simp only [ht, bne, marksGo]
    cases h : (nameErrS x (marks.take i) == 0) <;> simp [h]
  · intro hlt again
    simp only [s37_l0, hlt, cond_false, marksGo]
    rfl

theorem v93 (n : Nat) (x c0 : Int) : s93 n x c0 = some (inR x 0 (IntKind.wrap .i64 (c0 - 1))) := rfl

theorem v37_l1 (n : Nat) (hf : Fuel n) (nm nc : Int) (isC : Int → Option Bool) (hC : ∀ x, isC x = some (inR x 0 (nc - 1))) (l : List Cls) (h1 : Lt n l) (h2 : ∀ c ∈ l, fitC n c)
    (k0 : Unit → Option (Int × Int)) (k1 : Int × Int × Unit → Option (Int × Int)) :
    loopG (s37_l1 n) n (nm, isC, l, (l.length : Int), (0 : Int), ([] : List Txt), ()) (k0, k1, ()) =
      bif (clsGo nm nc 0 [] l).2 == 0 then k0 () else k1 ((clsGo nm nc 0 [] l).1, (clsGo nm nc 0 [] l).2, ()) := by
  have hlo := hf.lo
  have hhi := hf.hi
  refine (list_loop (A := List Txt) l (fun i names => (nm, isC, l, (l.length : Int), (i : Int), names, ())) (fun i names r => bif (clsGo nm nc i names r).2 == 0 then k0 () else k1 ((clsGo nm nc i names r).1, (clsGo nm nc i names r).2, ()))
    (fun i names => names.length = i) (hf.le h1) ?_ ?_ [] rfl h1)
  · intro i names x r hi hx hd hg hlt hw hinv again ih
    obtain ⟨g1, g2, g3, g4⟩ := h2 x (List.mem_of_getElem? hx)
    have hnm : Lt n names := by unfold Lt at *; omega
    have e1 : s94 n x.2.1 (fun y0 => s95 n y0 isC) = some (x.2.1.any fun k => !inR k 0 (nc - 1)) := by
      refine v94 n _ _ (fun k => !inR k 0 (nc - 1)) (fun k _ => ?_) (hf.le g2) g2
      simp [s95, hC]
    have e2 : s96 n x.2.2 (fun x => s97 n x) = some (x.2.2.any fun s => !nameOk s) := by
      refine v96 n _ _ (fun s => !nameOk s) (fun s hs => ?_) (hf.le g3) g3
      simp [s97, v98 n s (hf.le (g4 s hs)) (g4 s hs)]
    simp only [s37_l1, hlt, cond_true, hg, Option.bind_some, hw, e1, e2, v92 n x.1 names hf g1 hnm, v81, v80 n [_, _, _, _] (by simp [maxLen]) (by simp; omega)]
    have hch : chk (names.length + ([x.1] : List Txt).length) = some () := chk_ok (by unfold Lt at *; simp; omega)
    rw [hch]
    simp only [Option.bind_some]
    rw [ih (names ++ [x.1]) (by simp [hinv])]
    have e3 : firstErr [nameErrS x.1 names, unl (((x.2.1.length : Int) == nm) && ((x.2.2.length : Int) == nm)) 10, unl (!(x.2.1.any fun k => !inR k 0 (nc - 1))) 6, unl (!(x.2.2.any fun s => !nameOk s)) 4] = clsErr nm nc names x := rfl
    rw [e3]
    simp only [clsGo, bne]
    cases h : (clsErr nm nc names x == 0) <;> simp [h]
  · intro names hlt hinv again
    simp only [s37_l1, hlt, cond_false, clsGo]
    rfl

theorem clsGo_ok (nm nc : Int) : (l : List Cls) → (i : Nat) → (pre : List Txt) → ((clsGo nm nc i pre l).2 == 0) = true → clsGo nm nc i pre l = (0, 0)
  | [], _, _, _ => rfl
  | c :: r, i, pre, h => by
    simp only [clsGo] at h ⊢
    cases hc : (clsErr nm nc pre c == 0)
    · rw [hc] at h; simp only [cond_false] at h; rw [hc] at h; cases h
    · rw [hc] at h; exact clsGo_ok nm nc r _ _ h

theorem dec_gt0 {α : Type} (l : List α) : decide (((List.length l : Nat) : Int) > (0 : Int)) = decide (0 < l.length) := by simp
theorem dec_le {α : Type} (l : List α) (k : Nat) : decide (((List.length l : Nat) : Int) ≤ (k : Int)) = decide (l.length ≤ k) := by congr 1; simp
theorem dec_gt {α : Type} (l : List α) (k : Nat) : decide (((List.length l : Nat) : Int) > (k : Int)) = !decide (l.length ≤ k) := by
  by_cases h : l.length ≤ k
  · rw [decide_eq_true h, decide_eq_false]; rfl; omega
  · rw [decide_eq_false h, decide_eq_true]; rfl; omega
theorem beq_zero {α : Type} (l : List α) : (((List.length l : Nat) : Int) == (0 : Int)) = !decide (0 < l.length) := by
  cases l <;> simp
  omega

theorem lenPred {α : Type} {n : Nat} (hf : Fuel n) {l : List α} (h : Lt n l) : IntKind.wrap .i64 ((l.length : Int) - 1) = (l.length : Int) - 1 := by
  have := hf.hi
  unfold Lt at h
  rw [wrap_id] <;> omega

theorem v37 (n : Nat) (b : Book) (hf : Fuel n) (hb : fitB n b) : s37 n b = some (bookErr b) := by
  obtain ⟨h1, h2, h3, h4⟩ := hb
  have hlo := hf.lo
  unfold s37
  simp only [v81, Option.bind_some, v80 n [_, _] (by simp [maxLen]) (by simp; omega), dec_gt0]
  have e0 : firstErr [unl (decide (0 < b.1.length) && decide (0 < b.2.2.length)) (10 : Int), unl ((decide (((List.length b.1 : Nat) : Int) ≤ (6 : Int))) && (decide (((List.length b.2.2 : Nat) : Int) ≤ (8 : Int)))) (8 : Int)] = sizeErr b := by
    unfold sizeErr
    have a3 : decide (((List.length b.1 : Nat) : Int) ≤ (6 : Int)) = decide (b.1.length ≤ 6) := dec_le b.1 6
    have a4 : decide (((List.length b.2.2 : Nat) : Int) ≤ (8 : Int)) = decide (b.2.2.length ≤ 8) := dec_le b.2.2 8
    rw [a3, a4]
  rw [e0, v37_l0 n hf b.1 _ _ _ _ h1 h2]
  unfold bookErr
  simp only [bne, v93, Option.bind_some, lenPred hf h3]
  cases hs : (sizeErr b == 0)
  · rfl
  · cases hm : (marksGo [] b.1 == 0)
    · rfl
    · cases hi : inR b.2.1 0 ((b.2.2.length : Int) - 1)
      · rfl
      · simp only [Bool.not_true, cond_false, cond_true]
        rw [v37_l1 n hf _ (b.2.2.length : Int) _ (fun x => rfl) b.2.2 h3 h4]
        cases hc : ((clsGo (b.1.length : Int) (b.2.2.length : Int) 0 [] b.2.2).2 == 0)
        · rfl
        · rw [clsGo_ok _ _ _ _ _ hc]; rfl

end Go.Abs

set_option linter.unusedSimpArgs false
set_option linter.unusedVariables false
namespace Go.Abs
open Go

theorem v79 (n : Nat) (b : Book) (hf : Fuel n) (hb : fitB n b) : s79 n b = some (b, (bookErr b).2) := by
  unfold s79
  rw [show ((b.1, (b.2.1, b.2.2)) : Book) = b from rfl, v37 n b hf hb]
  rfl

def marksErr (b : Book) (l : List Int) : Int := firstErr [unl (decide (l.length ≤ 40)) 8, unl (!(l.any fun k => !inR k 0 ((b.1.length : Int) - 1))) 6]

theorem v99 (n : Nat) (b : Book) (l : List Int) (hf : Fuel n) (hb : Lt n b.1) (hl : Lt n l) : s99 n b l = some (marksErr b l) := by
  have hlo := hf.lo
  unfold s99
  have e1 : s94 n l (fun y0 => s132 n y0 (b.1, (b.2.1, b.2.2))) = some (l.any fun k => !inR k 0 ((b.1.length : Int) - 1)) := by
    refine v94 n _ _ _ (fun k _ => ?_) (hf.le hl) hl
    simp [s132, v82, lenPred hf hb]
  rw [e1]
  simp only [Option.bind_some, v81, v80 n [_, _] (by simp [maxLen]) (by simp; omega)]
  have : decide (((List.length l : Nat) : Int) ≤ (40 : Int)) = decide (l.length ≤ 40) := dec_le l 40
  rw [this]
  rfl

def sheetErr (b : Book) (s : Txt × List Int) : Int := firstErr [unl (nameOk s.1) 4, marksErr b s.2]

theorem v104 (n : Nat) (b : Book) (s : Txt × List Int) (hf : Fuel n) (hb : fitB n b) (h1 : Lt n s.1) (h2 : Lt n s.2) :
    s104 n b s = some (b, bif (bookErr b).2 == 0 then sheetErr b s else (bookErr b).2) := by
  have hlo := hf.lo
  unfold s104
  rw [show ((b.1, (b.2.1, b.2.2)) : Book) = b from rfl, v79 n b hf hb]
  simp only [Option.bind_some, bne, v98 n s.1 (hf.le h1) h1]
  cases h : ((bookErr b).2 == 0)
  · rfl
  · simp only [Bool.not_true, cond_false, v81, Option.bind_some, cond_true]
    rw [show ((b.1, b.2.1, b.2.2) : Book) = b from rfl, v99 n b s.2 hf hb.1 h2]
    simp only [Option.bind_some, v80 n [_, _] (by simp [maxLen]) (by simp; omega)]
    rfl

/-- The classes that a right walk comes to. -/
def stepTo (cs : List Cls) (k m : Int) : Option Int := (geti cs k).bind fun c => geti c.2.1 m
def walkO (cs : List Cls) : Int → List Int → Option (List Int)
  | k, [] => some [k]
  | k, m :: r => (stepTo cs k m).bind fun k' => (walkO cs k' r).map (k :: ·)

theorem walkO_ne {cs : List Cls} : {l : List Int} → {k : Int} → {w : List Int} → walkO cs k l = some w → ∃ r, w = k :: r ∧ r.length = l.length
  | [], k, w, h => by cases h; exact ⟨[], rfl, rfl⟩
  | m :: l, k, w, h => by
    simp only [walkO] at h
    cases hk : stepTo cs k m with
    | none => rw [hk] at h; cases h
    | some k' =>
      rw [hk] at h
      cases hw : walkO cs k' l with
      | none => simp [hw] at h
      | some w' =>
        simp [hw] at h
        obtain ⟨r, rfl, h2⟩ := walkO_ne hw
        exact ⟨k' :: r, h.symm, by simp [h2]⟩

theorem v100 (n : Nat) (b : Book) (l : List Int) (w : List Int) (hf : Fuel n) (hl : l.length + 1 < n) (hw : walkO b.2.2 b.2.1 l = some w) : s100 n b l = some w := by
  have hhi := hf.hi
  have hll : Lt n l := by unfold Lt; omega
  unfold s100
  refine (list_loop (A := List Int × Int) l (fun i a => (l, (l.length : Int), (i : Int), b.1, b.2.1, b.2.2, a.1 ++ [a.2], ())) (fun i a r => (walkO b.2.2 a.2 r).map (a.1 ++ ·)) (fun i a => a.1.length = i) (hf.le hll) ?_ ?_ ([], b.2.1) rfl hll).trans ?_
  · rintro i ⟨pre, k⟩ x r hi hx hd hg hlt hw' hinv again ih
    have hlen : IntKind.wrap .i64 (((pre ++ [k]).length : Nat) - (1 : Int)) = ((pre.length : Nat) : Int) := by
      have h1 : pre.length = i := hinv
      rw [List.length_append, List.length_singleton, wrap_id] <;> omega
    have hlast : geti (pre ++ [k]) ((pre.length : Nat) : Int) = some k := by rw [geti_nat]; simp
    simp only [s100_l0, hlt, cond_true, hg, Option.bind_some, hw', hlen, hlast]
    simp only [walkO, stepTo]
    cases hc : geti b.2.2 k with
    | none => rfl
    | some c =>
      simp only [Option.bind_some]
      cases hm : geti c.2.1 x with
      | none => rfl
      | some k' =>
        have h1 : pre.length = i := hinv
        have hch : chk ((pre ++ [k]).length + ([k'] : List Int).length) = some () := chk_ok (by simp; omega)
        simp only [Option.bind_some, hch]
        rw [ih (pre ++ [k], k') (by simp [h1])]
        simp [Option.map_map, Function.comp_def]
  · rintro ⟨pre, k⟩ hlt hinv again
    simp only [s100_l0, hlt, cond_false, walkO]
    rfl
  · rw [hw]; rfl

/-! The reference. -/
theorem v103_l0 (n : Nat) (hf : Fuel n) (b0 : List Txt) (b1 : Int) (cs : List Cls) (c : Cls) (i : Nat) (hi : i ≤ cs.length) (hc : Lt n cs)
    (k0 : List Txt × Int × List Cls × Txt × List Int × List Txt × Unit → Option Int) (k1 : Int × Unit → Option Int) :
    loopG (s103_l0 n) n ((i : Int), (0 : Int), b0, b1, cs, c.1, c.2.1, c.2.2, ()) (k0, k1, ()) =
      bif ((cs.take i).any fun d => d.1 == c.1) then k1 (5, ()) else k0 (b0, b1, cs, c.1, c.2.1, c.2.2, ()) := by
  have hlen : (cs.take i).length = i := by simp; omega
  have h1 : Lt n (cs.take i) := by unfold Lt at *; omega
  refine (list_loop0 (cs.take i) (fun k => ((i : Int), (k : Int), b0, b1, cs, c.1, c.2.1, c.2.2, ())) (fun _ r => bif (r.any fun d => d.1 == c.1) then k1 (5, ()) else k0 (b0, b1, cs, c.1, c.2.1, c.2.2, ())) (hf.le h1) ?_ ?_ h1)
  · intro k x r hk hx hd hg hlt hw again ih
    rw [hlen] at hlt hk
    have hg' : geti cs (k : Int) = some x := by
      rw [geti_nat] at hg ⊢
      rw [List.getElem?_take_of_lt hk] at hg
      exact hg
    simp only [s103_l0, hlt, cond_true, hg', Option.bind_some, hw, ih, List.any_cons]
    cases h : (x.1 == c.1) <;> simp [h]
  · intro hlt again
    rw [hlen] at hlt ⊢
    simp only [s103_l0, hlt, cond_false]
    rfl

theorem v103_l1 (n : Nat) (hf : Fuel n) (b0 : List Txt) (b1 : Int) (cs : List Cls) (c : Cls) (hc : Lt n cs) (h1 : Lt n c.2.1)
    (k0 : Txt × List Int × List Txt × Unit → Option Int) (k1 : Int × Unit → Option Int) :
    loopG (s103_l1 n) n ((0 : Int), b0, b1, cs, c.1, c.2.1, c.2.2, ()) (k0, k1, ()) =
      bif (c.2.1.any fun k => !inR k 0 ((cs.length : Int) - 1)) then k1 (6, ()) else k0 (c.1, c.2.1, c.2.2, ()) := by
  refine (list_loop0 c.2.1 (fun k => ((k : Int), b0, b1, cs, c.1, c.2.1, c.2.2, ())) (fun _ r => bif (r.any fun k => !inR k 0 ((cs.length : Int) - 1)) then k1 (6, ()) else k0 (c.1, c.2.1, c.2.2, ())) (hf.le h1) ?_ ?_ h1)
  · intro k x r hk hx hd hg hlt hw again ih
    simp only [s103_l1, hlt, cond_true, hg, Option.bind_some, hw, ih, List.any_cons, v19, lenPred hf hc]
    cases h : (inR x 0 ((cs.length : Int) - 1)) <;> simp [h]
  · intro hlt again
    simp only [s103_l1, hlt, cond_false]
    rfl

theorem v103_l2 (n : Nat) (hf : Fuel n) (c : Cls) (h1 : Lt n c.2.2) (h2 : ∀ s ∈ c.2.2, Lt n s)
    (k0 : Unit → Option Int) (k1 : Int × Unit → Option Int) :
    loopG (s103_l2 n) n ((0 : Int), c.1, c.2.1, c.2.2, ()) (k0, k1, ()) =
      bif (c.2.2.any fun s => !nameOk s) then k1 (4, ()) else k0 () := by
  refine (list_loop0 c.2.2 (fun k => ((k : Int), c.1, c.2.1, c.2.2, ())) (fun _ r => bif (r.any fun s => !nameOk s) then k1 (4, ()) else k0 ()) (hf.le h1) ?_ ?_ h1)
  · intro k x r hk hx hd hg hlt hw again ih
    have hs := h2 x (List.mem_of_getElem? hx)
    simp only [s103_l2, hlt, cond_true, hg, Option.bind_some, hw, ih, List.any_cons, v101 n x (hf.le hs) hs]
    cases h : nameOk x <;> simp [h]
  · intro hlt again
    simp only [s103_l2, hlt, cond_false]
    rfl

theorem any_flip {α : Type} (l : List α) (f : α → Txt) (c : Txt) : (l.any fun d => f d == c) = (l.map f).any fun x => c == x := by
  rw [List.any_map]
  congr 1
  funext d
  exact BEq.comm

theorem ne_and (a b c : Int) : ((a != c) || (b != c)) = !((a == c) && (b == c)) := by
  simp only [bne, Bool.not_and]

theorem v103 (n : Nat) (hf : Fuel n) (b : Book) (hb : fitB n b) (i : Nat) (c : Cls) (hc : b.2.2[i]? = some c) :
    s103 n b (i : Int) = some (clsErr b.1.length b.2.2.length ((b.2.2.take i).map (·.1)) c) := by
  obtain ⟨h1, h2, h3, h4⟩ := hb
  obtain ⟨g1, g2, g3, g4⟩ := h4 c (List.mem_of_getElem? hc)
  have hi : i < b.2.2.length := (List.getElem?_eq_some_iff.1 hc).1
  unfold s103
  rw [geti_nat, hc]
  simp only [Option.bind_some, v101 n c.1 (hf.le g1) g1]
  rw [v103_l0 n hf b.1 b.2.1 b.2.2 c i (by omega) h3]
  simp only [v103_l1 n hf b.1 b.2.1 b.2.2 c h3 g2, v103_l2 n hf c g3 g4, any_flip, ne_and]
  unfold clsErr nameErrS
  cases h5 : nameOk c.1
  · rfl
  · cases h6 : ((b.2.2.take i).map (·.1)).any fun x => c.1 == x
    · cases h7 : (((c.2.1.length : Int) == (b.1.length : Int)) && ((c.2.2.length : Int) == (b.1.length : Int)))
      · rfl
      · cases h8 : c.2.1.any fun k => !inR k 0 ((b.2.2.length : Int) - 1)
        · cases h9 : c.2.2.any fun s => !nameOk s <;> rfl
        · rfl
    · rfl

theorem v39_l0 (n : Nat) (hf : Fuel n) (marks : List Txt) (b1 : Int) (b2 : List Cls) (h1 : Lt n marks) (h2 : ∀ s ∈ marks, Lt n s)
    (k0 : List Txt × Int × List Cls × Unit → Option (Int × Int)) (k1 : Int × Int × Unit → Option (Int × Int)) :
    loopG (s39_l0 n) n ((0 : Int), marks, b1, b2, ()) (k0, k1, ()) =
      bif marksGo [] marks == 0 then k0 (marks, b1, b2, ()) else k1 (0, marksGo [] marks, ()) := by
  refine (list_loop0 marks (fun i => ((i : Int), marks, b1, b2, ())) (fun i r => bif marksGo (marks.take i) r == 0 then k0 (marks, b1, b2, ()) else k1 (0, marksGo (marks.take i) r, ())) (hf.le h1) ?_ ?_ h1)
  · intro i x r hi hx hd hg hlt hw again ih
    have hx' := h2 x (List.mem_of_getElem? hx)
    have htk : Lt n (marks.take i) := by unfold Lt at *; simp; omega
    have ht : marks.take (i + 1) = marks.take i ++ [x] := by rw [List.take_add_one, hx]; rfl
    simp only [s39_l0, hlt, cond_true, hg, Option.bind_some, hw, ih, cut_zero marks i (by omega), v101 n x (hf.le hx') hx', v102 n (marks.take i) x (hf.le htk) htk, ht, marksGo, nameErrS]
    cases h5 : nameOk x
    · rfl
    · cases h6 : (marks.take i).any fun y => x == y <;> rfl
  · intro hlt again
    simp only [s39_l0, hlt, cond_false, marksGo]
    rfl

theorem v39_l1 (n : Nat) (hf : Fuel n) (b : Book) (hb : fitB n b)
    (k0 : Unit → Option (Int × Int)) (k1 : Int × Int × Unit → Option (Int × Int)) :
    loopG (s39_l1 n) n ((0 : Int), b.1, b.2.1, b.2.2, ()) (k0, k1, ()) =
      bif (clsGo b.1.length b.2.2.length 0 [] b.2.2).2 == 0 then k0 () else k1 ((clsGo b.1.length b.2.2.length 0 [] b.2.2).1, (clsGo b.1.length b.2.2.length 0 [] b.2.2).2, ()) := by
  have h3 := hb.2.2.1
  refine (list_loop0 b.2.2 (fun i => ((i : Int), b.1, b.2.1, b.2.2, ())) (fun i r => bif (clsGo b.1.length b.2.2.length i ((b.2.2.take i).map (·.1)) r).2 == 0 then k0 () else k1 ((clsGo b.1.length b.2.2.length i ((b.2.2.take i).map (·.1)) r).1, (clsGo b.1.length b.2.2.length i ((b.2.2.take i).map (·.1)) r).2, ())) (hf.le h3) ?_ ?_ h3)
  · intro i x r hi hx hd hg hlt hw again ih
    have hc := v103 n hf b hb i x hx
    have ht : ((b.2.2.take (i + 1)).map (·.1)) = (b.2.2.take i).map (·.1) ++ [x.1] := by rw [List.take_add_one, hx]; simp
    simp only [s39_l1, hlt, cond_true, Option.bind_some, hw, ih, hc, ht, clsGo, bne]
    cases h : (clsErr b.1.length b.2.2.length ((b.2.2.take i).map (·.1)) x == 0) <;> simp only [h, cond_false, cond_true, Bool.not_false, Bool.not_true]
  · intro hlt again
    simp only [s39_l1, hlt, cond_false, clsGo]
    rfl

theorem v39 (n : Nat) (b : Book) (hf : Fuel n) (hb : fitB n b) : s39 n b = some (bookErr b) := by
  have hb' := hb
  obtain ⟨h1, h2, h3, h4⟩ := hb
  unfold s39
  rw [v39_l0 n hf b.1 b.2.1 b.2.2 h1 h2]
  have a3 : decide (((List.length b.1 : Nat) : Int) > (6 : Int)) = !decide (b.1.length ≤ 6) := dec_gt b.1 6
  have a4 : decide (((List.length b.2.2 : Nat) : Int) > (8 : Int)) = !decide (b.2.2.length ≤ 8) := dec_gt b.2.2 8
  simp only [v39_l1 n hf b hb', v19, lenPred hf h3, Option.bind_some, beq_zero, a3, a4]
  unfold bookErr sizeErr
  cases z1 : decide (0 < b.1.length)
  · rfl
  · cases z2 : decide (0 < b.2.2.length)
    · rfl
    · cases z3 : decide (b.1.length ≤ 6)
      · rfl
      · cases z4 : decide (b.2.2.length ≤ 8)
        · rfl
        · simp only [Bool.not_true, Bool.or_false, cond_false]
          cases hm : (marksGo [] b.1 == 0)
          · rfl
          · cases hi : inR b.2.1 0 ((b.2.2.length : Int) - 1)
            · rfl
            · cases hc : ((clsGo (b.1.length : Int) (b.2.2.length : Int) 0 [] b.2.2).2 == 0)
              · rfl
              · rw [clsGo_ok _ _ _ _ _ hc]; rfl

theorem v17 (n : Nat) (b : Book) (hf : Fuel n) (hb : fitB n b) : s17 n b = some (bookErr b).2 := by
  unfold s17
  rw [show ((b.1, (b.2.1, b.2.2)) : Book) = b from rfl, v39 n b hf hb]
  rfl

end Go.Abs

set_option linter.unusedSimpArgs false
set_option linter.unusedVariables false
namespace Go.Abs
open Go

def fewC (c : Cls) : Bool := !((!decide (c.1.length ≤ 20) || !decide (c.2.1.length ≤ 8)) || !decide (c.2.2.length ≤ 8)) && !(c.2.2.any fun s => !decide (s.length ≤ 20))
def fewB (b : Book) : Bool :=
  bif !decide (b.1.length ≤ 8) || !decide (b.2.2.length ≤ 10) then false
  else !(b.1.any fun s => !decide (s.length ≤ 20)) && !(b.2.2.any fun c => !fewC c)

theorem v16_l0 (n : Nat) (hf : Fuel n) (l : List Txt) (b1 : Int) (b2 : List Cls) (h1 : Lt n l)
    (k0 : List Txt × Int × List Cls × Unit → Option Bool) (k1 : Bool × Unit → Option Bool) :
    loopG (s16_l0 n) n ((0 : Int), l, b1, b2, ()) (k0, k1, ()) =
      bif (l.any fun s => !decide (s.length ≤ 20)) then k1 (false, ()) else k0 (l, b1, b2, ()) := by
  refine (list_loop0 l (fun i => ((i : Int), l, b1, b2, ())) (fun i r => bif (r.any fun s => !decide (s.length ≤ 20)) then k1 (false, ()) else k0 (l, b1, b2, ())) (hf.le h1) ?_ ?_ h1)
  · intro i x r hi hx hd hg hlt hw again ih
    have a1 : decide (((List.length x : Nat) : Int) > (20 : Int)) = !decide (x.length ≤ 20) := dec_gt x 20
    simp only [s16_l0, hlt, cond_true, hg, Option.bind_some, hw, ih, a1, List.any_cons]
    cases h : decide (x.length ≤ 20) <;> rfl
  · intro hlt again
    simp only [s16_l0, hlt, cond_false]
    rfl

theorem v16_l1_0 (n : Nat) (hf : Fuel n) (i : Int) (l : List Txt) (b1 : Int) (b2 : List Cls) (c : Cls) (h1 : Lt n c.2.2)
    (k0 : Int × List Txt × Int × List Cls × Unit → Option Bool) (k1 : Bool × Unit → Option Bool) :
    loopG (s16_l1_0 n) n (i, (0 : Int), l, b1, b2, c.1, c.2.1, c.2.2, ()) (k0, k1, ()) =
      bif (c.2.2.any fun s => !decide (s.length ≤ 20)) then k1 (false, ()) else k0 (i, l, b1, b2, ()) := by
  refine (list_loop0 c.2.2 (fun k => (i, (k : Int), l, b1, b2, c.1, c.2.1, c.2.2, ())) (fun _ r => bif (r.any fun s => !decide (s.length ≤ 20)) then k1 (false, ()) else k0 (i, l, b1, b2, ())) (hf.le h1) ?_ ?_ h1)
  · intro k x r hi hx hd hg hlt hw again ih
    have a1 : decide (((List.length x : Nat) : Int) > (20 : Int)) = !decide (x.length ≤ 20) := dec_gt x 20
    simp only [s16_l1_0, hlt, cond_true, hg, Option.bind_some, hw, ih, a1, List.any_cons]
    cases h : decide (x.length ≤ 20) <;> rfl
  · intro hlt again
    simp only [s16_l1_0, hlt, cond_false]
    rfl

theorem v16_l1 (n : Nat) (hf : Fuel n) (l : List Txt) (b1 : Int) (cs : List Cls) (h1 : Lt n cs)
    (k0 : Unit → Option Bool) (k1 : Bool × Unit → Option Bool) :
    loopG (s16_l1 n) n ((0 : Int), l, b1, cs, ()) (k0, k1, ()) =
      bif (cs.any fun c => !fewC c) then k1 (false, ()) else k0 () := by
  have hlo := hf.lo
  refine (list_loop0 cs (fun k => ((k : Int), l, b1, cs, ())) (fun _ r => bif (r.any fun c => !fewC c) then k1 (false, ()) else k0 ()) (hf.le h1) ?_ ?_ h1)
  · intro k x r hi hx hd hg hlt hw again ih
    have a1 : decide (((List.length x.1 : Nat) : Int) > (20 : Int)) = !decide (x.1.length ≤ 20) := dec_gt x.1 20
    have a2 : decide (((List.length x.2.1 : Nat) : Int) > (8 : Int)) = !decide (x.2.1.length ≤ 8) := dec_gt x.2.1 8
    have a3 : decide (((List.length x.2.2 : Nat) : Int) > (8 : Int)) = !decide (x.2.2.length ≤ 8) := dec_gt x.2.2 8
    simp only [s16_l1, hlt, cond_true, hg, Option.bind_some, hw, ih, a1, a2, a3, List.any_cons, fewC]
    cases h : ((!decide (x.1.length ≤ 20) || !decide (x.2.1.length ≤ 8)) || !decide (x.2.2.length ≤ 8))
    · have h3 : x.2.2.length ≤ 8 := by
        simp only [Bool.or_eq_false_iff, Bool.not_eq_false', decide_eq_true_eq] at h
        exact h.2
      simp only [cond_false]
      rw [v16_l1_0 n hf k l b1 cs x (by unfold Lt; omega), hw, ih]
      cases h4 : x.2.2.any fun s => !decide (s.length ≤ 20) <;> rfl
    · rfl
  · intro hlt again
    simp only [s16_l1, hlt, cond_false]
    rfl

theorem v16 (n : Nat) (b : Book) (hf : Fuel n) : s16 n b = some (fewB b) := by
  have hlo := hf.lo
  unfold s16 fewB
  have a1 : decide (((List.length b.1 : Nat) : Int) > (8 : Int)) = !decide (b.1.length ≤ 8) := dec_gt b.1 8
  have a2 : decide (((List.length b.2.2 : Nat) : Int) > (10 : Int)) = !decide (b.2.2.length ≤ 10) := dec_gt b.2.2 10
  rw [a1, a2]
  cases h : (!decide (b.1.length ≤ 8) || !decide (b.2.2.length ≤ 10))
  · simp only [Bool.or_eq_false_iff, Bool.not_eq_false', decide_eq_true_eq] at h
    simp only [cond_false]
    rw [v16_l0 n hf b.1 _ _ (by unfold Lt; omega)]
    simp only [v16_l1 n hf b.1 b.2.1 b.2.2 (by unfold Lt; omega)]
    cases h1 : b.1.any fun s => !decide (s.length ≤ 20)
    · cases h2 : b.2.2.any fun c => !fewC c <;> rfl
    · rfl
  · rfl

theorem any_false {α : Type} {l : List α} {p : α → Bool} (h : l.any p = false) : ∀ x ∈ l, p x = false := by
  intro x hx
  exact Bool.eq_false_iff.2 fun he => by
    rw [List.any_eq_true.2 ⟨x, hx, he⟩] at h
    cases h

/-- A small one fits. -/
theorem few_fit {b : Book} (h : fewB b = true) {n : Nat} (hf : Fuel n) : fitB n b ∧ b.1.length ≤ 8 ∧ b.2.2.length ≤ 10 := by
  have hlo := hf.lo
  unfold fewB at h
  cases h1 : (!decide (b.1.length ≤ 8) || !decide (b.2.2.length ≤ 10))
  · rw [h1] at h
    simp only [cond_false, Bool.and_eq_true, Bool.not_eq_true'] at h
    simp only [Bool.or_eq_false_iff, Bool.not_eq_false', decide_eq_true_eq] at h1
    refine ⟨⟨by unfold Lt; omega, fun s hs => ?_, by unfold Lt; omega, fun c hc => ?_⟩, h1⟩
    · have := any_false h.1 s hs
      simp only [Bool.not_eq_false', decide_eq_true_eq] at this
      unfold Lt; omega
    · have := any_false h.2 c hc
      simp only [Bool.not_eq_false', fewC, Bool.and_eq_true, Bool.not_eq_true', Bool.or_eq_false_iff, decide_eq_true_eq] at this
      obtain ⟨⟨⟨g1, g2⟩, g3⟩, g4⟩ := this
      refine ⟨by unfold Lt; omega, by unfold Lt; omega, by unfold Lt; omega, fun s hs => ?_⟩
      have := any_false g4 s hs
      simp only [Bool.not_eq_false', decide_eq_true_eq] at this
      unfold Lt; omega
  · rw [h1] at h
    cases h

/-! Copies. -/
theorem v27 (n : Nat) (l : List Int) (hf : Fuel n) (h : Lt n l) : s27 n l = some l := by
  have := hf.hi
  unfold s27
  rw [chk_ok (by unfold Lt at h; simp; omega)]
  rfl
theorem v84 (n : Nat) (l : List Txt) (hf : Fuel n) (h : Lt n l) : s84 n l = some l := by
  have := hf.hi
  unfold s84
  rw [chk_ok (by unfold Lt at h; simp; omega)]
  rfl

theorem v21 (n : Nat) (b : Book) (hf : Fuel n) (hb : fitB n b) : s21 n b = some b := by
  have hhi := hf.hi
  obtain ⟨h1, h2, h3, h4⟩ := hb
  unfold s21
  rw [v84 n b.1 hf h1, Option.bind_some]
  refine (list_loop (A := List Cls) b.2.2 (fun i acc => ((i : Int), b.1, b.2.1, b.2.2, (0 : Int), b.1, b.2.1, acc, ())) (fun i acc r => some (b.1, b.2.1, acc ++ r)) (fun i acc => acc.length = i) (hf.le h3) ?_ ?_ [] rfl h3).trans ?_
  · intro i acc x r hi hx hd hg hlt hw hinv again ih
    obtain ⟨g1, g2, g3, g4⟩ := h4 x (List.mem_of_getElem? hx)
    have hch : chk (acc.length + ([(x.1, (x.2.1, x.2.2))] : List Cls).length) = some () := chk_ok (by unfold Lt at *; simp; omega)
    simp only [s21_l0, hlt, cond_true, hg, Option.bind_some, hw, v27 n _ hf g2, v84 n _ hf g3, hch]
    rw [ih (acc ++ [x]) (by simp [hinv])]
    simp
  · intro acc hlt hinv again
    simp only [s21_l0, hlt, cond_false, List.append_nil]
  · rfl

/-! The class of a sheet, the walk of marks. -/
def lastI (l : List Int) : Int := l.getLastD 0

theorem geti_last {l : List Int} {n : Nat} (hf : Fuel n) (h1 : Lt n l) (hne : l ≠ []) : geti l (IntKind.wrap .i64 ((l.length : Int) - 1)) = some (lastI l) := by
  have hpos : 0 < l.length := List.length_pos_iff.2 hne
  rw [cast_pred hpos (hf.le h1), geti_nat]
  unfold lastI
  rw [List.getLastD_eq_getLast?, List.getLast?_eq_getElem?, List.getElem?_eq_getElem (by omega)]
  rfl

theorem v41_ok (n : Nat) (b : Book) (s : Txt × List Int) (w : List Int) (c : Cls) (hf : Fuel n) (hb : fitB n b) (h1 : Lt n s.1) (h2 : s.2.length + 1 < n)
    (he : (bookErr b).2 = 0) (hs : sheetErr b s = 0) (hw : walkO b.2.2 b.2.1 s.2 = some w) (hc : geti b.2.2 (lastI w) = some c) : s41 n b s = some (c.1, 0) := by
  have hl : Lt n s.2 := by unfold Lt; omega
  obtain ⟨r, hr, hlen⟩ := walkO_ne hw
  unfold s41
  rw [show ((b.1, (b.2.1, b.2.2)) : Book) = b from rfl, show ((s.1, s.2) : Txt × List Int) = s from rfl, v104 n b s hf hb h1 hl, he]
  simp only [Option.bind_some, hs, bne, beq_self_eq_true, cond_true, Bool.not_true, cond_false]
  rw [show ((b.1, b.2.1, b.2.2) : Book) = b from rfl, v100 n b s.2 w hf h2 hw]
  simp only [Option.bind_some]
  rw [geti_last hf (by rw [hr]; unfold Lt; simp; omega) (by rw [hr]; simp), Option.bind_some, hc]
  rfl

theorem v41_bad (n : Nat) (b : Book) (s : Txt × List Int) (hf : Fuel n) (hb : fitB n b) (h1 : Lt n s.1) (h2 : Lt n s.2)
    (he : ((bif (bookErr b).2 == 0 then sheetErr b s else (bookErr b).2) == 0) = false) : s41 n b s = some ([], bif (bookErr b).2 == 0 then sheetErr b s else (bookErr b).2) := by
  unfold s41
  rw [show ((b.1, (b.2.1, b.2.2)) : Book) = b from rfl, show ((s.1, s.2) : Txt × List Int) = s from rfl, v104 n b s hf hb h1 h2]
  simp only [Option.bind_some, bne, he, Bool.not_false, cond_true]

/-! What it means that there is no error. -/
theorem firstErr_zero : {l : List Int} → firstErr l = 0 ↔ ∀ e ∈ l, e = 0
  | [] => by simp [firstErr]
  | e :: r => by
    simp only [firstErr]
    cases h : (e == 0)
    · have : e ≠ 0 := by simpa using h
      simp [this]
    · have : e = 0 := by simpa using h
      simp [this, firstErr_zero (l := r)]

theorem unl_zero {b : Bool} {e : Int} (he : e ≠ 0) : unl b e = 0 ↔ b = true := by
  cases b <;> simp [unl, he]

theorem inR_iff {x lo hi : Int} : inR x lo hi = true ↔ lo ≤ x ∧ x ≤ hi := by simp [inR]

theorem clsErr_zero {nm nc : Int} {pre : List Txt} {c : Cls} (h : clsErr nm nc pre c = 0) : (c.2.1.length : Int) = nm ∧ (c.2.2.length : Int) = nm ∧ (∀ k ∈ c.2.1, 0 ≤ k ∧ k < nc) := by
  have := firstErr_zero.1 h
  simp only [List.mem_cons, List.not_mem_nil, or_false, forall_eq_or_imp, forall_eq, unl_zero (show (10 : Int) ≠ 0 by decide), unl_zero (show (6 : Int) ≠ 0 by decide)] at this
  obtain ⟨_, h2, h3, _⟩ := this
  simp only [Bool.and_eq_true, beq_iff_eq] at h2
  refine ⟨h2.1, h2.2, fun k hk => ?_⟩
  rw [Bool.not_eq_true'] at h3
  have := any_false h3 k hk
  rw [Bool.not_eq_false', inR_iff] at this
  omega

theorem clsGo_all {nm nc : Int} : {l : List Cls} → {i : Nat} → {pre : List Txt} → (clsGo nm nc i pre l).2 = 0 → ∀ c ∈ l, (c.2.1.length : Int) = nm ∧ (c.2.2.length : Int) = nm ∧ (∀ k ∈ c.2.1, 0 ≤ k ∧ k < nc)
  | [], _, _, _ => by simp
  | c :: r, i, pre, h => by
    simp only [clsGo] at h
    cases hc : (clsErr nm nc pre c == 0)
    · rw [hc] at h
      simp only [cond_false] at h
      rw [h] at hc
      cases hc
    · rw [hc] at h
      simp only [cond_true] at h
      intro d hd
      rcases List.mem_cons.1 hd with rfl | hd
      · exact clsErr_zero (by simpa using hc)
      · exact clsGo_all h d hd

structure GoodB (b : Book) : Prop where
  marks : 0 < b.1.length ∧ b.1.length ≤ 6
  classes : 0 < b.2.2.length ∧ b.2.2.length ≤ 8
  begin' : 0 ≤ b.2.1 ∧ b.2.1 < b.2.2.length
  next : ∀ c ∈ b.2.2, c.2.1.length = b.1.length ∧ c.2.2.length = b.1.length ∧ ∀ k ∈ c.2.1, 0 ≤ k ∧ k < (b.2.2.length : Int)

theorem bookErr_good {b : Book} (h : (bookErr b).2 = 0) : GoodB b := by
  unfold bookErr at h
  cases h1 : (sizeErr b == 0)
  · rw [h1] at h
    simp only [cond_false] at h
    rw [h] at h1
    cases h1
  · rw [h1] at h
    simp only [cond_true] at h
    cases h2 : (marksGo [] b.1 == 0)
    · rw [h2] at h
      simp only [cond_false] at h
      rw [h] at h2
      cases h2
    · rw [h2] at h
      simp only [cond_true] at h
      cases h3 : inR b.2.1 0 ((b.2.2.length : Int) - 1)
      · rw [h3] at h
        simp at h
      · rw [h3] at h
        simp only [cond_true] at h
        have hs : sizeErr b = 0 := by simpa using h1
        have := firstErr_zero.1 hs
        simp only [List.mem_cons, List.not_mem_nil, or_false, forall_eq_or_imp, forall_eq, unl_zero (show (10 : Int) ≠ 0 by decide), unl_zero (show (8 : Int) ≠ 0 by decide), Bool.and_eq_true, decide_eq_true_eq] at this
        have hb := inR_iff.1 h3
        refine ⟨⟨this.1.1, this.2.1⟩, ⟨this.1.2, this.2.2⟩, by omega, fun c hc => ?_⟩
        obtain ⟨g1, g2, g3⟩ := clsGo_all h c hc
        exact ⟨by omega, by omega, g3⟩

theorem GoodB.step {b : Book} (h : GoodB b) {k m : Int} (hk : 0 ≤ k ∧ k < b.2.2.length) (hm : 0 ≤ m ∧ m < b.1.length) : ∃ k', stepTo b.2.2 k m = some k' ∧ 0 ≤ k' ∧ k' < b.2.2.length := by
  unfold stepTo
  rw [geti_of hk.1 hk.2, Option.bind_some]
  obtain ⟨g1, g2, g3⟩ := h.next b.2.2[k.toNat] (List.getElem_mem _)
  rw [geti_of hm.1 (by rw [g1]; exact hm.2)]
  exact ⟨_, rfl, g3 _ (List.getElem_mem _)⟩

theorem GoodB.walk {b : Book} (h : GoodB b) : (l : List Int) → (∀ m ∈ l, 0 ≤ m ∧ m < (b.1.length : Int)) → (k : Int) → 0 ≤ k ∧ k < b.2.2.length → ∃ w, walkO b.2.2 k l = some w ∧ ∀ x ∈ w, 0 ≤ x ∧ x < (b.2.2.length : Int)
  | [], _, k, hk => ⟨[k], rfl, by simpa using hk⟩
  | m :: l, hl, k, hk => by
    obtain ⟨k', h1, h2⟩ := h.step hk (hl m (List.mem_cons_self ..))
    obtain ⟨w, h3, h4⟩ := h.walk l (fun x hx => hl x (List.mem_cons_of_mem _ hx)) k' h2
    refine ⟨k :: w, ?_, fun x hx => ?_⟩
    · simp only [walkO, h1, Option.bind_some, h3, Option.map_some]
    · rcases List.mem_cons.1 hx with rfl | hx
      · exact hk
      · exact h4 x hx

theorem marksErr_zero {b : Book} {l : List Int} : marksErr b l = 0 ↔ l.length ≤ 40 ∧ ∀ m ∈ l, 0 ≤ m ∧ m < (b.1.length : Int) := by
  unfold marksErr
  rw [firstErr_zero]
  simp only [List.mem_cons, List.not_mem_nil, or_false, forall_eq_or_imp, forall_eq, unl_zero (show (8 : Int) ≠ 0 by decide), unl_zero (show (6 : Int) ≠ 0 by decide), decide_eq_true_eq, Bool.not_eq_true']
  refine and_congr Iff.rfl ⟨fun h m hm => ?_, fun h => ?_⟩
  · have := any_false h m hm
    rw [Bool.not_eq_false', inR_iff] at this
    omega
  · refine Bool.eq_false_iff.2 fun he => ?_
    obtain ⟨x, hx, hx2⟩ := List.any_eq_true.1 he
    have := h x hx
    rw [Bool.not_eq_true'] at hx2
    have hh := inR_iff.2 (show 0 ≤ x ∧ x ≤ (b.1.length : Int) - 1 by omega)
    rw [hh] at hx2
    cases hx2

end Go.Abs

set_option linter.unusedSimpArgs false
set_option linter.unusedVariables false
namespace Go.Abs
open Go

abbrev Pan := Int × Int × List Int × List (List Int)
def fitP (n : Nat) (p : Pan) : Prop := Lt n p.2.2.1 ∧ Lt n p.2.2.2 ∧ ∀ t ∈ p.2.2.2, Lt n t

def tstErr (p : Pan) (l : List Int) : Int := firstErr [unl ((l.length : Int) == (p.2.2.1.length : Int)) 10, unl (!(l.any fun k => !inR k 0 (p.2.1 - 1))) 6]
def tstGo (p : Pan) : Nat → List (List Int) → Int × Int
  | _, [] => (0, 0)
  | i, l :: r => bif tstErr p l == 0 then tstGo p (i + 1) r else ((i : Int), tstErr p l)
def panErr0 (p : Pan) : Int := firstErr [unl (inR p.1 1 30 && inR p.2.1 1 6) 2, unl (decide (0 < p.2.2.1.length) && decide (0 < p.2.2.2.length)) 10,
  unl (decide (p.2.2.1.length ≤ 30) && decide (p.2.2.2.length ≤ 8)) 8, unl (!(p.2.2.1.any fun k => !inR k 0 (p.1 - 1))) 6]
def panErr (p : Pan) : Int × Int := bif panErr0 p == 0 then tstGo p 0 p.2.2.2 else (0, panErr0 p)

theorem tstGo_ok (p : Pan) : (l : List (List Int)) → (i : Nat) → ((tstGo p i l).2 == 0) = true → tstGo p i l = (0, 0)
  | [], _, _ => rfl
  | c :: r, i, h => by
    simp only [tstGo] at h ⊢
    cases hc : (tstErr p c == 0)
    · rw [hc] at h; simp only [cond_false] at h; rw [hc] at h; cases h
    · rw [hc] at h; exact tstGo_ok p r _ h

theorem v50_l0 (n : Nat) (hf : Fuel n) (p : Pan) (hp : fitP n p) (hm : IntKind.wrap .i64 (p.2.1 - 1) = p.2.1 - 1)
    (k0 : Unit → Option (Int × Int)) (k1 : Int × Int × Unit → Option (Int × Int)) :
    loopG (s50_l0 n) n (p, p.2.2.2, (p.2.2.2.length : Int), (0 : Int), ()) (k0, k1, ()) =
      bif (tstGo p 0 p.2.2.2).2 == 0 then k0 () else k1 ((tstGo p 0 p.2.2.2).1, (tstGo p 0 p.2.2.2).2, ()) := by
  obtain ⟨h1, h2, h3⟩ := hp
  have hlo := hf.lo
  refine (list_loop0 p.2.2.2 (fun i => (p, p.2.2.2, (p.2.2.2.length : Int), (i : Int), ())) (fun i r => bif (tstGo p i r).2 == 0 then k0 () else k1 ((tstGo p i r).1, (tstGo p i r).2, ())) (hf.le h2) ?_ ?_ h2)
  · intro i x r hi hx hd hg hlt hw again ih
    have hx' := h3 x (List.mem_of_getElem? hx)
    have e1 : s94 n x (fun y0 => s108 n y0 p) = some (x.any fun k => !inR k 0 (p.2.1 - 1)) := by
      refine v94 n _ _ _ (fun k _ => ?_) (hf.le hx') hx'
      simp [s108, v82, hm]
    simp only [s50_l0, hlt, cond_true, hg, Option.bind_some, hw, ih, e1, v81, v80 n [_, _] (by simp [maxLen]) (by simp; omega), tstGo, bne]
    have e2 : firstErr [unl (((List.length x : Nat) : Int) == ((List.length p.2.2.1 : Nat) : Int)) (10 : Int), unl (!(x.any fun k => !inR k 0 (p.2.1 - 1))) 6] = tstErr p x := rfl
    rw [e2]
    cases h : (tstErr p x == 0) <;> simp [h]
  · intro hlt again
    simp only [s50_l0, hlt, cond_false, tstGo]
    rfl

theorem v50 (n : Nat) (p : Pan) (hf : Fuel n) (hp : fitP n p) : s50 n p = some (panErr p) := by
  have hp' := hp
  obtain ⟨h1, h2, h3⟩ := hp
  have hlo := hf.lo
  unfold s50
  have e1 : s94 n p.2.2.1 (fun y0 => s107 n y0 (p.1, (p.2.1, (p.2.2.1, p.2.2.2)))) = some (p.2.2.1.any fun k => !inR k 0 (IntKind.wrap .i64 (p.1 - 1))) := by
    refine v94 n _ _ _ (fun k _ => ?_) (hf.le h1) h1
    simp [s107, v82]
  have a1 : decide (((List.length p.2.2.1 : Nat) : Int) ≤ (30 : Int)) = decide (p.2.2.1.length ≤ 30) := dec_le _ 30
  have a2 : decide (((List.length p.2.2.2 : Nat) : Int) ≤ (8 : Int)) = decide (p.2.2.2.length ≤ 8) := dec_le _ 8
  simp only [v82, Option.bind_some, e1, v81, v80 n [_, _, _, _] (by simp [maxLen]) (by simp; omega), a1, a2, dec_gt0]
  have hpart : ∀ b : Bool, part b (some (inR p.2.1 1 6)) false = some (b && inR p.2.1 1 6) := fun b => by cases b <;> rfl
  rw [hpart]
  simp only [Option.bind_some]
  have hand : (inR p.1 1 30 && (inR p.1 1 30 && inR p.2.1 1 6)) = (inR p.1 1 30 && inR p.2.1 1 6) := by cases inR p.1 1 30 <;> rfl
  rw [hand]
  unfold panErr panErr0
  cases c1 : inR p.1 1 30 && inR p.2.1 1 6
  · rfl
  · simp only [Bool.and_eq_true] at c1
    have hc := inR_iff.1 c1.1
    have hm := inR_iff.1 c1.2
    have w1 : IntKind.wrap .i64 (p.1 - 1) = p.1 - 1 := by rw [wrap_id] <;> omega
    have w2 : IntKind.wrap .i64 (p.2.1 - 1) = p.2.1 - 1 := by rw [wrap_id] <;> omega
    rw [w1]
    simp only [bne]
    cases c2 : (firstErr [unl true 2, unl (decide (0 < p.2.2.1.length) && decide (0 < p.2.2.2.length)) 10, unl (decide (p.2.2.1.length ≤ 30) && decide (p.2.2.2.length ≤ 8)) 8, unl (!(p.2.2.1.any fun k => !inR k 0 (p.1 - 1))) 6] == 0)
    · rfl
    · simp only [Bool.not_true, cond_false, cond_true]
      rw [show ((p.1, p.2.1, p.2.2.1, p.2.2.2) : Pan) = p from rfl, v50_l0 n hf p hp' w2]
      cases c3 : ((tstGo p 0 p.2.2.2).2 == 0)
      · rfl
      · rw [tstGo_ok _ _ _ c3]; rfl

theorem v89 (n : Nat) (p : Pan) (hf : Fuel n) (hp : fitP n p) : s89 n p = some (p, (panErr p).2) := by
  unfold s89
  rw [show ((p.1, (p.2.1, (p.2.2.1, p.2.2.2))) : Pan) = p from rfl, v50 n p hf hp]
  rfl

/-! The reference: tasters of a wrong length are never looked through. -/
def fitQ (n : Nat) (p : Pan) : Prop := Lt n p.2.2.1 ∧ Lt n p.2.2.2
theorem fitP.q {n : Nat} {p : Pan} (h : fitP n p) : fitQ n p := ⟨h.1, h.2.1⟩
/-! Copies. -/
theorem v32 (n : Nat) (a b : List Int) (hf : Fuel n) (h : Lt n a) : s32 n a b = some (a == b) := by
  unfold s32
  cases c : (((List.length a : Nat) : Int) == ((List.length b : Nat) : Int))
  · have hne : a ≠ b := by
      rintro rfl
      simp at c
    simp only [bne, c, Bool.not_false, cond_true]
    rw [(by simpa using hne : (a == b) = false)]
  · have hlen' : (a.length : Int) = (b.length : Int) := by simpa using c
    have hlen : a.length = b.length := by omega
    simp only [bne, c, Bool.not_true, cond_false]
    refine (list_loop0 a (fun i => (a, b, (i : Int), ())) (fun i r => some (r == b.drop i)) (hf.le h) ?_ ?_ h).trans (by simp)
    · intro i x r hi hx hd hg hlt hw again ih
      have hb : b[i]? = some b[i] := List.getElem?_eq_getElem (by omega)
      have hgb : geti b (i : Int) = some b[i] := by rw [geti_nat, hb]
      have hdb : b.drop i = b[i] :: b.drop (i + 1) := List.drop_eq_getElem_cons (by omega)
      simp only [s32_l0, hlt, cond_true, hg, hgb, Option.bind_some, hw, ih, bne]
      rw [hdb, List.cons_beq_cons]
      cases h : (x == b[i]) <;> rfl
    · intro hlt again
      simp only [s32_l0, hlt, cond_false]
      rw [hlen, List.drop_length]
      rfl

end Go.Abs

set_option linter.unusedSimpArgs false
set_option linter.unusedVariables false
namespace Go.Abs
open Go

/-- A list of numbers, by place. -/
def tab (M : Nat) (f : Nat → Nat) : List Int := (List.range M).map fun m => ((f m : Nat) : Int)
theorem tab_len (M : Nat) (f : Nat → Nat) : (tab M f).length = M := by simp [tab]
theorem tab_get {M : Nat} {f : Nat → Nat} {i : Nat} (h : i < M) : geti (tab M f) (i : Int) = some ((f i : Nat) : Int) := by
  rw [geti_nat]; simp [tab, h]
theorem tab_set {M : Nat} {f : Nat → Nat} {i v : Nat} (h : i < M) : seti (tab M f) (i : Int) (v : Int) = some (tab M fun m => if m = i then v else f m) := by
  rw [seti_nat _ _ _ (by rw [tab_len]; exact h)]
  congr 1
  apply List.ext_getElem
  · simp [tab]
  · intro j h1 h2
    simp only [tab, List.getElem_set, List.getElem_map, List.getElem_range]
    by_cases hj : i = j
    · subst hj; simp
    · rw [if_neg hj, if_neg (fun e => hj e.symm)]
theorem tab_ext {M : Nat} {f g : Nat → Nat} (h : ∀ m, m < M → f m = g m) : tab M f = tab M g := by
  unfold tab
  apply List.map_congr_left
  intro m hm
  rw [h m (by simpa using hm)]
theorem tab_zero (M : Nat) : List.replicate M (0 : Int) = tab M fun _ => 0 := by
  apply List.ext_getElem <;> simp [tab]

/-- How often a mark is given to a cask's glasses. -/
def cntZ (cask : Int) (m : Nat) : List Int → List Int → Nat
  | g :: gs, x :: xs => (if g = cask ∧ x = (m : Int) then 1 else 0) + cntZ cask m gs xs
  | _, _ => 0
theorem cntZ_le (cask : Int) (m : Nat) : (gs xs : List Int) → cntZ cask m gs xs ≤ gs.length
  | g :: gs, x :: xs => by
    have := cntZ_le cask m gs xs
    simp only [cntZ, List.length_cons]
    split <;> omega
  | [], _ => by simp [cntZ]
  | _ :: _, [] => by simp [cntZ]

/-- The taster's marks. -/
def tst (p : Pan) (t : Int) : List Int := p.2.2.2.getD t.toNat []
def cnt (p : Pan) (cask : Int) (ts : List Int) (m : Nat) : Nat := (ts.map fun t => cntZ cask m p.2.2.1 (tst p t)).sum

structure GoodP (p : Pan) : Prop where
  casks : 1 ≤ p.1 ∧ p.1 ≤ 30
  marks : 1 ≤ p.2.1 ∧ p.2.1 ≤ 6
  glasses : 0 < p.2.2.1.length ∧ p.2.2.1.length ≤ 1000
  tasters : 0 < p.2.2.2.length ∧ p.2.2.2.length ≤ 1000
  glass : ∀ g ∈ p.2.2.1, 0 ≤ g ∧ g < p.1
  each : ∀ l ∈ p.2.2.2, l.length = p.2.2.1.length ∧ ∀ k ∈ l, 0 ≤ k ∧ k < p.2.1

theorem tstErr_zero {p : Pan} {l : List Int} (h : tstErr p l = 0) : l.length = p.2.2.1.length ∧ ∀ k ∈ l, 0 ≤ k ∧ k < p.2.1 := by
  have := firstErr_zero.1 h
  simp only [List.mem_cons, List.not_mem_nil, or_false, forall_eq_or_imp, forall_eq, unl_zero (show (10 : Int) ≠ 0 by decide), unl_zero (show (6 : Int) ≠ 0 by decide), beq_iff_eq, Bool.not_eq_true'] at this
  obtain ⟨h2, h3⟩ := this
  refine ⟨by omega, fun k hk => ?_⟩
  have := any_false h3 k hk
  rw [Bool.not_eq_false', inR_iff] at this
  omega

theorem tstGo_all {p : Pan} : {l : List (List Int)} → {i : Nat} → (tstGo p i l).2 = 0 → ∀ t ∈ l, tstErr p t = 0
  | [], _, _ => by simp
  | c :: r, i, h => by
    simp only [tstGo] at h
    cases hc : (tstErr p c == 0)
    · rw [hc] at h
      simp only [cond_false] at h
      rw [h] at hc
      cases hc
    · rw [hc] at h
      simp only [cond_true] at h
      intro d hd
      rcases List.mem_cons.1 hd with rfl | hd
      · simpa using hc
      · exact tstGo_all h d hd

theorem panErr_good {p : Pan} (h : (panErr p).2 = 0) : GoodP p := by
  unfold panErr at h
  cases h1 : (panErr0 p == 0)
  · rw [h1] at h
    simp only [cond_false] at h
    rw [h] at h1
    cases h1
  · rw [h1] at h
    simp only [cond_true] at h
    have hs : panErr0 p = 0 := by simpa using h1
    have := firstErr_zero.1 hs
    simp only [List.mem_cons, List.not_mem_nil, or_false, forall_eq_or_imp, forall_eq, unl_zero (show (10 : Int) ≠ 0 by decide), unl_zero (show (8 : Int) ≠ 0 by decide), unl_zero (show (2 : Int) ≠ 0 by decide), unl_zero (show (6 : Int) ≠ 0 by decide), Bool.and_eq_true, decide_eq_true_eq, inR_iff, Bool.not_eq_true'] at this
    obtain ⟨⟨g1, g2⟩, ⟨g3, g4⟩, ⟨g5, g6⟩, g7⟩ := this
    refine ⟨g1, g2, ⟨g3, by omega⟩, ⟨g4, by omega⟩, fun g hg => ?_, fun l hl => tstErr_zero (tstGo_all h l hl)⟩
    have := any_false g7 g hg
    rw [Bool.not_eq_false', inR_iff] at this
    omega

theorem tst_get {p : Pan} {t : Int} (h : 0 ≤ t ∧ t < (p.2.2.2.length : Int)) : geti p.2.2.2 t = some (tst p t) ∧ tst p t ∈ p.2.2.2 := by
  have hg := geti_of h.1 h.2
  have : tst p t = p.2.2.2[t.toNat]'(by omega) := by
    unfold tst
    rw [List.getD_eq_getElem?_getD, List.getElem?_eq_getElem (by omega)]
    rfl
  rw [this]
  exact ⟨hg, List.getElem_mem _⟩

theorem v87_l0_0 (n : Nat) (hf : Fuel n) (p : Pan) (hp : GoodP p) (cask : Int) (a16 : List Int) (a17 a18 : Int) (l : List Int) (hl : l ∈ p.2.2.2) (f : Nat → Nat) (B : Nat) (hB : B ≤ 1000000) (hfB : ∀ m, f m ≤ B)
    (k0 : Int × List Int × Int × Int × Int × Int × List Int × List (List Int) × List Int × Unit → Option (List Int)) :
    loopG (s87_l0_0 n) n (cask, a16, a17, a18, l, (l.length : Int), (0 : Int), p.1, p.2.1, p.2.2.1, p.2.2.2, tab p.2.1.toNat f, ()) (k0, ()) =
      k0 (cask, a16, a17, a18, p.1, p.2.1, p.2.2.1, p.2.2.2, tab p.2.1.toNat (fun m => f m + cntZ cask m p.2.2.1 l), ()) := by
  have hlo := hf.lo
  obtain ⟨e1, e2⟩ := hp.each l hl
  have hg := hp.glasses
  have hlm : l.length ≤ maxLen := by unfold maxLen; omega
  have hn : l.length < n := by omega
  · refine (list_loop (A := Nat → Nat) l (fun i f => (cask, a16, a17, a18, l, (l.length : Int), (i : Int), p.1, p.2.1, p.2.2.1, p.2.2.2, tab p.2.1.toNat f, ()))
      (fun i f r => k0 (cask, a16, a17, a18, p.1, p.2.1, p.2.2.1, p.2.2.2, tab p.2.1.toNat (fun m => f m + cntZ cask m (p.2.2.1.drop i) r), ())) (fun i f => ∀ m, f m ≤ B + i) hlm ?_ ?_ f hfB hn)
    · intro i f x r hi hx hd hgx hlt hw hinv again ih
      have hgl : p.2.2.1[i]? = some p.2.2.1[i] := List.getElem?_eq_getElem (by omega)
      have hgg : geti p.2.2.1 (i : Int) = some p.2.2.1[i] := by rw [geti_nat, hgl]
      have hdg : p.2.2.1.drop i = p.2.2.1[i] :: p.2.2.1.drop (i + 1) := List.drop_eq_getElem_cons (by omega)
      have hxm := e2 x (List.mem_of_getElem? hx)
      obtain ⟨mx, rfl⟩ := Int.eq_ofNat_of_zero_le hxm.1
      have hmx : mx < p.2.1.toNat := by omega
      have hi1 : i < 1001 := by omega
      simp only [s87_l0_0, hlt, cond_true, hgx, hgg, Option.bind_some, hw]
      cases c : (p.2.2.1[i] == cask)
      · simp only [cond_false]
        rw [ih f (fun m => by have := hinv m; omega)]
        congr 6
        rw [hdg]
        have hne : ¬ p.2.2.1[i] = cask := by simpa using c
        have : tab p.2.1.toNat (fun m => f m + cntZ cask m (p.2.2.1.drop (i + 1)) r) = tab p.2.1.toNat (fun m => f m + cntZ cask m (p.2.2.1[i] :: p.2.2.1.drop (i + 1)) ((mx : Int) :: r)) := by
          refine tab_ext fun m _ => ?_
          simp [cntZ, hne]
        rw [this]
      · have he : p.2.2.1[i] = cask := by simpa using c
        simp only [cond_true]
        rw [tab_get hmx]
        simp only [Option.bind_some]
        have hfm := hinv mx
        have hwr : IntKind.wrap .i64 (((f mx : Nat) : Int) + 1) = ((f mx + 1 : Nat) : Int) := by rw [wrap_id] <;> omega
        rw [hwr, tab_set hmx]
        simp only [Option.bind_some]
        rw [ih (fun m => if m = mx then f mx + 1 else f m) (fun m => by have h1 := hinv m; have h2 := hinv mx; split <;> omega)]
        have : tab p.2.1.toNat (fun m => (if m = mx then f mx + 1 else f m) + cntZ cask m (p.2.2.1.drop (i + 1)) r) = tab p.2.1.toNat (fun m => f m + cntZ cask m (p.2.2.1.drop i) ((mx : Int) :: r)) := by
          refine tab_ext fun m _ => ?_
          rw [hdg]
          simp only [cntZ, he]
          by_cases hm : m = mx
          · subst hm; simp; omega
          · have : ¬ ((mx : Int) = (m : Int)) := by omega
            simp [hm, this]
        rw [this]
    · intro f hlt hinv again
      simp only [s87_l0_0, hlt, cond_false]
      have : tab p.2.1.toNat (fun m => f m + cntZ cask m (p.2.2.1.drop l.length) []) = tab p.2.1.toNat f := by
        refine tab_ext fun m _ => ?_
        cases p.2.2.1.drop l.length <;> simp [cntZ]
      rw [this]


def okTs (p : Pan) (ts : List Int) : Prop := ∀ t ∈ ts, 0 ≤ t ∧ t < (p.2.2.2.length : Int)

theorem v87 (n : Nat) (hf : Fuel n) (p : Pan) (hp : GoodP p) (cask : Int) (ts : List Int) (hts : okTs p ts) (hl : ts.length ≤ 1000) :
    s87 n p cask ts = some (tab p.2.1.toNat (cnt p cask ts)) := by
  have hlo := hf.lo
  have hm := hp.marks
  have hg := hp.glasses
  unfold s87
  rw [chki_ok (by omega) (by omega)]
  simp only [Option.bind_some]
  rw [tab_zero]
  refine (list_loop (A := Nat → Nat) ts (fun i f => (cask, ts, (ts.length : Int), (i : Int), p.1, p.2.1, p.2.2.1, p.2.2.2, tab p.2.1.toNat f, ()))
    (fun i f r => some (tab p.2.1.toNat (fun m => f m + cnt p cask r m))) (fun i f => ∀ m, f m ≤ i * 1000) (by unfold maxLen; omega) ?_ ?_ (fun _ => 0) (by simp) (by omega)).trans ?_
  · intro i f x r hi hx hd hgx hlt hw hinv again ih
    obtain ⟨h1, h2⟩ := tst_get (hts x (List.mem_of_getElem? hx))
    simp only [s87_l0, hlt, cond_true, hgx, h1, Option.bind_some]
    rw [v87_l0_0 n hf p hp cask ts (ts.length : Int) (i : Int) (tst p x) h2 f (i * 1000) (by omega) hinv]
    simp only [hw]
    rw [ih (fun m => f m + cntZ cask m p.2.2.1 (tst p x)) (fun m => by have := hinv m; have := cntZ_le cask m p.2.2.1 (tst p x); omega)]
    simp only [cnt, List.map_cons, List.sum_cons, Nat.add_assoc]
  · intro f hlt hinv again
    simp only [s87_l0, hlt, cond_false, cnt, List.map_nil, List.sum_nil, Nat.add_zero]
  · simp

/-- The greatest. -/
def maxL : List Int → Int
  | [] => 0
  | x :: r => r.foldl imax x

theorem v126 (n : Nat) (l : List Int) (hl : l.length ≤ maxLen) (hn : l.length < n) (hne : 0 < l.length) : s126 n l = some (maxL l) := by
  unfold s126
  cases l with
  | nil => simp at hne
  | cons a r =>
    have h1 : decide (((List.length (a :: r) : Nat) : Int) < (1 : Int)) = false := by simp; omega
    simp only [h1, cond_false]
    rw [show geti (a :: r) (0 : Int) = some a from rfl]
    simp only [Option.bind_some]
    simp only [List.length_cons] at hl hn
    have key := list_loop (body := s126_l0 n) (ks := ((fun (m_1, _) => some (m_1) : Int × Unit → Option Int), ())) (n := n) (A := Int) r (fun i m => (a :: r, m, ((i + 1 : Nat) : Int), ())) (fun i m s => some (s.foldl imax m)) (fun _ _ => True) (by omega) ?_ ?_ a trivial (by omega)
    · exact key
    · intro i m x s hi hx hd hg hlt hw _ again ih
      have hlt' : decide (((i + 1 : Nat) : Int) < ((List.length (a :: r) : Nat) : Int)) = true := by simp; omega
      have hg' : geti (a :: r) ((i + 1 : Nat) : Int) = some x := by rw [geti_nat]; simpa using hx
      have hw' : IntKind.wrap .i64 (((i + 1 : Nat) : Int) + 1) = ((i + 1 + 1 : Nat) : Int) := by unfold maxLen at hl; rw [wrap_id] <;> omega
      simp only [s126_l0, hlt', cond_true, hg', Option.bind_some, hw', List.foldl_cons]
      exact ih _ trivial
    · intro m hlt _ again
      have hlt' : decide (((r.length + 1 : Nat) : Int) < ((List.length (a :: r) : Nat) : Int)) = false := by simp
      simp only [s126_l0, hlt', cond_false, List.foldl_nil]

def markOf (l : List Int) : Int :=
  bif (maxL l == 0) || ((l.drop (idxF (fun x => maxL l == x) 0 l + 1).toNat).any fun x => maxL l == x) then -1 else idxF (fun x => maxL l == x) 0 l

theorem idxF_bounds {α : Type} (p : α → Bool) : (l : List α) → (i : Nat) → idxF p i l = -1 ∨ ((i : Int) ≤ idxF p i l ∧ idxF p i l < (i : Int) + l.length)
  | [], i => .inl rfl
  | x :: r, i => by
    simp only [idxF]
    cases p x
    · simp only [cond_false]
      rcases idxF_bounds p r (i + 1) with h | h
      · exact .inl h
      · right; simp only [List.length_cons]; omega
    · simp only [cond_true, List.length_cons]; omega

theorem imax_mem (a b : Int) : imax a b = a ∨ imax a b = b := by unfold imax; split <;> simp

theorem foldl_imax_mem : (l : List Int) → (a : Int) → l.foldl imax a = a ∨ l.foldl imax a ∈ l
  | [], a => .inl rfl
  | x :: r, a => by
    rw [List.foldl_cons]
    rcases foldl_imax_mem r (imax a x) with h | h
    · rcases imax_mem a x with g | g
      · left; rw [h, g]
      · right; rw [h, g]; exact List.mem_cons_self ..
    · right; exact List.mem_cons_of_mem _ h
theorem maxL_mem {l : List Int} (h : 0 < l.length) : maxL l ∈ l := by
  cases l with
  | nil => simp at h
  | cons a r =>
    rcases foldl_imax_mem r a with g | g
    · simp only [maxL, g]; exact List.mem_cons_self ..
    · exact List.mem_cons_of_mem _ g

theorem idxF_found {α : Type} {p : α → Bool} {l : List α} {i : Nat} (h : l.any p = true) : (i : Int) ≤ idxF p i l ∧ idxF p i l < (i : Int) + l.length := by
  have := idxF_any p l i
  rw [h, decide_eq_true_eq] at this
  rcases idxF_bounds p l i with h | h
  · omega
  · exact h

theorem mark_idx {l : List Int} (h : 0 < l.length) : 0 ≤ idxF (fun x => maxL l == x) 0 l ∧ idxF (fun x => maxL l == x) 0 l < l.length := by
  have := idxF_found (p := fun x => maxL l == x) (l := l) (i := 0) (List.any_eq_true.2 ⟨maxL l, maxL_mem h, by simp⟩)
  omega

theorem v88 (n : Nat) (hf : Fuel n) (p : Pan) (hp : GoodP p) (cask : Int) (ts : List Int) (hts : okTs p ts) (hl : ts.length ≤ 1000) :
    s88 n p cask ts = some (markOf (tab p.2.1.toNat (cnt p cask ts))) := by
  have hlo := hf.lo
  have hm := hp.marks
  unfold s88
  rw [show ((p.1, (p.2.1, (p.2.2.1, p.2.2.2))) : Pan) = p from rfl, v87 n hf p hp cask ts hts hl]
  simp only [Option.bind_some]
  generalize hL : tab p.2.1.toNat (cnt p cask ts) = l
  have hlen : l.length = p.2.1.toNat := by rw [← hL, tab_len]
  have h1 : 0 < l.length := by omega
  have h2 : l.length ≤ maxLen := by unfold maxLen; omega
  rw [v126 n l h2 (by omega) h1, Option.bind_some, v127 n l _ h2 (by omega)]
  simp only [Option.bind_some]
  have hi := mark_idx h1
  unfold markOf
  generalize maxL l = mx at *
  generalize hix : idxF (fun x => mx == x) 0 l = ix at *
  cases c : (mx == 0)
  · obtain ⟨j, rfl⟩ := Int.eq_ofNat_of_zero_le hi.1
    have hw : IntKind.wrap .i64 ((j : Int) + 1) = ((j + 1 : Nat) : Int) := by rw [wrap_id] <;> omega
    rw [hw, cut_nat _ _ _ (by omega) (Nat.le_refl _)]
    simp only [Bool.not_false, part_true, Option.bind_some, List.take_length]
    rw [v128 n _ _ (by simp; omega) (by simp; omega)]
    simp only [Option.bind_some, Bool.false_or]
    rw [show (((j : Nat) : Int) + 1).toNat = j + 1 from by omega]
    cases c2 : ((l.drop (j + 1)).any fun x => mx == x) <;> rfl
  · rfl

theorem v124 (n : Nat) (p : Pan) (x : Int) (hp : GoodP p) : s124 n p x = some (unl (inR x 0 (p.1 - 1)) 6) := by
  have := hp.casks
  unfold s124
  rw [v82, Option.bind_some, v81, wrap_id (by omega) (by omega)]
  rfl
theorem v90 (n : Nat) (p : Pan) (x : Int) (hl : p.2.2.2.length ≤ 1000) : s90 n p x = some (unl (inR x 0 ((p.2.2.2.length : Int) - 1)) 6) := by
  unfold s90
  rw [v82, Option.bind_some, v81, wrap_id (by omega) (by omega)]
  rfl

end Go.Abs

set_option linter.unusedSimpArgs false
set_option linter.unusedVariables false
namespace Go.Abs
open Go

abbrev ZZ := List (Int × Int)
def same1 (z w : Int × Int) : Nat := if w.1 = z.1 ∧ z.2 = w.2 then 1 else 0
def glass1 (z w : Int × Int) : Nat := if w.1 = z.1 then 1 else 0
def sumN (f : Int × Int → Nat) (l : ZZ) : Nat := (l.map f).sum
theorem sumN_cons (f : Int × Int → Nat) (z : Int × Int) (l : ZZ) : sumN f (z :: l) = f z + sumN f l := by simp [sumN]
theorem sumN_snoc (f : Int × Int → Nat) (z : Int × Int) (l : ZZ) : sumN f (l ++ [z]) = sumN f l + f z := by simp [sumN]
theorem sumN_le (f : Int × Int → Nat) (h : ∀ z, f z ≤ 1) : (l : ZZ) → sumN f l ≤ l.length
  | [] => by simp [sumN]
  | z :: l => by have := sumN_le f h l; have := h z; rw [sumN_cons, List.length_cons]; omega
theorem same1_le (z w : Int × Int) : same1 z w ≤ 1 := by unfold same1; split <;> omega
theorem glass1_le (z w : Int × Int) : glass1 z w ≤ 1 := by unfold glass1; split <;> omega

/-- Pairs of glasses with the same cask, of the same mark: each glass with those before. -/
def steadyI (h : Int × Int → Int × Int → Nat) : ZZ → ZZ → Nat
  | _, [] => 0
  | pre, z :: r => sumN (h z) pre + steadyI h (pre ++ [z]) r

theorem v91_l0_0 (n : Nat) (hf : Fuel n) (p : Pan) (l : List Int) (a18 : List Int) (a19 t4 t41 : Int) (i : Nat) (z : Int × Int)
    (hlen : l.length = p.2.2.1.length) (hg : p.2.2.1.length ≤ 1000) (hi : i < p.2.2.1.length) (hz : (p.2.2.1.zip l)[i]? = some z) (a b : Nat) (ha : a ≤ 1000000) (hb : b ≤ 1000000)
    (k0 : List Int × List Int × Int × Int × Int × Int × List Int × List (List Int) × Int × Int × Int × Int × Unit → Option (Int × Int)) :
    loopG (s91_l0_0 n) n (l, (i : Int), z.1, a18, a19, (i : Int), (i : Int), (0 : Int), p.1, p.2.1, p.2.2.1, p.2.2.2, t4, t41, (a : Int), (b : Int), ()) (k0, ()) =
      k0 (l, a18, a19, (i : Int), p.1, p.2.1, p.2.2.1, p.2.2.2, t4, t41, ((a + sumN (same1 z) ((p.2.2.1.zip l).take i) : Nat) : Int), ((b + sumN (glass1 z) ((p.2.2.1.zip l).take i) : Nat) : Int), ()) := by
  have hlo := hf.lo
  have hZ : (p.2.2.1.zip l).length = p.2.2.1.length := by simp [hlen]
  have hT : ((p.2.2.1.zip l).take i).length = i := by simp [hlen]; omega
  have hli : geti l (i : Int) = some z.2 := by
    rw [geti_nat]
    rw [List.getElem?_zip_eq_some] at hz
    exact hz.2
  refine (list_loop (A := Nat × Nat) ((p.2.2.1.zip l).take i) (fun k c => (l, (i : Int), z.1, a18, a19, (i : Int), (i : Int), (k : Int), p.1, p.2.1, p.2.2.1, p.2.2.2, t4, t41, (c.1 : Int), (c.2 : Int), ()))
    (fun k c r => k0 (l, a18, a19, (i : Int), p.1, p.2.1, p.2.2.1, p.2.2.2, t4, t41, ((c.1 + sumN (same1 z) r : Nat) : Int), ((c.2 + sumN (glass1 z) r : Nat) : Int), ())) (fun k c => c.1 ≤ a + k ∧ c.2 ≤ b + k) (by rw [hT]; unfold maxLen; omega) ?_ ?_ (a, b) ⟨Nat.le_refl _, Nat.le_refl _⟩ (by rw [hT]; omega))
  · rintro k ⟨c, d⟩ ⟨g, y⟩ r hk hx hd _ hlt hw ⟨hc, hd'⟩ again ih
    rw [hT] at hk hlt
    rw [List.getElem?_take_of_lt hk, List.getElem?_zip_eq_some] at hx
    have hgk : geti p.2.2.1 (k : Int) = some g := by rw [geti_nat]; exact hx.1
    have hlk : geti l (k : Int) = some y := by rw [geti_nat]; exact hx.2
    dsimp only at hc hd'
    simp only [s91_l0_0, hlt, cond_true, hgk, hlk, hli, Option.bind_some, hw, sumN_cons, bne]
    have w1 : IntKind.wrap .i64 ((c : Int) + 1) = ((c + 1 : Nat) : Int) := by rw [wrap_id] <;> omega
    have w2 : IntKind.wrap .i64 ((d : Int) + 1) = ((d + 1 : Nat) : Int) := by rw [wrap_id] <;> omega
    rw [w1, w2]
    cases h1 : (g == z.1)
    · have e1 : ¬ g = z.1 := by simpa using h1
      simp only [Bool.not_false, cond_true]
      rw [ih (c, d) ⟨by dsimp only; omega, by dsimp only; omega⟩]
      simp [same1, glass1, e1]
    · have e1 : g = z.1 := by simpa using h1
      simp only [Bool.not_true, cond_false]
      cases h2 : (z.2 == y)
      · have e2 : ¬ z.2 = y := by simpa using h2
        simp only [cond_false]
        rw [ih (c, d + 1) ⟨by dsimp only; omega, by dsimp only; omega⟩]
        simp only [same1, glass1, e1, e2, and_false, if_false, if_true, Nat.zero_add, Nat.add_assoc]
      · have e2 : z.2 = y := by simpa using h2
        simp only [cond_true]
        rw [ih (c + 1, d + 1) ⟨by dsimp only; omega, by dsimp only; omega⟩]
        simp only [same1, glass1, e1, e2, and_self, if_true, Nat.add_assoc]
  · rintro ⟨c, d⟩ hlt _ again
    rw [hT] at hlt ⊢
    simp only [s91_l0_0, hlt, cond_false]
    rfl

def steady (p : Pan) (t : Int) : Nat × Nat := (steadyI same1 [] (p.2.2.1.zip (tst p t)), steadyI glass1 [] (p.2.2.1.zip (tst p t)))

theorem v91 (n : Nat) (hf : Fuel n) (p : Pan) (hp : GoodP p) (t : Int) (ht : 0 ≤ t ∧ t < (p.2.2.2.length : Int)) : s91 n p t = some (((steady p t).1 : Int), ((steady p t).2 : Int)) := by
  have hlo := hf.lo
  obtain ⟨h1, h2⟩ := tst_get ht
  obtain ⟨e1, _⟩ := hp.each _ h2
  have hg := hp.glasses
  unfold s91
  rw [h1]
  simp only [Option.bind_some]
  unfold steady
  generalize tst p t = l at *
  have hZ : (p.2.2.1.zip l).length = p.2.2.1.length := by simp [e1]
  refine (list_loop (A := Nat × Nat) (p.2.2.1.zip l) (fun i c => (l, p.2.2.1, (p.2.2.1.length : Int), (i : Int), p.1, p.2.1, p.2.2.1, p.2.2.2, (0 : Int), (0 : Int), (c.1 : Int), (c.2 : Int), ()))
    (fun i c r => some (((c.1 + steadyI same1 ((p.2.2.1.zip l).take i) r : Nat) : Int), ((c.2 + steadyI glass1 ((p.2.2.1.zip l).take i) r : Nat) : Int)))
    (fun i c => c.1 ≤ i * 1000 ∧ c.2 ≤ i * 1000) (by rw [hZ]; unfold maxLen; omega) ?_ ?_ (0, 0) (by simp) (by rw [hZ]; omega)).trans ?_
  · rintro i ⟨c, d⟩ z r hi hx hd _ hlt hw ⟨hc, hd'⟩ again ih
    rw [hZ] at hi hlt
    dsimp only at hc hd'
    have hx' := List.getElem?_zip_eq_some.1 hx
    have hgi : geti p.2.2.1 (i : Int) = some z.1 := by rw [geti_nat]; exact hx'.1
    simp only [s91_l0, hlt, cond_true, hgi, Option.bind_some]
    rw [v91_l0_0 n hf p l _ _ _ _ i z e1 hg.2 hi hx c d (by omega) (by omega)]
    simp only [hw]
    have l1 := sumN_le (same1 z) (same1_le z) ((p.2.2.1.zip l).take i)
    have l2 := sumN_le (glass1 z) (glass1_le z) ((p.2.2.1.zip l).take i)
    have hT : ((p.2.2.1.zip l).take i).length ≤ i := by simp; omega
    have ht1 : (p.2.2.1.zip l).take (i + 1) = (p.2.2.1.zip l).take i ++ [z] := by rw [List.take_add_one, hx]; rfl
    rw [ih (c + sumN (same1 z) ((p.2.2.1.zip l).take i), d + sumN (glass1 z) ((p.2.2.1.zip l).take i)) ⟨by dsimp only; omega, by dsimp only; omega⟩, ht1]
    simp only [steadyI, Nat.add_assoc]
  · rintro ⟨c, d⟩ hlt _ again
    rw [hZ] at hlt ⊢
    simp only [s91_l0, hlt, cond_false, steadyI]
    rfl
  · simp

def isSteady (p : Pan) (least : Int × Int) (t : Nat) : Bool := decide (IntKind.wrap .i64 (((steady p t).1 : Int) * least.2) ≥ IntKind.wrap .i64 (least.1 * ((steady p t).2 : Int)))
def steadiest (p : Pan) (least : Int × Int) : List Int := ((List.range p.2.2.2.length).filter (isSteady p least)).map fun t => ((t : Nat) : Int)

def marked (p : Pan) (ts : List Int) : List Int := (List.range p.1.toNat).map fun (c : Nat) => markOf (tab p.2.1.toNat (cnt p (c : Int) ts))

theorem steadiest_ok (p : Pan) (least : Int × Int) (hT : p.2.2.2.length ≤ 1000) : okTs p (steadiest p least) ∧ (steadiest p least).length ≤ 1000 := by
  refine ⟨fun t ht => ?_, ?_⟩
  · unfold steadiest at ht
    obtain ⟨k, hk, rfl⟩ := List.mem_map.1 ht
    have := List.mem_range.1 (List.mem_filter.1 hk).1
    omega
  · unfold steadiest
    rw [List.length_map]
    exact Nat.le_trans (List.length_filter_le _ _) (by simpa using hT)

end Go.Abs

set_option linter.unusedSimpArgs false
set_option linter.unusedVariables false
namespace Go.Abs
open Go

theorem awake_ok (m : Nat) : s15 (m + 2000) = some true := by kernel_rfl

theorem marksErr_eq (b : Book) (l : List Int) : marksErr b l = bif !decide (l.length ≤ 40) then 8 else bif l.any (fun k => !inR k 0 ((b.1.length : Int) - 1)) then 6 else 0 := by
  unfold marksErr
  cases decide (l.length ≤ 40) <;> cases l.any (fun k => !inR k 0 ((b.1.length : Int) - 1)) <;> rfl

theorem v18 (n : Nat) (b : Book) (l : List Int) (hf : Fuel n) (hb : Lt n b.1) (hl : Lt n l) : s18 n b l = some (marksErr b l) := by
  rw [marksErr_eq]
  unfold s18
  rw [show decide (((List.length l : Nat) : Int) > (40 : Int)) = !decide (l.length ≤ 40) from dec_gt _ 40]
  cases hc : (!decide (l.length ≤ 40))
  · simp only [cond_false]
    refine list_loop0 l (fun i => (l, (i : Int), b.1, b.2.1, b.2.2, ())) (fun _ r => some (bif r.any (fun k => !inR k 0 ((b.1.length : Int) - 1)) then 6 else 0)) (hf.le hl) ?_ ?_ hl
    · intro i x r hi hx hd hg hlt hw again ih
      simp only [s18_l0, hlt, cond_true, hg, Option.bind_some, v19, lenPred hf hb, List.any_cons]
      cases inR x 0 ((b.1.length : Int) - 1)
      · rfl
      · simp only [Bool.not_true, cond_false, Bool.false_or, hw]
        exact ih
    · intro hlt again
      simp only [s18_l0, hlt, cond_false, List.any_nil]
  · rfl

theorem v40 (n : Nat) (b : Book) (l : List Int) (w : List Int) (hf : Fuel n) (hl : l.length + 1 < n) (hw : walkO b.2.2 b.2.1 l = some w) : s40 n b l = some w := by
  have hhi := hf.hi
  have hll : Lt n l := by unfold Lt; omega
  unfold s40
  refine (list_loop (A := List Int × Int) l (fun i a => (l, (i : Int), b.1, b.2.1, b.2.2, a.1 ++ [a.2], ())) (fun i a r => (walkO b.2.2 a.2 r).map (a.1 ++ ·)) (fun i a => a.1.length = i) (hf.le hll) ?_ ?_ ([], b.2.1) rfl hll).trans ?_
  · rintro i ⟨pre, k⟩ x r hi hx hd hg hlt hw' hinv again ih
    have h1 : pre.length = i := hinv
    have hlast : geti (pre ++ [k]) ((i : Nat) : Int) = some k := by rw [geti_nat, ← h1]; simp
    simp only [s40_l0, hlt, cond_true, hg, Option.bind_some, hw', hlast]
    simp only [walkO, stepTo]
    cases hc : geti b.2.2 k with
    | none => rfl
    | some c =>
      simp only [Option.bind_some]
      cases hm : geti c.2.1 x with
      | none => rfl
      | some k' =>
        have hch : chk ((pre ++ [k]).length + ([k'] : List Int).length) = some () := chk_ok (by simp; omega)
        simp only [Option.bind_some, hch]
        rw [ih (pre ++ [k], k') (by simp [h1])]
        simp [Option.map_map, Function.comp_def]
  · rintro ⟨pre, k⟩ hlt hinv again
    simp only [s40_l0, hlt, cond_false, walkO]
    rfl
  · rw [hw]; rfl

/-- A list of marks that is short, or a little too long. -/
def fewM (l : List Int) : Bool := decide (((List.length l : Nat) : Int) ≤ (12 : Int)) || (decide (((List.length l : Nat) : Int) > (40 : Int)) && decide (((List.length l : Nat) : Int) ≤ (42 : Int)))

theorem fewM_le {l : List Int} (h : fewM l = true) : l.length ≤ 42 := by
  simp only [fewM, Bool.or_eq_true, Bool.and_eq_true, decide_eq_true_eq] at h
  omega

end Go.Abs

set_option linter.unusedSimpArgs false
set_option linter.unusedVariables false
namespace Go.Abs
open Go

theorem v45 (n : Nat) (a b : List Txt) (hf : Fuel n) (h : Lt n a) : s45 n a b = some (a == b) := by
  unfold s45
  cases c : (((List.length a : Nat) : Int) == ((List.length b : Nat) : Int))
  · have hne : a ≠ b := by
      rintro rfl
      simp at c
    simp only [bne, c, Bool.not_false, cond_true]
    rw [(by simpa using hne : (a == b) = false)]
  · have hlen' : (a.length : Int) = (b.length : Int) := by simpa using c
    have hlen : a.length = b.length := by omega
    simp only [bne, c, Bool.not_true, cond_false]
    refine (list_loop0 a (fun i => (a, b, (i : Int), ())) (fun i r => some (r == b.drop i)) (hf.le h) ?_ ?_ h).trans (by simp)
    · intro i x r hi hx hd hg hlt hw again ih
      have hb : b[i]? = some b[i] := List.getElem?_eq_getElem (by omega)
      have hgb : geti b (i : Int) = some b[i] := by rw [geti_nat, hb]
      have hdb : b.drop i = b[i] :: b.drop (i + 1) := List.drop_eq_getElem_cons (by omega)
      simp only [s45_l0, hlt, cond_true, hg, hgb, Option.bind_some, hw, ih, bne]
      rw [hdb, List.cons_beq_cons]
      cases h : (x == b[i]) <;> rfl
    · intro hlt again
      simp only [s45_l0, hlt, cond_false]
      rw [hlen, List.drop_length]
      rfl

/-- What is said on a walk. -/
def sayO (cs : List Cls) : List Int → List Int → Option (List Txt)
  | _, [] => some []
  | k :: w, m :: l => (geti cs k).bind fun c => (geti c.2.2 m).bind fun t => (sayO cs w l).map (t :: ·)
  | [], _ :: _ => none

theorem v22_ok (n : Nat) (b : Book) (l w : List Int) (hf : Fuel n) (h2 : l.length + 1 < n) (hw : walkO b.2.2 b.2.1 l = some w) : s22 n b l = some (lastI w) := by
  obtain ⟨r, hr, hlen⟩ := walkO_ne hw
  unfold s22
  rw [show ((b.1, (b.2.1, b.2.2)) : Book) = b from rfl, v40 n b l w hf h2 hw]
  simp only [Option.bind_some]
  rw [geti_last hf (by rw [hr]; unfold Lt; simp; omega) (by rw [hr]; simp)]
  rfl

theorem GoodB.say {b : Book} (h : GoodB b) : (l w : List Int) → (∀ m ∈ l, 0 ≤ m ∧ m < (b.1.length : Int)) → (∀ x ∈ w, 0 ≤ x ∧ x < (b.2.2.length : Int)) → l.length ≤ w.length → ∃ o, sayO b.2.2 w l = some o ∧ o.length = l.length
  | [], w, _, _, _ => ⟨[], by cases w <;> rfl, rfl⟩
  | m :: l, [], _, _, hlen => by simp at hlen
  | m :: l, k :: w, hl, hw, hlen => by
    obtain ⟨o, h1, h2⟩ := h.say l w (fun x hx => hl x (List.mem_cons_of_mem _ hx)) (fun x hx => hw x (List.mem_cons_of_mem _ hx)) (by simpa using hlen)
    have hk := hw k (List.mem_cons_self ..)
    have hm := hl m (List.mem_cons_self ..)
    obtain ⟨_, g2, _⟩ := h.next b.2.2[k.toNat] (List.getElem_mem _)
    refine ⟨(b.2.2[k.toNat]'(by omega)).2.2[m.toNat]'(by rw [g2]; omega) :: o, ?_, by simp [h2]⟩
    simp only [sayO, geti_of hk.1 hk.2, Option.bind_some]
    rw [geti_of hm.1 (by rw [g2]; exact hm.2)]
    simp [h1]

theorem sheetErr_zero {b : Book} {s : Txt × List Int} (h : sheetErr b s = 0) : marksErr b s.2 = 0 := by
  have := firstErr_zero.1 h
  exact this _ (by simp)

theorem lastI_mem {l : List Int} (h : l ≠ []) : lastI l ∈ l := by
  unfold lastI
  rw [List.getLastD_eq_getLast?, List.getLast?_eq_some_getLast h]
  exact List.getLast_mem h

end Go.Abs

set_option linter.unusedSimpArgs false
set_option linter.unusedVariables false
set_option linter.unusedSectionVars false
namespace Go.Abs
open Go

section
variable {S : Type} [DecidableEq S]

/-- The number of a word: words ordered by length, then by their marks, are ordered as their numbers. -/
def codeW (M : Nat) (w : List Int) : Nat := w.foldl (fun c m => c * M + m.toNat + 1) 0
theorem codeW_snoc (M : Nat) (w : List Int) (m : Nat) : codeW M (w ++ [(m : Int)]) = codeW M w * M + m + 1 := by
  simp [codeW, List.foldl_append]

def runW (nx : S → Nat → S) (s : S) (w : List Int) : S := w.foldl (fun s m => nx s m.toNat) s
theorem runW_snoc (nx : S → Nat → S) (s : S) (w : List Int) (m : Nat) : runW nx s (w ++ [(m : Int)]) = nx (runW nx s w) m := by
  simp [runW, List.foldl_append]

def addE (nx : S → Nat → S) (s : S) (v : List Int) (D : List (S × List Int)) (m : Nat) : List (S × List Int) :=
  if nx s m ∈ D.map Prod.fst then D else D ++ [(nx s m, v ++ [(m : Int)])]

def expandE (nx : S → Nat → S) (s : S) (v : List Int) (D : List (S × List Int)) : Nat → List (S × List Int)
  | 0 => D
  | m + 1 => addE nx s v (expandE nx s v D m) m

def bfsD (nx : S → Nat → S) (M : Nat) : Nat → Nat → List (S × List Int) → List (S × List Int)
  | 0, _, D => D
  | k + 1, i, D => match D[i]? with
    | some e => bfsD nx M k (i + 1) (expandE nx e.1 e.2 D M)
    | none => D

theorem addE_prefix (nx : S → Nat → S) (s : S) (v : List Int) (D : List (S × List Int)) (m : Nat) : ∃ r, addE nx s v D m = D ++ r := by
  unfold addE
  split
  · exact ⟨[], by simp⟩
  · exact ⟨_, rfl⟩
theorem expandE_prefix (nx : S → Nat → S) (s : S) (v : List Int) (D : List (S × List Int)) : ∀ m, ∃ r, expandE nx s v D m = D ++ r
  | 0 => ⟨[], by simp [expandE]⟩
  | m + 1 => by
    obtain ⟨r, h⟩ := expandE_prefix nx s v D m
    obtain ⟨r', h'⟩ := addE_prefix nx s v (expandE nx s v D m) m
    exact ⟨r ++ r', by rw [expandE, h', h, List.append_assoc]⟩
theorem bfsD_prefix (nx : S → Nat → S) (M : Nat) : ∀ (k i : Nat) (D : List (S × List Int)), ∃ r, bfsD nx M k i D = D ++ r
  | 0, _, D => ⟨[], by simp [bfsD]⟩
  | k + 1, i, D => by
    unfold bfsD
    split
    · rename_i e h
      obtain ⟨r, h1⟩ := bfsD_prefix nx M k (i + 1) (expandE nx e.1 e.2 D M)
      obtain ⟨r', h2⟩ := expandE_prefix nx e.1 e.2 D M
      exact ⟨r' ++ r, by rw [h1, h2, List.append_assoc]⟩
    · exact ⟨[], by simp⟩

structure BInv (nx : S → Nat → S) (M : Nat) (Good : S → Prop) (b0 : S) (D : List (S × List Int)) : Prop where
  nodup : (D.map Prod.fst).Nodup
  good : ∀ e ∈ D, Good e.1
  path : ∀ e ∈ D, runW nx b0 e.2 = e.1
  rng : ∀ e ∈ D, ∀ x ∈ e.2, 0 ≤ x ∧ x < (M : Int)
  sorted : D.Pairwise (fun a b => codeW M a.2 < codeW M b.2)
  len : ∀ (i : Nat) (e : S × List Int), D[i]? = some e → e.2.length ≤ i
  first : D[0]? = some (b0, [])

/-- Where the search stands: entry i has been carried as far as mark m. -/
structure BAt (nx : S → Nat → S) (M : Nat) (D : List (S × List Int)) (i m : Nat) : Prop where
  low : ∀ e : S × List Int, D[i]? = some e → ∀ u ∈ D, codeW M u.2 < codeW M e.2 * M + m + 1
  cov : ∀ j m' : Nat, (j < i ∨ j = i ∧ m' < m) → m' < M → ∀ e : S × List Int, D[j]? = some e → ∃ u ∈ D, u.1 = nx e.1 m' ∧ codeW M u.2 ≤ codeW M e.2 * M + m' + 1

theorem B_add {nx : S → Nat → S} {M : Nat} {Good : S → Prop} {b0 : S} {D : List (S × List Int)} {i m : Nat} {e : S × List Int}
    (hG : ∀ s, Good s → ∀ m, m < M → Good (nx s m)) (h : BInv nx M Good b0 D) (ha : BAt nx M D i m) (he : D[i]? = some e) (hm : m < M) :
    BInv nx M Good b0 (addE nx e.1 e.2 D m) ∧ BAt nx M (addE nx e.1 e.2 D m) i (m + 1) := by
  have hi : i < D.length := by
    rcases Nat.lt_or_ge i D.length with h1 | h1
    · exact h1
    · rw [List.getElem?_eq_none h1] at he; cases he
  have hmem : e ∈ D := List.mem_of_getElem? he
  have hlow := ha.low e he
  unfold addE
  by_cases hin : nx e.1 m ∈ D.map Prod.fst
  · rw [if_pos hin]
    refine ⟨h, ⟨fun e' he' u hu => ?_, fun j m' hj hm' e' he' => ?_⟩⟩
    · have := ha.low e' he' u hu; omega
    · rcases hj with hj | ⟨rfl, hj⟩
      · exact ha.cov j m' (.inl hj) hm' e' he'
      · by_cases hmm : m' < m
        · exact ha.cov j m' (.inr ⟨rfl, hmm⟩) hm' e' he'
        · have hmm' : m' = m := by omega
          subst hmm'
          have : e' = e := by rw [he] at he'; exact (Option.some.inj he').symm
          subst this
          obtain ⟨u, hu, hue⟩ := List.mem_map.1 hin
          exact ⟨u, hu, hue, by have := hlow u hu; omega⟩
  · rw [if_neg hin]
    have hget : ∀ (j : Nat) (e' : S × List Int), (D ++ [(nx e.1 m, e.2 ++ [(m : Int)])])[j]? = some e' → (D[j]? = some e') ∨ (j = D.length ∧ e' = (nx e.1 m, e.2 ++ [(m : Int)])) := by
      intro j e' hj
      rcases Nat.lt_or_ge j D.length with h1 | h1
      · rw [List.getElem?_append_left h1] at hj; exact .inl hj
      · rw [List.getElem?_append_right h1] at hj
        rcases Nat.lt_or_ge 0 (j - D.length) with h2 | h2
        · rw [List.getElem?_eq_none (by simp; omega)] at hj; cases hj
        · have : j - D.length = 0 := by omega
          rw [this] at hj
          exact .inr ⟨by omega, (Option.some.inj hj).symm⟩
    refine ⟨⟨?_, ?_, ?_, ?_, ?_, ?_, ?_⟩, ⟨?_, ?_⟩⟩
    · rw [List.map_append, List.nodup_append]
      refine ⟨h.nodup, by simp, fun x hx y hy => ?_⟩
      have : y = nx e.1 m := by simpa using hy
      subst this
      exact fun heq => hin (heq ▸ hx)
    · intro u hu
      rcases List.mem_append.1 hu with hu | hu
      · exact h.good u hu
      · have : u = (nx e.1 m, e.2 ++ [(m : Int)]) := by simpa using hu
        subst this
        exact hG _ (h.good e hmem) m hm
    · intro u hu
      rcases List.mem_append.1 hu with hu | hu
      · exact h.path u hu
      · have : u = (nx e.1 m, e.2 ++ [(m : Int)]) := by simpa using hu
        subst this
        show runW nx b0 (e.2 ++ [(m : Int)]) = nx e.1 m
        rw [runW_snoc, h.path e hmem]
    · intro u hu
      rcases List.mem_append.1 hu with hu | hu
      · exact h.rng u hu
      · have : u = (nx e.1 m, e.2 ++ [(m : Int)]) := by simpa using hu
        subst this
        intro x hx
        rcases List.mem_append.1 hx with hx | hx
        · exact h.rng e hmem x hx
        · have : x = (m : Int) := by simpa using hx
          omega
    · rw [List.pairwise_append]
      refine ⟨h.sorted, by simp, fun u hu w hw => ?_⟩
      have : w = (nx e.1 m, e.2 ++ [(m : Int)]) := by simpa using hw
      subst this
      show codeW M u.2 < codeW M (e.2 ++ [(m : Int)])
      rw [codeW_snoc]
      exact hlow u hu
    · intro j e' hj
      rcases hget j e' hj with h1 | ⟨h1, h2⟩
      · exact h.len j e' h1
      · subst h2
        have := h.len i e he
        simp only [List.length_append, List.length_cons, List.length_nil]
        omega
    · rw [List.getElem?_append_left (by omega)]
      exact h.first
    · intro e' he' u hu
      have hee : e' = e := by
        rw [List.getElem?_append_left hi, he] at he'
        exact (Option.some.inj he').symm
      subst hee
      rcases List.mem_append.1 hu with hu | hu
      · have := hlow u hu; omega
      · have : u = (nx e'.1 m, e'.2 ++ [(m : Int)]) := by simpa using hu
        subst this
        show codeW M (e'.2 ++ [(m : Int)]) < _
        rw [codeW_snoc]
        omega
    · intro j m' hj hm' e' he'
      have hj2 : j < D.length := by rcases hj with hj | hj <;> omega
      rw [List.getElem?_append_left hj2] at he'
      rcases hj with hj | ⟨rfl, hj⟩
      · obtain ⟨u, hu, h1, h2⟩ := ha.cov j m' (.inl hj) hm' e' he'
        exact ⟨u, List.mem_append_left _ hu, h1, h2⟩
      · by_cases hmm : m' < m
        · obtain ⟨u, hu, h1, h2⟩ := ha.cov j m' (.inr ⟨rfl, hmm⟩) hm' e' he'
          exact ⟨u, List.mem_append_left _ hu, h1, h2⟩
        · have hmm' : m' = m := by omega
          subst hmm'
          have : e' = e := by rw [he] at he'; exact (Option.some.inj he').symm
          subst this
          exact ⟨(nx e'.1 m', e'.2 ++ [(m' : Int)]), List.mem_append_right _ (by simp), rfl, by rw [codeW_snoc]; omega⟩

theorem expandE_get {nx : S → Nat → S} {s : S} {v : List Int} {D : List (S × List Int)} {i : Nat} {e : S × List Int} (he : D[i]? = some e) (m : Nat) : (expandE nx s v D m)[i]? = some e := by
  obtain ⟨r, h⟩ := expandE_prefix nx s v D m
  have hi : i < D.length := by
    rcases Nat.lt_or_ge i D.length with h1 | h1
    · exact h1
    · rw [List.getElem?_eq_none h1] at he; cases he
  rw [h, List.getElem?_append_left hi, he]

theorem B_expand {nx : S → Nat → S} {M : Nat} {Good : S → Prop} {b0 : S} {D : List (S × List Int)} {i : Nat} {e : S × List Int}
    (hG : ∀ s, Good s → ∀ m, m < M → Good (nx s m)) (h : BInv nx M Good b0 D) (ha : BAt nx M D i 0) (he : D[i]? = some e) :
    ∀ m, m ≤ M → BInv nx M Good b0 (expandE nx e.1 e.2 D m) ∧ BAt nx M (expandE nx e.1 e.2 D m) i m
  | 0, _ => ⟨h, ha⟩
  | m + 1, hm => by
    obtain ⟨h1, h2⟩ := B_expand hG h ha he m (by omega)
    exact B_add hG h1 h2 (expandE_get he m) (by omega)

theorem B_next {nx : S → Nat → S} {M : Nat} {Good : S → Prop} {b0 : S} {D : List (S × List Int)} {i : Nat} {e : S × List Int}
    (h : BInv nx M Good b0 D) (ha : BAt nx M D i M) (he : D[i]? = some e) : BAt nx M D (i + 1) 0 := by
  refine ⟨fun e' he' u hu => ?_, fun j m' hj hm' e' he' => ?_⟩
  · have h1 := ha.low e he u hu
    have hs : codeW M e.2 < codeW M e'.2 := by
      have hl : i < D.length := by
        rcases Nat.lt_or_ge i D.length with h1 | h1
        · exact h1
        · rw [List.getElem?_eq_none h1] at he; cases he
      have hl' : i + 1 < D.length := by
        rcases Nat.lt_or_ge (i + 1) D.length with h1 | h1
        · exact h1
        · rw [List.getElem?_eq_none h1] at he'; cases he'
      have := List.pairwise_iff_getElem.1 h.sorted i (i + 1) hl hl' (by omega)
      rw [List.getElem?_eq_getElem hl] at he
      rw [List.getElem?_eq_getElem hl'] at he'
      cases he; cases he'
      exact this
    have : (codeW M e.2 + 1) * M ≤ codeW M e'.2 * M := Nat.mul_le_mul_right _ hs
    rw [Nat.succ_mul] at this
    omega
  · refine ha.cov j m' ?_ hm' e' he'
    rcases hj with hj | ⟨_, hj⟩
    · rcases Nat.lt_or_ge j i with h1 | h1
      · exact .inl h1
      · exact .inr ⟨by omega, hm'⟩
    · omega

theorem B_run {nx : S → Nat → S} {M N : Nat} {Good : S → Prop} {b0 : S} (hG : ∀ s, Good s → ∀ m, m < M → Good (nx s m)) (hN : ∀ l : List S, l.Nodup → (∀ x ∈ l, Good x) → l.length ≤ N) :
    ∀ (k i : Nat) (D : List (S × List Int)), i + k = N → BInv nx M Good b0 D → BAt nx M D i 0 →
      BInv nx M Good b0 (bfsD nx M k i D) ∧ ∀ j m' : Nat, m' < M → ∀ e : S × List Int, (bfsD nx M k i D)[j]? = some e → ∃ u ∈ bfsD nx M k i D, u.1 = nx e.1 m' ∧ codeW M u.2 ≤ codeW M e.2 * M + m' + 1
  | 0, i, D, hk, h, ha => by
    refine ⟨h, fun j m' hm' e he => ha.cov j m' (.inl ?_) hm' e he⟩
    have hl := hN _ h.nodup (fun x hx => by
      obtain ⟨e, he, rfl⟩ := List.mem_map.1 hx
      exact h.good e he)
    rw [List.length_map] at hl
    simp only [bfsD] at he
    rcases Nat.lt_or_ge j D.length with h1 | h1
    · omega
    · rw [List.getElem?_eq_none h1] at he; cases he
  | k + 1, i, D, hk, h, ha => by
    unfold bfsD
    split
    · rename_i e he
      obtain ⟨h1, h2⟩ := B_expand hG h ha he M (Nat.le_refl _)
      exact B_run hG hN k (i + 1) _ (by omega) h1 (B_next h1 h2 (expandE_get he M))
    · rename_i he
      refine ⟨h, fun j m' hm' e he' => ha.cov j m' (.inl ?_) hm' e he'⟩
      rcases Nat.lt_or_ge j i with h1 | h1
      · exact h1
      · have : i ≥ D.length := by
          rcases Nat.lt_or_ge i D.length with h2 | h2
          · rw [List.getElem?_eq_getElem h2] at he; cases he
          · exact h2
        rw [List.getElem?_eq_none (by omega)] at he'; cases he'

def bfs (nx : S → Nat → S) (M N : Nat) (b0 : S) : List (S × List Int) := bfsD nx M N 0 [(b0, [])]

/-- What is found: each node that is reached, once, by the first word that leads there; words in their order. -/
structure Found (nx : S → Nat → S) (M : Nat) (Good : S → Prop) (b0 : S) (D : List (S × List Int)) : Prop where
  inv : BInv nx M Good b0 D
  least : ∀ w : List Int, (∀ x ∈ w, 0 ≤ x ∧ x < (M : Int)) → ∃ u ∈ D, u.1 = runW nx b0 w ∧ codeW M u.2 ≤ codeW M w

theorem snoc_rec {α : Type} {P : List α → Prop} (h0 : P []) (h1 : ∀ l a, P l → P (l ++ [a])) : ∀ l, P l := by
  intro l
  have : ∀ r : List α, P r.reverse := by
    intro r
    induction r with
    | nil => exact h0
    | cons a r ih => rw [List.reverse_cons]; exact h1 _ _ ih
  have := this l.reverse
  rwa [List.reverse_reverse] at this

theorem bfs_found {nx : S → Nat → S} {M N : Nat} {Good : S → Prop} {b0 : S} (h0 : Good b0) (hG : ∀ s, Good s → ∀ m, m < M → Good (nx s m)) (hN : ∀ l : List S, l.Nodup → (∀ x ∈ l, Good x) → l.length ≤ N) :
    Found nx M Good b0 (bfs nx M N b0) := by
  have hi : BInv nx M Good b0 [(b0, [])] := by
    refine ⟨by simp, by simpa using h0, by simp [runW], by simp, by simp, ?_, rfl⟩
    intro i e he
    match i, he with
    | 0, he => cases he; exact Nat.le_refl 0
  have ha : BAt nx M [(b0, ([] : List Int))] 0 0 := by
    refine ⟨?_, fun j m' hj _ _ _ => by omega⟩
    intro e he u hu
    have : u = (b0, []) := by simpa using hu
    subst this
    show codeW M [] < _
    simp [codeW]
  obtain ⟨h1, h2⟩ := B_run hG hN N 0 _ (by omega) hi ha
  refine ⟨h1, fun w => ?_⟩
  refine snoc_rec (P := fun w => (∀ x ∈ w, 0 ≤ x ∧ x < (M : Int)) → ∃ u ∈ bfs nx M N b0, u.1 = runW nx b0 w ∧ codeW M u.2 ≤ codeW M w) ?_ ?_ w
  · intro _
    exact ⟨(b0, []), List.mem_of_getElem? h1.first, rfl, Nat.le_refl _⟩
  · intro w x ih hw
    obtain ⟨u, hu, hu1, hu2⟩ := ih fun y hy => hw y (List.mem_append_left _ hy)
    have hx := hw x (List.mem_append_right _ (by simp))
    obtain ⟨m, rfl⟩ : ∃ m : Nat, x = (m : Int) := ⟨x.toNat, by omega⟩
    obtain ⟨j, hj, hje⟩ := List.getElem_of_mem hu
    obtain ⟨t, ht, ht1, ht2⟩ := h2 j m (by omega) u ((List.getElem?_eq_getElem hj).trans (congrArg some hje))
    refine ⟨t, ht, ?_, ?_⟩
    · rw [runW_snoc, ← hu1, ht1]
    · rw [codeW_snoc]
      have := Nat.mul_le_mul_right M hu2
      omega

/-! Words that come before. -/
def beforeW : List Int → List Int → Bool
  | x :: a, y :: b => bif x != y then decide (x < y) else beforeW a b
  | a, b => decide (a.length < b.length)
def comesW (a b : List Int) : Bool := decide (a.length < b.length) || (decide (a.length = b.length) && beforeW a b)

theorem fold_lt {M : Nat} : ∀ (a b : List Int) (c d : Nat), a.length = b.length → (∀ x ∈ a, 0 ≤ x ∧ x < (M : Int)) → c < d →
    a.foldl (fun c m => c * M + m.toNat + 1) c < b.foldl (fun c m => c * M + m.toNat + 1) d
  | [], [], _, _, _, _, h => h
  | [], _ :: _, _, _, hl, _, _ => by simp at hl
  | _ :: _, [], _, _, hl, _, _ => by simp at hl
  | x :: a, y :: b, c, d, hl, ha, h => by
    rw [List.foldl_cons, List.foldl_cons]
    refine fold_lt a b _ _ (by simpa using hl) (fun z hz => ha z (List.mem_cons_of_mem _ hz)) ?_
    have hx := ha x List.mem_cons_self
    have : (c + 1) * M ≤ d * M := Nat.mul_le_mul_right _ h
    rw [Nat.succ_mul] at this
    omega

theorem fold_ge {M : Nat} : ∀ (b : List Int) (d : Nat), 0 < M → d ≤ b.foldl (fun c m => c * M + m.toNat + 1) d
  | [], _, _ => Nat.le_refl _
  | y :: b, d, h => by
    rw [List.foldl_cons]
    have := fold_ge b (d * M + y.toNat + 1) h
    have : d * 1 ≤ d * M := Nat.mul_le_mul_left _ h
    omega

theorem before_code {M : Nat} : ∀ (a b : List Int) (c : Nat), a.length = b.length → (∀ x ∈ a, 0 ≤ x ∧ x < (M : Int)) → (∀ x ∈ b, 0 ≤ x ∧ x < (M : Int)) → beforeW a b = true →
    a.foldl (fun c m => c * M + m.toNat + 1) c < b.foldl (fun c m => c * M + m.toNat + 1) c
  | [], [], _, _, _, _, h => by simp [beforeW] at h
  | [], _ :: _, _, hl, _, _, _ => by simp at hl
  | _ :: _, [], _, hl, _, _, _ => by simp at hl
  | x :: a, y :: b, c, hl, ha, hb, h => by
    have hl' : a.length = b.length := by simpa using hl
    have hx := ha x List.mem_cons_self
    have hy := hb y List.mem_cons_self
    rw [List.foldl_cons, List.foldl_cons]
    unfold beforeW at h
    cases he : (x != y)
    · have : x = y := by simpa using he
      subst this
      rw [he] at h
      exact before_code a b _ hl' (fun z hz => ha z (List.mem_cons_of_mem _ hz)) (fun z hz => hb z (List.mem_cons_of_mem _ hz)) h
    · rw [he] at h
      simp only [cond_true, decide_eq_true_eq] at h
      exact fold_lt a b _ _ hl' (fun z hz => ha z (List.mem_cons_of_mem _ hz)) (by omega)

theorem comes_code {M : Nat} (a b : List Int) (ha : ∀ x ∈ a, 0 ≤ x ∧ x < (M : Int)) (hb : ∀ x ∈ b, 0 ≤ x ∧ x < (M : Int)) (h : comesW a b = true) : codeW M a < codeW M b := by
  unfold comesW at h
  simp only [Bool.or_eq_true, Bool.and_eq_true, decide_eq_true_eq] at h
  rcases h with h | ⟨h1, h2⟩
  · -- a is shorter: the first marks of b are worth at least 1
    have hbl : b = b.take (b.length - a.length) ++ b.drop (b.length - a.length) := (List.take_append_drop _ _).symm
    have hne : b ≠ [] := by intro e; subst e; simp at h
    have hM : 0 < M := by
      obtain ⟨y, hy⟩ := List.exists_mem_of_ne_nil b hne
      have := hb y hy
      omega
    unfold codeW
    rw [hbl, List.foldl_append]
    refine fold_lt a _ 0 _ (by rw [List.length_drop]; omega) ha ?_
    match hb2 : b.take (b.length - a.length) with
    | [] =>
      have := congrArg List.length hb2
      rw [List.length_take] at this
      simp at this
      omega
    | y :: r =>
      rw [List.foldl_cons]
      have := fold_ge (M := M) r (0 * M + y.toNat + 1) hM
      omega
  · exact before_code a b 0 h1 ha hb h2
end

theorem nodup_nat : ∀ (N : Nat) (l : List Nat), l.Nodup → (∀ x ∈ l, x < N) → l.length ≤ N
  | 0, l, _, hb => by
    match l, hb with
    | [], _ => simp
    | x :: r, hb => exact absurd (hb x List.mem_cons_self) (by omega)
  | N + 1, l, hl, hb => by
    have ih := nodup_nat N (l.erase N) (hl.erase N) (fun x hx => by
      have h1 := (hl.mem_erase_iff).1 hx
      have := hb x h1.2
      omega)
    by_cases h : N ∈ l
    · rw [List.length_erase_of_mem h] at ih
      omega
    · rw [List.erase_of_not_mem h] at ih
      omega

/-- Whole numbers below one, without any twice, are no more than it. -/
theorem nodup_lt (N : Nat) : ∀ l : List Int, l.Nodup → (∀ x ∈ l, 0 ≤ x ∧ x < (N : Int)) → l.length ≤ N := by
  intro l hl hb
  have h1 : (l.map Int.toNat).Nodup := by
    rw [List.Nodup, List.pairwise_map]
    refine List.Pairwise.imp_of_mem ?_ hl
    intro a b ha hb' hne heq
    have := hb a ha
    have := hb b hb'
    omega
  have := nodup_nat N _ h1 (fun x hx => by
    obtain ⟨y, hy, rfl⟩ := List.mem_map.1 hx
    have := hb y hy
    omega)
  simpa using this

end Go.Abs

set_option linter.unusedSimpArgs false
set_option linter.unusedVariables false
namespace Go.Abs
open Go

theorem mgetE_mputE {κ α : Type} [DecidableEq κ] {eq : κ → κ → Bool} (he : ∀ x y, eq x y = decide (x = y)) (l : List (κ × α)) (x y : κ) (v : α) : mgetE eq (mputE eq l x v) y = if x = y then some v else mgetE eq l y := by
  induction l with
  | nil =>
    by_cases h : x = y
    · subst h
      simp [mputE, mgetE, he]
    · simp [mputE, mgetE, he, h]
  | cons p r ih =>
    unfold mputE
    rw [he]
    by_cases h1 : p.1 = x
    · simp only [h1, decide_true, cond_true, mgetE, he]
      by_cases h2 : x = y
      · simp [h2]
      · simp [h2, h1]
    · simp only [h1, decide_false, cond_false, mgetE, ih, he]
      by_cases h2 : p.1 = y
      · have : ¬ x = y := fun h => h1 (h ▸ h2)
        simp [h2, this]
      · simp [h2]

theorem int_beq (x y : Int) : (x == y) = decide (x = y) := by
  rw [Bool.eq_iff_iff]; simp

theorem pair_beq (x y : Int × Int) : Ty.beq (.pair (.int .i64) (.int .i64)) x y = decide (x = y) := by
  obtain ⟨a, b⟩ := x
  obtain ⟨c, d⟩ := y
  rw [Bool.eq_iff_iff]
  simp [Ty.beq]

def SeenE {κ : Type} [DecidableEq κ] (eq : κ → κ → Bool) (seen : List (κ × Bool)) (D : List (κ × List Int)) : Prop := ∀ x, mgetE eq seen x = if x ∈ D.map Prod.fst then some true else none

theorem expandE_len {S : Type} [DecidableEq S] (nx : S → Nat → S) (s : S) (v : List Int) (D : List (S × List Int)) : ∀ m, (expandE nx s v D m).length ≤ D.length + m
  | 0 => Nat.le_refl _
  | m + 1 => by
    have := expandE_len nx s v D m
    unfold expandE addE
    split
    · omega
    · simp; omega

theorem v140_l0_0 (n : Nat) (f : Int → Int → Option Int) (nx : Int → Nat → Int) (M : Nat) (t7 : Int) (v : List Int) (hM : M ≤ 1000) (hv : v.length ≤ 1000) (hf : ∀ m, m < M → f t7 (m : Int) = some (nx t7 m))
    (D : List (Int × List Int)) (i : Nat) (hi : i ≤ D.length) (hD : D.length ≤ 1000)
    (k0 : Int × (Int → Int → Option Int) × List (Int × Bool) × List (Int × List Int) × Unit → Option (List (Int × List Int))) :
    ∀ (k m fuel : Nat) (seen : List (Int × Bool)), m + k = M → k < fuel → SeenE (fun (a b : Int) => a == b) seen (expandE nx t7 v D m) →
      ∃ seen', SeenE (fun (a b : Int) => a == b) seen' (expandE nx t7 v D M) ∧ loopG (s140_l0_0 n) fuel ((M : Int), f, (M : Int), (m : Int), seen, (expandE nx t7 v D m).drop i, t7, v, ()) (k0, ()) =
        k0 ((M : Int), f, seen', (expandE nx t7 v D M).drop i, ()) := by
  intro k
  induction k with
  | zero =>
    intro m fuel seen hm hfu hs
    have : m = M := by omega
    subst this
    obtain ⟨fuel', rfl⟩ : ∃ k, fuel = k + 1 := ⟨fuel - 1, by omega⟩
    refine ⟨seen, hs, ?_⟩
    rw [loopG]
    have hlt : decide ((m : Int) < (m : Int)) = false := by simp
    simp only [s140_l0_0, hlt, cond_false]
  | succ k ih =>
    intro m fuel seen hm hfu hs
    obtain ⟨fuel', rfl⟩ : ∃ k, fuel = k + 1 := ⟨fuel - 1, by omega⟩
    have hlt : decide ((m : Int) < (M : Int)) = true := by simp; omega
    have hw : IntKind.wrap .i64 ((m : Int) + 1) = ((m + 1 : Nat) : Int) := by rw [wrap_id] <;> omega
    have hlen := expandE_len nx t7 v D m
    obtain ⟨r, hr⟩ := expandE_prefix nx t7 v D m
    have hil : i ≤ (expandE nx t7 v D m).length := by rw [hr, List.length_append]; omega
    rw [loopG]
    simp only [s140_l0_0, hlt, cond_true, hf m (by omega), Option.bind_some, hs (nx t7 m), hw]
    by_cases hin : nx t7 m ∈ (expandE nx t7 v D m).map Prod.fst
    · have he : expandE nx t7 v D (m + 1) = expandE nx t7 v D m := by
        show addE nx t7 v (expandE nx t7 v D m) m = _
        unfold addE
        rw [if_pos hin]
      rw [if_pos hin]
      simp only [Option.getD_some, Bool.not_true, cond_false]
      obtain ⟨seen', h1, h2⟩ := ih (m + 1) fuel' seen (by omega) (by omega) (by rw [he]; exact hs)
      refine ⟨seen', h1, ?_⟩
      rw [← he]
      exact h2
    · have he : expandE nx t7 v D (m + 1) = expandE nx t7 v D m ++ [(nx t7 m, v ++ [(m : Int)])] := by
        show addE nx t7 v (expandE nx t7 v D m) m = _
        unfold addE
        rw [if_neg hin]
      rw [if_neg hin]
      have c1 : chk (List.length v + List.length ([(m : Int)] : List Int)) = some () := chk_ok (by simp; omega)
      have c2 : chk (List.length ((expandE nx t7 v D m).drop i) + List.length ([(nx t7 m, v ++ [(m : Int)])] : List (Int × List Int))) = some () := chk_ok (by rw [List.length_drop]; simp; omega)
      have c3 : s135 n v = some v := by
        unfold s135
        rw [chk_ok (by omega)]
        rfl
      simp only [Option.getD_none, Bool.not_false, cond_true, c3, c1, c2, Option.bind_some]
      obtain ⟨seen', h1, h2⟩ := ih (m + 1) fuel' (mput seen (nx t7 m) true) (by omega) (by omega) (by
        intro x
        rw [mgetE_mputE int_beq, he, hs x, List.map_append]
        by_cases hx : nx t7 m = x
        · subst hx
          simp
        · have : ¬ x = nx t7 m := fun h => hx h.symm
          rw [if_neg hx]
          by_cases hx2 : x ∈ (expandE nx t7 v D m).map Prod.fst
          · rw [if_pos hx2, if_pos (List.mem_append_left _ hx2)]
          · rw [if_neg hx2, if_neg]
            intro h
            rcases List.mem_append.1 h with h | h
            · exact hx2 h
            · exact this (by simpa using h))
      refine ⟨seen', h1, ?_⟩
      have hdr : (expandE nx t7 v D m).drop i ++ [(nx t7 m, v ++ [(m : Int)])] = (expandE nx t7 v D (m + 1)).drop i := by
        rw [he, List.drop_append_of_le_length hil]
      rw [hdr]
      exact h2

theorem v140_l0 (n : Nat) (f : Int → Int → Option Int) (nx : Int → Nat → Int) (M N : Nat) (Good : Int → Prop) (b0 : Int) (hM : M ≤ 1000) (hNl : N ≤ 500) (hMn : M < n) (hf : ∀ s, Good s → ∀ m, m < M → f s (m : Int) = some (nx s m))
    (hG : ∀ s, Good s → ∀ m, m < M → Good (nx s m)) (hN : ∀ l : List Int, l.Nodup → (∀ x ∈ l, Good x) → l.length ≤ N) :
    ∀ (k i fuel : Nat) (D : List (Int × List Int)) (seen : List (Int × Bool)), i + k = N → k < fuel → i ≤ D.length → BInv nx M Good b0 D → BAt nx M D i 0 → SeenE (fun (a b : Int) => a == b) seen D →
      loopG (s140_l0 n) fuel ((M : Int), f, seen, D.drop i, ()) ((fun (_ : Unit) => some ([] : List (Int × List Int))), (fun (_ : Unit) => some ([] : List (Int × List Int))), ()) = some ((bfsD nx M k i D).drop i) := by
  intro k
  induction k with
  | zero =>
    intro i fuel D seen hk hfu hiD hI hA hs
    obtain ⟨fuel', rfl⟩ : ∃ k, fuel = k + 1 := ⟨fuel - 1, by omega⟩
    have hl := hN _ hI.nodup (fun x hx => by
      obtain ⟨e, he, rfl⟩ := List.mem_map.1 hx
      exact hI.good e he)
    rw [List.length_map] at hl
    have hd : D.drop i = [] := List.drop_of_length_le (by omega)
    rw [loopG, bfsD, hd]
    rfl
  | succ k ih =>
    intro i fuel D seen hk hfu hiD hI hA hs
    obtain ⟨fuel', rfl⟩ : ∃ k, fuel = k + 1 := ⟨fuel - 1, by omega⟩
    have hl := hN _ hI.nodup (fun x hx => by
      obtain ⟨e, he, rfl⟩ := List.mem_map.1 hx
      exact hI.good e he)
    rw [List.length_map] at hl
    rw [loopG]
    rcases Nat.lt_or_ge i D.length with h | h
    · have hd : D.drop i = D[i] :: D.drop (i + 1) := List.drop_eq_getElem_cons h
      have hge : D[i]? = some D[i] := List.getElem?_eq_getElem h
      have hmem : D[i] ∈ D := List.getElem_mem h
      generalize D[i] = e at *
      have hpos : decide (((List.length (e :: D.drop (i + 1)) : Nat) : Int) > (0 : Int)) = true := by rw [decide_eq_true_eq, List.length_cons]; omega
      have hg0 : geti (e :: D.drop (i + 1)) (0 : Int) = some e := rfl
      have hcut : cut (e :: D.drop (i + 1)) (1 : Int) ((List.length (e :: D.drop (i + 1)) : Nat) : Int) = some (D.drop (i + 1)) := by
        have := cut_nat (e :: D.drop (i + 1)) 1 (List.length (e :: D.drop (i + 1))) (by simp) (Nat.le_refl _)
        rw [List.take_length] at this
        exact this
      have hvl := hI.len i e hge
      obtain ⟨q1, q2⟩ := B_expand hG hI hA hge M (Nat.le_refl _)
      have q3 := B_next q1 q2 (expandE_get hge M)
      obtain ⟨r, hr⟩ := expandE_prefix nx e.1 e.2 D M
      obtain ⟨seen', h1, h2⟩ := v140_l0_0 n f nx M e.1 e.2 hM (by omega) (fun m hm => hf e.1 (hI.good e hmem) m hm) D (i + 1) (by omega) (by omega)
        (fun x => match x with | (t2, t3, seen_2, queue_2, _) => loopG (s140_l0 n) fuel' (t2, t3, seen_2, queue_2, ()) ((fun (_ : Unit) => some ([] : List (Int × List Int))), (fun (_ : Unit) => some ([] : List (Int × List Int))), ())) M 0 n seen (by omega) hMn hs
      rw [hd]
      simp only [s140_l0, hpos, cond_true, hg0, Option.bind_some, hcut]
      have h2' := h2
      simp only [expandE] at h2'
      rw [show ((0 : Nat) : Int) = (0 : Int) from rfl] at h2'
      rw [h2']
      rw [ih (i + 1) fuel' (expandE nx e.1 e.2 D M) seen' (by omega) (by omega) (by rw [hr, List.length_append]; omega) q1 q3 h1]
      have hb : bfsD nx M (k + 1) i D = bfsD nx M k (i + 1) (expandE nx e.1 e.2 D M) := by
        rw [bfsD, hge]
      rw [hb]
      obtain ⟨r2, hr2⟩ := bfsD_prefix nx M k (i + 1) (expandE nx e.1 e.2 D M)
      have hfin : (bfsD nx M k (i + 1) (expandE nx e.1 e.2 D M)).drop i = e :: (bfsD nx M k (i + 1) (expandE nx e.1 e.2 D M)).drop (i + 1) := by
        rw [hr2, hr]
        have hlt : i < (D ++ r ++ r2).length := by simp; omega
        rw [List.drop_eq_getElem_cons hlt]
        congr 1
        have : (D ++ r ++ r2)[i]? = some e := by rw [List.append_assoc, List.getElem?_append_left h, hge]
        rw [List.getElem?_eq_getElem hlt] at this
        exact Option.some.inj this
      rw [hfin]
      rfl
    · have hd : D.drop i = [] := List.drop_of_length_le h
      have hb : bfsD nx M (k + 1) i D = D := by
        rw [bfsD, List.getElem?_eq_none h]
      rw [hb, hd]
      rfl

theorem v140 (n : Nat) (f : Int → Int → Option Int) (nx : Int → Nat → Int) (M N : Nat) (Good : Int → Prop) (b0 : Int) (hM : M ≤ 1000) (hNl : N ≤ 500) (hMn : M < n) (hNn : N < n) (hf : ∀ s, Good s → ∀ m, m < M → f s (m : Int) = some (nx s m))
    (h0 : Good b0) (hG : ∀ s, Good s → ∀ m, m < M → Good (nx s m)) (hN : ∀ l : List Int, l.Nodup → (∀ x ∈ l, Good x) → l.length ≤ N) :
    s140 n b0 (M : Int) f = some (bfs nx M N b0) := by
  have hi : BInv nx M Good b0 [(b0, [])] := by
    refine ⟨by simp, by simpa using h0, by simp [runW], by simp, by simp, ?_, rfl⟩
    intro i e he
    match i, he with
    | 0, he => cases he; exact Nat.le_refl 0
  have ha : BAt nx M [(b0, ([] : List Int))] 0 0 := by
    refine ⟨?_, fun j m' hj _ _ _ => by omega⟩
    intro e he u hu
    have : u = (b0, []) := by simpa using hu
    subst this
    show codeW M [] < _
    simp [codeW]
  have := v140_l0 n f nx M N Good b0 hM hNl hMn hf hG hN N 0 n [(b0, [])] (mput [] b0 true) (by omega) hNn (by simp) hi ha (by
    intro x
    rw [mgetE_mputE int_beq]
    by_cases hx : b0 = x
    · subst hx; simp
    · have : ¬ x = b0 := fun h => hx h.symm
      rw [if_neg hx]
      simp [mgetE, this])
  unfold s140
  exact this

theorem v134_l0_0 (n : Nat) (f : Int × Int → Int → Option (Int × Int)) (nx : Int × Int → Nat → Int × Int) (M : Nat) (t7 : Int × Int) (v : List Int) (hM : M ≤ 1000) (hv : v.length ≤ 1000) (hf : ∀ m, m < M → f t7 (m : Int) = some (nx t7 m))
    (D : List ((Int × Int) × List Int)) (i : Nat) (hi : i ≤ D.length) (hD : D.length ≤ 1000)
    (k0 : Int × ((Int × Int) → Int → Option (Int × Int)) × List ((Int × Int) × Bool) × List ((Int × Int) × List Int) × Unit → Option (List ((Int × Int) × List Int))) :
    ∀ (k m fuel : Nat) (seen : List ((Int × Int) × Bool)), m + k = M → k < fuel → SeenE (Ty.beq (.pair (.int .i64) (.int .i64))) seen (expandE nx t7 v D m) →
      ∃ seen', SeenE (Ty.beq (.pair (.int .i64) (.int .i64))) seen' (expandE nx t7 v D M) ∧ loopG (s134_l0_0 n) fuel ((M : Int), f, (M : Int), (m : Int), seen, (expandE nx t7 v D m).drop i, t7.1, t7.2, v, ()) (k0, ()) =
        k0 ((M : Int), f, seen', (expandE nx t7 v D M).drop i, ()) := by
  intro k
  induction k with
  | zero =>
    intro m fuel seen hm hfu hs
    have : m = M := by omega
    subst this
    obtain ⟨fuel', rfl⟩ : ∃ k, fuel = k + 1 := ⟨fuel - 1, by omega⟩
    refine ⟨seen, hs, ?_⟩
    rw [loopG]
    have hlt : decide ((m : Int) < (m : Int)) = false := by simp
    simp only [s134_l0_0, hlt, cond_false]
  | succ k ih =>
    intro m fuel seen hm hfu hs
    obtain ⟨fuel', rfl⟩ : ∃ k, fuel = k + 1 := ⟨fuel - 1, by omega⟩
    have hlt : decide ((m : Int) < (M : Int)) = true := by simp; omega
    have hw : IntKind.wrap .i64 ((m : Int) + 1) = ((m + 1 : Nat) : Int) := by rw [wrap_id] <;> omega
    have hlen := expandE_len nx t7 v D m
    obtain ⟨r, hr⟩ := expandE_prefix nx t7 v D m
    have hil : i ≤ (expandE nx t7 v D m).length := by rw [hr, List.length_append]; omega
    rw [loopG]
    simp only [s134_l0_0, hlt, cond_true, hf m (by omega), Option.bind_some, hs (nx t7 m), hw]
    by_cases hin : nx t7 m ∈ (expandE nx t7 v D m).map Prod.fst
    · have he : expandE nx t7 v D (m + 1) = expandE nx t7 v D m := by
        show addE nx t7 v (expandE nx t7 v D m) m = _
        unfold addE
        rw [if_pos hin]
      rw [if_pos hin]
      simp only [Option.getD_some, Bool.not_true, cond_false]
      obtain ⟨seen', h1, h2⟩ := ih (m + 1) fuel' seen (by omega) (by omega) (by rw [he]; exact hs)
      refine ⟨seen', h1, ?_⟩
      rw [← he]
      exact h2
    · have he : expandE nx t7 v D (m + 1) = expandE nx t7 v D m ++ [(nx t7 m, v ++ [(m : Int)])] := by
        show addE nx t7 v (expandE nx t7 v D m) m = _
        unfold addE
        rw [if_neg hin]
      rw [if_neg hin]
      have c1 : chk (List.length v + List.length ([(m : Int)] : List Int)) = some () := chk_ok (by simp; omega)
      have c2 : chk (List.length ((expandE nx t7 v D m).drop i) + List.length ([(nx t7 m, v ++ [(m : Int)])] : List ((Int × Int) × List Int))) = some () := chk_ok (by rw [List.length_drop]; simp; omega)
      have c3 : s135 n v = some v := by
        unfold s135
        rw [chk_ok (by omega)]
        rfl
      simp only [Option.getD_none, Bool.not_false, cond_true, c3, c1, c2, Option.bind_some]
      obtain ⟨seen', h1, h2⟩ := ih (m + 1) fuel' (mputE (Ty.beq (.pair (.int .i64) (.int .i64))) seen (nx t7 m) true) (by omega) (by omega) (by
        intro x
        rw [mgetE_mputE pair_beq, he, hs x, List.map_append]
        by_cases hx : nx t7 m = x
        · subst hx
          simp
        · have : ¬ x = nx t7 m := fun h => hx h.symm
          rw [if_neg hx]
          by_cases hx2 : x ∈ (expandE nx t7 v D m).map Prod.fst
          · rw [if_pos hx2, if_pos (List.mem_append_left _ hx2)]
          · rw [if_neg hx2, if_neg]
            intro h
            rcases List.mem_append.1 h with h | h
            · exact hx2 h
            · exact this (by simpa using h))
      refine ⟨seen', h1, ?_⟩
      have hdr : (expandE nx t7 v D m).drop i ++ [(nx t7 m, v ++ [(m : Int)])] = (expandE nx t7 v D (m + 1)).drop i := by
        rw [he, List.drop_append_of_le_length hil]
      rw [hdr]
      exact h2

theorem v134_l0 (n : Nat) (f : Int × Int → Int → Option (Int × Int)) (nx : Int × Int → Nat → Int × Int) (M N : Nat) (Good : Int × Int → Prop) (b0 : Int × Int) (hM : M ≤ 1000) (hNl : N ≤ 500) (hMn : M < n) (hf : ∀ s, Good s → ∀ m, m < M → f s (m : Int) = some (nx s m))
    (hG : ∀ s, Good s → ∀ m, m < M → Good (nx s m)) (hN : ∀ l : List (Int × Int), l.Nodup → (∀ x ∈ l, Good x) → l.length ≤ N) :
    ∀ (k i fuel : Nat) (D : List ((Int × Int) × List Int)) (seen : List ((Int × Int) × Bool)), i + k = N → k < fuel → i ≤ D.length → BInv nx M Good b0 D → BAt nx M D i 0 → SeenE (Ty.beq (.pair (.int .i64) (.int .i64))) seen D →
      loopG (s134_l0 n) fuel ((M : Int), f, seen, D.drop i, ()) ((fun (_ : Unit) => some ([] : List ((Int × Int) × List Int))), (fun (_ : Unit) => some ([] : List ((Int × Int) × List Int))), ()) = some ((bfsD nx M k i D).drop i) := by
  intro k
  induction k with
  | zero =>
    intro i fuel D seen hk hfu hiD hI hA hs
    obtain ⟨fuel', rfl⟩ : ∃ k, fuel = k + 1 := ⟨fuel - 1, by omega⟩
    have hl := hN _ hI.nodup (fun x hx => by
      obtain ⟨e, he, rfl⟩ := List.mem_map.1 hx
      exact hI.good e he)
    rw [List.length_map] at hl
    have hd : D.drop i = [] := List.drop_of_length_le (by omega)
    rw [loopG, bfsD, hd]
    rfl
  | succ k ih =>
    intro i fuel D seen hk hfu hiD hI hA hs
    obtain ⟨fuel', rfl⟩ : ∃ k, fuel = k + 1 := ⟨fuel - 1, by omega⟩
    have hl := hN _ hI.nodup (fun x hx => by
      obtain ⟨e, he, rfl⟩ := List.mem_map.1 hx
      exact hI.good e he)
    rw [List.length_map] at hl
    rw [loopG]
    rcases Nat.lt_or_ge i D.length with h | h
    · have hd : D.drop i = D[i] :: D.drop (i + 1) := List.drop_eq_getElem_cons h
      have hge : D[i]? = some D[i] := List.getElem?_eq_getElem h
      have hmem : D[i] ∈ D := List.getElem_mem h
      generalize D[i] = e at *
      have hpos : decide (((List.length (e :: D.drop (i + 1)) : Nat) : Int) > (0 : Int)) = true := by rw [decide_eq_true_eq, List.length_cons]; omega
      have hg0 : geti (e :: D.drop (i + 1)) (0 : Int) = some e := rfl
      have hcut : cut (e :: D.drop (i + 1)) (1 : Int) ((List.length (e :: D.drop (i + 1)) : Nat) : Int) = some (D.drop (i + 1)) := by
        have := cut_nat (e :: D.drop (i + 1)) 1 (List.length (e :: D.drop (i + 1))) (by simp) (Nat.le_refl _)
        rw [List.take_length] at this
        exact this
      have hvl := hI.len i e hge
      obtain ⟨q1, q2⟩ := B_expand hG hI hA hge M (Nat.le_refl _)
      have q3 := B_next q1 q2 (expandE_get hge M)
      obtain ⟨r, hr⟩ := expandE_prefix nx e.1 e.2 D M
      obtain ⟨seen', h1, h2⟩ := v134_l0_0 n f nx M e.1 e.2 hM (by omega) (fun m hm => hf e.1 (hI.good e hmem) m hm) D (i + 1) (by omega) (by omega)
        (fun x => match x with | (t2, t3, seen_2, queue_2, _) => loopG (s134_l0 n) fuel' (t2, t3, seen_2, queue_2, ()) ((fun (_ : Unit) => some ([] : List ((Int × Int) × List Int))), (fun (_ : Unit) => some ([] : List ((Int × Int) × List Int))), ())) M 0 n seen (by omega) hMn hs
      rw [hd]
      simp only [s134_l0, hpos, cond_true, hg0, Option.bind_some, hcut]
      have h2' := h2
      simp only [expandE] at h2'
      rw [show ((0 : Nat) : Int) = (0 : Int) from rfl] at h2'
      rw [h2']
      rw [ih (i + 1) fuel' (expandE nx e.1 e.2 D M) seen' (by omega) (by omega) (by rw [hr, List.length_append]; omega) q1 q3 h1]
      have hb : bfsD nx M (k + 1) i D = bfsD nx M k (i + 1) (expandE nx e.1 e.2 D M) := by
        rw [bfsD, hge]
      rw [hb]
      obtain ⟨r2, hr2⟩ := bfsD_prefix nx M k (i + 1) (expandE nx e.1 e.2 D M)
      have hfin : (bfsD nx M k (i + 1) (expandE nx e.1 e.2 D M)).drop i = e :: (bfsD nx M k (i + 1) (expandE nx e.1 e.2 D M)).drop (i + 1) := by
        rw [hr2, hr]
        have hlt : i < (D ++ r ++ r2).length := by simp; omega
        rw [List.drop_eq_getElem_cons hlt]
        congr 1
        have : (D ++ r ++ r2)[i]? = some e := by rw [List.append_assoc, List.getElem?_append_left h, hge]
        rw [List.getElem?_eq_getElem hlt] at this
        exact Option.some.inj this
      rw [hfin]
      rfl
    · have hd : D.drop i = [] := List.drop_of_length_le h
      have hb : bfsD nx M (k + 1) i D = D := by
        rw [bfsD, List.getElem?_eq_none h]
      rw [hb, hd]
      rfl

theorem v134 (n : Nat) (f : Int × Int → Int → Option (Int × Int)) (nx : Int × Int → Nat → Int × Int) (M N : Nat) (Good : Int × Int → Prop) (b0 : Int × Int) (hM : M ≤ 1000) (hNl : N ≤ 500) (hMn : M < n) (hNn : N < n) (hf : ∀ s, Good s → ∀ m, m < M → f s (m : Int) = some (nx s m))
    (h0 : Good b0) (hG : ∀ s, Good s → ∀ m, m < M → Good (nx s m)) (hN : ∀ l : List (Int × Int), l.Nodup → (∀ x ∈ l, Good x) → l.length ≤ N) :
    s134 n b0 (M : Int) f = some (bfs nx M N b0) := by
  have hi : BInv nx M Good b0 [(b0, [])] := by
    refine ⟨by simp, by simpa using h0, by simp [runW], by simp, by simp, ?_, rfl⟩
    intro i e he
    match i, he with
    | 0, he => cases he; exact Nat.le_refl 0
  have ha : BAt nx M [(b0, ([] : List Int))] 0 0 := by
    refine ⟨?_, fun j m' hj _ _ _ => by omega⟩
    intro e he u hu
    have : u = (b0, []) := by simpa using hu
    subst this
    show codeW M [] < _
    simp [codeW]
  have := v134_l0 n f nx M N Good b0 hM hNl hMn hf hG hN N 0 n [(b0, [])] (mputE (Ty.beq (.pair (.int .i64) (.int .i64))) [] b0 true) (by omega) hNn (by simp) hi ha (by
    intro x
    rw [mgetE_mputE pair_beq]
    by_cases hx : b0 = x
    · subst hx; simp
    · have : ¬ x = b0 := fun h => hx h.symm
      rw [if_neg hx]
      simp [mgetE, this])
  unfold s134
  exact this

end Go.Abs

set_option linter.unusedSimpArgs false
set_option linter.unusedVariables false
namespace Go.Abs
open Go

/-! A rule book's classes as nodes. -/
def nxB (b : Book) (k : Int) (m : Nat) : Int := (stepTo b.2.2 k (m : Int)).getD 0
def inB (b : Book) (k : Int) : Prop := 0 ≤ k ∧ k < (b.2.2.length : Int)
theorem GoodB.nx {b : Book} (h : GoodB b) {k : Int} (hk : inB b k) {m : Nat} (hm : m < b.1.length) : stepTo b.2.2 k (m : Int) = some (nxB b k m) ∧ inB b (nxB b k m) := by
  obtain ⟨k', h1, h2⟩ := h.step hk (show 0 ≤ (m : Int) ∧ (m : Int) < (b.1.length : Int) by omega)
  unfold nxB
  rw [h1]
  exact ⟨rfl, h2⟩

/-- All classes that are reached from one, with the first marks that reach each. -/
def reachB (b : Book) (k : Int) : List (Int × List Int) := bfs (nxB b) b.1.length b.2.2.length k

theorem reachB_found {b : Book} (h : GoodB b) {k : Int} (hk : inB b k) : Found (nxB b) b.1.length (inB b) k (reachB b k) :=
  bfs_found hk (fun s hs m hm => (h.nx hs hm).2) (fun l hl hb => nodup_lt _ l hl hb)

theorem v83 (n : Nat) (b : Book) (hf : Fuel n) (h : GoodB b) (k : Int) (hk : inB b k) : s83 n b k = some (reachB b k) := by
  have hlo := hf.lo
  have h1 := h.marks
  have h2 := h.classes
  unfold s83 s118
  rw [v140 n _ (nxB b) b.1.length b.2.2.length (inB b) k (by omega) (by omega) (by omega) (by omega) (fun s hs m hm => ?_) hk (fun s hs m hm => (h.nx hs hm).2) (fun l hl hb => nodup_lt _ l hl hb)]
  · rfl
  · have := (h.nx hs hm).1
    unfold stepTo at this
    unfold s114
    show ((geti b.2.2 s).bind fun e => (geti e.2.1 (m : Int)).bind fun e_1 => some e_1) = _
    rw [← this]
    cases geti b.2.2 s with
    | none => rfl
    | some c =>
      simp only [Option.bind_some]
      cases geti c.2.1 (m : Int) <;> rfl

theorem v20_range (n : Nat) (c : Int) (done : _ → Option (List Int × Int)) (t : List (Int × List Int)) : ∀ (l : List (Int × List Int)),
    rangeG (s20_l0 n) ((fun (x : List Int × Int × Unit) => match x with | (t4, t5_2, _) => some (t4, t5_2)), ()) done l (t, c, (0 : Int), ()) =
      match l.find? (fun e => e.1 == c) with
      | some e => some (e.2, 0)
      | none => done (t, c, (0 : Int), ())
  | [] => rfl
  | y :: l => by
    rw [rangeG]
    simp only [s20_l0, List.find?_cons]
    cases h : (y.1 == c)
    · exact v20_range n c done t l
    · rfl

def sheetErrTo (b : Book) (c : Int) : Int := firstErr [(bookErr b).2, unl (inR c 0 ((b.2.2.length : Int) - 1)) 6]

theorem v20_bad (n : Nat) (b : Book) (hf : Fuel n) (hb : fitB n b) (c : Int) (he : (sheetErrTo b c == 0) = false) : s20 n b c = some ([], sheetErrTo b c) := by
  have hlo := hf.lo
  unfold s20
  simp only [show ((b.1, (b.2.1, b.2.2)) : Book) = b from rfl, v79 n b hf hb, Option.bind_some, lenPred hf hb.2.2.1, v82, v81, v80 n [_, _] (by simp [maxLen]) (by simp; omega), bne]
  rw [show firstErr [(bookErr b).2, unl (inR c 0 ((b.2.2.length : Int) - 1)) 6] = sheetErrTo b c from rfl, he]
  rfl

theorem v20_ok (n : Nat) (b : Book) (hf : Fuel n) (hb : fitB n b) (c : Int) (he : sheetErrTo b c = 0) (hg : GoodB b) :
    s20 n b c = some (match (reachB b b.2.1).find? (fun e => e.1 == c) with | some e => (e.2, 0) | none => ([], 12)) := by
  have hlo := hf.lo
  unfold s20
  simp only [show ((b.1, (b.2.1, b.2.2)) : Book) = b from rfl, v79 n b hf hb, Option.bind_some, lenPred hf hb.2.2.1, v82, v81, v80 n [_, _] (by simp [maxLen]) (by simp; omega), bne]
  rw [show firstErr [(bookErr b).2, unl (inR c 0 ((b.2.2.length : Int) - 1)) 6] = sheetErrTo b c from rfl, he]
  simp only [beq_self_eq_true, Bool.not_true, cond_false, show ((b.1, b.2.1, b.2.2) : Book) = b from rfl, v83 n b hf hg b.2.1 hg.begin', Option.bind_some]
  rw [v20_range]
  cases (reachB b b.2.1).find? (fun e => e.1 == c) <;> rfl

/-- Where marks lead to. -/
theorem at_run {b : Book} (h : GoodB b) : (l : List Int) → (∀ m ∈ l, 0 ≤ m ∧ m < (b.1.length : Int)) → (k : Int) → inB b k → ∃ w, walkO b.2.2 k l = some w ∧ lastI w = runW (nxB b) k l
  | [], _, k, hk => ⟨[k], rfl, rfl⟩
  | m :: l, hl, k, hk => by
    have hm := hl m List.mem_cons_self
    obtain ⟨j, rfl⟩ : ∃ j : Nat, m = (j : Int) := ⟨m.toNat, by omega⟩
    obtain ⟨h1, h2⟩ := h.nx hk (m := j) (by omega)
    obtain ⟨w, h3, h4⟩ := at_run h l (fun x hx => hl x (List.mem_cons_of_mem _ hx)) _ h2
    refine ⟨k :: w, ?_, ?_⟩
    · simp only [walkO, h1, Option.bind_some, h3, Option.map_some]
    · obtain ⟨r, hr, _⟩ := walkO_ne h3
      have : lastI (k :: w) = lastI w := by rw [hr]; simp [lastI]
      rw [this, h4]
      simp [runW]

end Go.Abs

set_option linter.unusedSimpArgs false
set_option linter.unusedVariables false
namespace Go.Abs
open Go

/-! Ranks. -/
def rankW (s : Txt) : Txt := s.takeWhile fun c => c != 45

theorem index_take (s : Txt) : (Lib.indexByte s 45 = -1 ∧ rankW s = s) ∨ ∃ k : Nat, Lib.indexByte s 45 = (k : Int) ∧ k < s.length ∧ rankW s = s.take k := by
  induction s with
  | nil => exact .inl ⟨rfl, rfl⟩
  | cons b l ih =>
    unfold Lib.indexByte rankW
    by_cases hb : b = 45
    · subst hb
      exact .inr ⟨0, by simp, by simp, by simp⟩
    · have e1 : (b == 45) = false := by simpa using hb
      have e2 : (b != 45) = true := by simpa using hb
      rw [e1, List.takeWhile_cons_of_pos (p := fun c => c != 45) e2]
      rcases ih with ⟨h1, h2⟩ | ⟨k, h1, h2, h3⟩
      · rw [h1]
        exact .inl ⟨by simp, by congr 1⟩
      · have e3 : ((k : Int) == -1) = false := by rw [beq_eq_false_iff_ne]; omega
        rw [h1, e3]
        refine .inr ⟨k + 1, by simp, by simpa using h2, ?_⟩
        rw [List.take_succ_cons]
        congr 1

theorem v136 (n : Nat) (s : Txt) (hs : s.length ≤ 1000) : ∃ y z, s136 n s [45] = some (rankW s, y, z) := by
  unfold s136 s145 s157
  simp only [Option.bind_some]
  rcases index_take s with ⟨h1, h2⟩ | ⟨k, h1, h2, h3⟩
  · rw [h1, h2]
    exact ⟨_, _, rfl⟩
  · have hd : decide ((k : Int) ≥ 0) = true := by simp
    have hc1 : cut s 0 (k : Int) = some (s.take k) := cut_zero s k (by omega)
    have hw : IntKind.wrap .i64 ((k : Int) + ((List.length ([45] : List UInt8) : Nat) : Int)) = ((k + 1 : Nat) : Int) := by rw [wrap_id] <;> simp <;> omega
    have hc2 : cut s ((k + 1 : Nat) : Int) ((List.length s : Nat) : Int) = some ((s.take s.length).drop (k + 1)) := cut_nat s (k + 1) s.length (by omega) (Nat.le_refl _)
    rw [h1, hd, hw]
    simp only [cond_true, hc1, hc2, Option.bind_some, h3]
    exact ⟨_, _, rfl⟩

/-- The rank of a class. -/
def rankC (b : Book) (k : Int) : Txt := rankW ((b.2.2.getD k.toNat ([], [], [])).1)

theorem geti_cls {b : Book} {k : Int} (h : inB b k) : geti b.2.2 k = some (b.2.2.getD k.toNat ([], [], [])) ∧ b.2.2.getD k.toNat ([], [], []) ∈ b.2.2 := by
  obtain ⟨h0, h1⟩ := h
  have e : b.2.2.getD k.toNat ([], [], []) = b.2.2[k.toNat]'(by omega) := by rw [List.getD_eq_getElem?_getD, List.getElem?_eq_getElem (by omega)]; rfl
  rw [e]
  exact ⟨geti_of h0 h1, List.getElem_mem _⟩

theorem v116 (n : Nat) (hf : Fuel n) (b : Book) (hn : ∀ c ∈ b.2.2, c.1.length ≤ 1000) {k : Int} (h : inB b k) : s116 n b k = some (rankC b k) := by
  obtain ⟨h1, h2⟩ := geti_cls h
  unfold s116
  rw [h1, Option.bind_some]
  obtain ⟨y, z, h3⟩ := v136 n (b.2.2.getD k.toNat ([], [], [])).1 (hn _ h2)
  rw [h3]
  rfl

theorem v63 (n : Nat) (hf : Fuel n) (s : Txt) (hs : s.length ≤ 1000) : s63 n s = some (rankW s) := by
  have hlo := hf.lo
  unfold s63
  refine (list_loop0 s (fun i => (s, (i : Int), ())) (fun i r => some (s.take i ++ rankW r)) (by unfold maxLen; omega) ?_ ?_ (by omega)).trans (by simp)
  · intro i c r hi hx hd hg hlt hw again ih
    have hcut : cut s 0 (i : Int) = some (s.take i) := cut_zero s i (by omega)
    have hcc : (((UInt8.toNat c : Nat) : Int) == (45 : Int)) = (c == 45) := by
      rw [Bool.eq_iff_iff]
      simp only [beq_iff_eq]
      constructor
      · intro h
        have : c.toNat = 45 := by omega
        exact UInt8.toNat.inj this
      · rintro rfl; rfl
    simp only [s63_l0, hlt, cond_true, hg, Option.bind_some, hw, hcut, hcc]
    unfold rankW
    by_cases hc : c = 45
    · subst hc
      simp
    · have e1 : (c == 45) = false := by simpa using hc
      have e2 : (c != 45) = true := by simpa using hc
      rw [e1, List.takeWhile_cons_of_pos (p := fun c => c != 45) e2]
      simp only [cond_false]
      rw [ih, ← take_add_one' s i c hx]
      simp [rankW]
  · intro hlt again
    simp only [s63_l0, hlt, cond_false, List.take_length, rankW, List.takeWhile_nil, List.append_nil]
where
  take_add_one' {α : Type} (l : List α) (i : Nat) (x : α) (h : l[i]? = some x) : l.take i ++ [x] = l.take (i + 1) := by
    rw [List.take_add_one, h]
    rfl

/-! The reference's search. -/
def knownOf (N : Nat) (D : List (Int × List Int)) : List Bool := (List.range N).map fun (k : Nat) => D.any fun e => e.1 == (k : Int)
def marksOf (N : Nat) (D : List (Int × List Int)) : List (List Int) := (List.range N).map fun (k : Nat) => ((D.find? fun e => e.1 == (k : Int)).map (·.2)).getD []

theorem any_mem (D : List (Int × List Int)) (k : Int) : (D.any fun e => e.1 == k) = decide (k ∈ D.map Prod.fst) := by
  rw [Bool.eq_iff_iff, List.any_eq_true, decide_eq_true_eq, List.mem_map]
  constructor
  · rintro ⟨e, he, h⟩; exact ⟨e, he, by simpa using h⟩
  · rintro ⟨e, he, h⟩; exact ⟨e, he, by simpa using h⟩

theorem range_get {α : Type} {N : Nat} {g : Nat → α} {i : Nat} (h : i < N) : geti ((List.range N).map g) (i : Int) = some (g i) := by
  rw [geti_nat, List.getElem?_map, List.getElem?_range h]; rfl

theorem range_set {α : Type} {N : Nat} {g : Nat → α} {i : Nat} {x : α} (h : i < N) : seti ((List.range N).map g) (i : Int) x = some ((List.range N).map fun k => if k = i then x else g k) := by
  rw [seti_nat _ _ _ (by simpa using h)]
  congr 1
  apply List.ext_getElem?
  intro j
  rw [List.getElem?_set, List.getElem?_map, List.getElem?_map]
  by_cases hj : j < N
  · rw [List.getElem?_range hj]
    by_cases hij : i = j
    · subst hij; simp [h]
    · have : ¬ j = i := fun e => hij e.symm
      simp [hij, this]
  · rw [List.getElem?_eq_none (l := List.range N) (by simpa using hj)]
    have : ¬ i = j := by omega
    simp [this]

theorem find_app {D : List (Int × List Int)} {k : Int} {e : Int × List Int} (h : e.1 ∉ D.map Prod.fst) : ((D ++ [e]).find? fun z => z.1 == k) = if k = e.1 then some e else D.find? fun z => z.1 == k := by
  rw [List.find?_append]
  by_cases hk : k = e.1
  · subst hk
    have : (D.find? fun z => z.1 == e.1) = none := by
      rw [List.find?_eq_none]
      intro z hz
      have : z.1 ≠ e.1 := fun h2 => h (h2 ▸ List.mem_map_of_mem hz)
      simpa using this
    simp [this]
  · have : (e.1 == k) = false := by simpa using fun h => hk h.symm
    simp [hk, this]

theorem find_at {D : List (Int × List Int)} (hn : (D.map Prod.fst).Nodup) {e : Int × List Int} (he : e ∈ D) : (D.find? fun z => z.1 == e.1) = some e := by
  induction D with
  | nil => cases he
  | cons d D ih =>
    rw [List.map_cons, List.nodup_cons] at hn
    rcases List.mem_cons.1 he with rfl | he
    · simp
    · have : d.1 ≠ e.1 := fun h => hn.1 (h ▸ List.mem_map_of_mem he)
      have e2 : (d.1 == e.1) = false := by simpa using this
      rw [List.find?_cons, e2]
      exact ih hn.2 he

theorem expandE_nodup {S : Type} [DecidableEq S] (nx : S → Nat → S) (s : S) (v : List Int) (D : List (S × List Int)) (h : (D.map Prod.fst).Nodup) : ∀ m, ((expandE nx s v D m).map Prod.fst).Nodup
  | 0 => h
  | m + 1 => by
    have ih := expandE_nodup nx s v D h m
    unfold expandE addE
    split
    · exact ih
    · rename_i hin
      rw [List.map_append, List.nodup_append]
      refine ⟨ih, by simp, fun x hx y hy => ?_⟩
      have : y = nx s m := by simpa using hy
      subst this
      exact fun heq => hin (heq ▸ hx)

theorem v122_l0_0 (n : Nat) (hf : Fuel n) (b : Book) (hg : GoodB b) (e : Int × List Int) (hk : inB b e.1) (hv : e.2.length ≤ 1000) (D : List (Int × List Int)) (i : Nat) (he : D[i]? = some e) (hnd : (D.map Prod.fst).Nodup) (hD : D.length ≤ 1000)
    (k0 : Int × List Txt × Int × List Cls × List (List Int) × List Bool × List Int × Unit → Option (List (List Int) × List Bool × List Int)) :
    ∀ (k m fuel : Nat), m + k = b.1.length → k < fuel →
      loopG (s122_l0_0 n) fuel ((i : Int), (m : Int), b.1, b.2.1, b.2.2, marksOf b.2.2.length (expandE (nxB b) e.1 e.2 D m), knownOf b.2.2.length (expandE (nxB b) e.1 e.2 D m), (expandE (nxB b) e.1 e.2 D m).map Prod.fst, ()) (k0, ()) =
        k0 ((i : Int), b.1, b.2.1, b.2.2, marksOf b.2.2.length (expandE (nxB b) e.1 e.2 D b.1.length), knownOf b.2.2.length (expandE (nxB b) e.1 e.2 D b.1.length), (expandE (nxB b) e.1 e.2 D b.1.length).map Prod.fst, ()) := by
  have hM := hg.marks
  have hN := hg.classes
  intro k
  induction k with
  | zero =>
    intro m fuel hm hfu
    have : m = b.1.length := by omega
    subst this
    obtain ⟨fuel', rfl⟩ : ∃ k, fuel = k + 1 := ⟨fuel - 1, by omega⟩
    rw [loopG]
    have hlt : decide (((b.1.length : Nat) : Int) < ((List.length b.1 : Nat) : Int)) = false := by simp
    simp only [s122_l0_0, hlt, cond_false]
  | succ k ih =>
    intro m fuel hm hfu
    obtain ⟨fuel', rfl⟩ : ∃ k, fuel = k + 1 := ⟨fuel - 1, by omega⟩
    have hlt : decide ((m : Int) < ((List.length b.1 : Nat) : Int)) = true := by rw [decide_eq_true_eq]; omega
    have hw : IntKind.wrap .i64 ((m : Int) + 1) = ((m + 1 : Nat) : Int) := by rw [wrap_id] <;> omega
    have hlen := expandE_len (nxB b) e.1 e.2 D m
    have hge := expandE_get (nx := nxB b) (s := e.1) (v := e.2) he m
    have hmem := List.mem_of_getElem? hge
    have hnd' := expandE_nodup (nxB b) e.1 e.2 D hnd m
    have hord : geti ((expandE (nxB b) e.1 e.2 D m).map Prod.fst) (i : Int) = some e.1 := by rw [geti_nat, List.getElem?_map, hge]; rfl
    obtain ⟨hs1, hs2⟩ := hg.nx hk (m := m) (by omega)
    obtain ⟨hc1, _⟩ := geti_cls hk
    have hstep : geti (b.2.2.getD e.1.toNat ([], [], [])).2.1 (m : Int) = some (nxB b e.1 m) := by
      unfold stepTo at hs1
      rw [hc1, Option.bind_some] at hs1
      exact hs1
    obtain ⟨x, hx⟩ : ∃ x : Nat, nxB b e.1 m = (x : Int) := ⟨(nxB b e.1 m).toNat, by have := hs2.1; omega⟩
    obtain ⟨s, hs⟩ : ∃ s : Nat, e.1 = (s : Int) := ⟨e.1.toNat, by have := hk.1; omega⟩
    have hxN : x < b.2.2.length := by have := hs2.2; omega
    have hsN : s < b.2.2.length := by have := hk.2; omega
    rw [loopG]
    have hkn : geti (knownOf b.2.2.length (expandE (nxB b) e.1 e.2 D m)) (nxB b e.1 m) = some (decide (nxB b e.1 m ∈ (expandE (nxB b) e.1 e.2 D m).map Prod.fst)) := by
      rw [hx]
      unfold knownOf
      rw [range_get hxN, any_mem]
    simp only [s122_l0_0, hlt, cond_true, hord, Option.bind_some, hc1, hstep, hkn, hw]
    by_cases hin : nxB b e.1 m ∈ (expandE (nxB b) e.1 e.2 D m).map Prod.fst
    · have hee : expandE (nxB b) e.1 e.2 D (m + 1) = expandE (nxB b) e.1 e.2 D m := by
        show addE (nxB b) e.1 e.2 (expandE (nxB b) e.1 e.2 D m) m = _
        unfold addE
        rw [if_pos hin]
      have hdi : decide (nxB b e.1 m ∈ (expandE (nxB b) e.1 e.2 D m).map Prod.fst) = true := by simpa using hin
      rw [hdi]
      simp only [Bool.not_true, cond_false]
      have := ih (m + 1) fuel' (by omega) (by omega)
      rw [hee] at this
      exact this
    · have hee : expandE (nxB b) e.1 e.2 D (m + 1) = expandE (nxB b) e.1 e.2 D m ++ [(nxB b e.1 m, e.2 ++ [(m : Int)])] := by
        show addE (nxB b) e.1 e.2 (expandE (nxB b) e.1 e.2 D m) m = _
        unfold addE
        rw [if_neg hin]
      have hdi : decide (nxB b e.1 m ∈ (expandE (nxB b) e.1 e.2 D m).map Prod.fst) = false := by simpa using hin
      rw [hdi]
      have hmk : geti (marksOf b.2.2.length (expandE (nxB b) e.1 e.2 D m)) e.1 = some e.2 := by
        have hf := find_at hnd' hmem
        rw [hs] at hf ⊢
        unfold marksOf
        rw [range_get hsN, hf]
        rfl
      have h27 : s27 n e.2 = some e.2 := v27 n e.2 hf (by unfold Lt; have := hf.lo; omega)
      have c1 : chk (List.length e.2 + List.length ([(m : Int)] : List Int)) = some () := chk_ok (by simp; omega)
      have c2 : chk (List.length ((expandE (nxB b) e.1 e.2 D m).map Prod.fst) + List.length ([nxB b e.1 m] : List Int)) = some () := chk_ok (by simp; omega)
      obtain ⟨mm, hmm⟩ : ∃ mm, geti (marksOf b.2.2.length (expandE (nxB b) e.1 e.2 D m)) (nxB b e.1 m) = some mm := by
        rw [hx]; unfold marksOf; exact ⟨_, range_get hxN⟩
      have hset1 : seti (knownOf b.2.2.length (expandE (nxB b) e.1 e.2 D m)) (nxB b e.1 m) true = some (knownOf b.2.2.length (expandE (nxB b) e.1 e.2 D (m + 1))) := by
        rw [hee, hx]
        unfold knownOf
        rw [range_set hxN]
        congr 1
        apply List.map_congr_left
        intro j _
        rw [List.any_append]
        by_cases hj : j = x
        · subst hj; simp
        · have : ¬ (x : Int) = (j : Int) := by omega
          simp [hj, this]
      have hset2 : seti (marksOf b.2.2.length (expandE (nxB b) e.1 e.2 D m)) (nxB b e.1 m) (e.2 ++ [(m : Int)]) = some (marksOf b.2.2.length (expandE (nxB b) e.1 e.2 D (m + 1))) := by
        rw [hee]
        have hfa := fun k => find_app (D := expandE (nxB b) e.1 e.2 D m) (k := k) (e := (nxB b e.1 m, e.2 ++ [(m : Int)])) hin
        rw [hx] at hfa ⊢
        unfold marksOf
        rw [range_set hxN]
        congr 1
        apply List.map_congr_left
        intro j _
        rw [hfa]
        by_cases hj : j = x
        · subst hj; simp
        · have : ¬ (j : Int) = (x : Int) := by omega
          simp [hj, this]
      simp only [Bool.not_false, cond_true, hmk, h27, c1, hset1, hset2, hmm, c2, Option.bind_some]
      have := ih (m + 1) fuel' (by omega) (by omega)
      rw [← this]
      congr 1
      rw [hee, List.map_append]
      rfl

theorem v122_l0 (n : Nat) (hf : Fuel n) (b : Book) (hg : GoodB b) (b0 : Int)
    (k0 : List (List Int) × List Bool × List Int × Unit → Option (List (List Int) × List Bool × List Int)) :
    ∀ (k i fuel : Nat) (D : List (Int × List Int)), i + k = b.2.2.length → k < fuel → i ≤ D.length → BInv (nxB b) b.1.length (inB b) b0 D → BAt (nxB b) b.1.length D i 0 →
      loopG (s122_l0 n) fuel ((i : Int), b.1, b.2.1, b.2.2, marksOf b.2.2.length D, knownOf b.2.2.length D, D.map Prod.fst, ()) (k0, ()) =
        k0 (marksOf b.2.2.length (bfsD (nxB b) b.1.length k i D), knownOf b.2.2.length (bfsD (nxB b) b.1.length k i D), (bfsD (nxB b) b.1.length k i D).map Prod.fst, ()) := by
  have hlo := hf.lo
  have hM := hg.marks
  have hNc := hg.classes
  have hlD : ∀ D, BInv (nxB b) b.1.length (inB b) b0 D → D.length ≤ b.2.2.length := fun D hI => by
    have := nodup_lt b.2.2.length _ hI.nodup (fun x hx => by
      obtain ⟨e, he, rfl⟩ := List.mem_map.1 hx
      exact hI.good e he)
    rwa [List.length_map] at this
  intro k
  induction k with
  | zero =>
    intro i fuel D hk hfu hiD hI hA
    obtain ⟨fuel', rfl⟩ : ∃ k, fuel = k + 1 := ⟨fuel - 1, by omega⟩
    have hl := hlD D hI
    have hlt : decide ((i : Int) < ((List.length (D.map Prod.fst) : Nat) : Int)) = false := by rw [decide_eq_false_iff_not, List.length_map]; omega
    rw [loopG, bfsD]
    simp only [s122_l0, hlt, cond_false]
  | succ k ih =>
    intro i fuel D hk hfu hiD hI hA
    obtain ⟨fuel', rfl⟩ : ∃ k, fuel = k + 1 := ⟨fuel - 1, by omega⟩
    have hl := hlD D hI
    rw [loopG]
    rcases Nat.lt_or_ge i D.length with h | h
    · have hge : D[i]? = some D[i] := List.getElem?_eq_getElem h
      have hmem : D[i] ∈ D := List.getElem_mem h
      generalize D[i] = e at *
      have hlt : decide ((i : Int) < ((List.length (D.map Prod.fst) : Nat) : Int)) = true := by rw [decide_eq_true_eq, List.length_map]; omega
      have hvl := hI.len i e hge
      have hG : ∀ s, inB b s → ∀ m, m < b.1.length → inB b (nxB b s m) := fun s hs m hm => (hg.nx hs hm).2
      obtain ⟨q1, q2⟩ := B_expand hG hI hA hge b.1.length (Nat.le_refl _)
      have q3 := B_next q1 q2 (expandE_get hge b.1.length)
      obtain ⟨r, hr⟩ := expandE_prefix (nxB b) e.1 e.2 D b.1.length
      have hw : IntKind.wrap .i64 ((i : Int) + 1) = ((i + 1 : Nat) : Int) := by rw [wrap_id] <;> omega
      have h1 := v122_l0_0 n hf b hg e (hI.good e hmem) (by omega) D i hge hI.nodup (by omega)
        (fun x => match x with | (i_2, b_6, b_7, b_8, marks_2, known_2, order_2, _) => loopG (s122_l0 n) fuel' ((IntKind.wrap .i64 (i_2 + (1 : Int))), b_6, b_7, b_8, marks_2, known_2, order_2, ()) (k0, ())) b.1.length 0 n (by omega) (by omega)
      have h1' := h1
      simp only [expandE] at h1'
      simp only [s122_l0, hlt, cond_true]
      rw [show ((0 : Nat) : Int) = (0 : Int) from rfl] at h1'
      rw [h1']
      simp only [hw]
      rw [ih (i + 1) fuel' (expandE (nxB b) e.1 e.2 D b.1.length) (by omega) (by omega) (by rw [hr, List.length_append]; omega) q1 q3]
      have hb : bfsD (nxB b) b.1.length (k + 1) i D = bfsD (nxB b) b.1.length k (i + 1) (expandE (nxB b) e.1 e.2 D b.1.length) := by
        rw [bfsD, hge]
      rw [hb]
    · have hlt : decide ((i : Int) < ((List.length (D.map Prod.fst) : Nat) : Int)) = false := by rw [decide_eq_false_iff_not, List.length_map]; omega
      have hb : bfsD (nxB b) b.1.length (k + 1) i D = D := by
        rw [bfsD, List.getElem?_eq_none h]
      rw [hb]
      simp only [s122_l0, hlt, cond_false]

theorem v122 (n : Nat) (hf : Fuel n) (b : Book) (hg : GoodB b) : s122 n b = some (marksOf b.2.2.length (reachB b b.2.1), knownOf b.2.2.length (reachB b b.2.1), (reachB b b.2.1).map Prod.fst) := by
  have hlo := hf.lo
  have hN := hg.classes
  have h0 := hg.begin'
  have hi : BInv (nxB b) b.1.length (inB b) b.2.1 [(b.2.1, [])] := by
    refine ⟨by simp, fun e he => by have : e = (b.2.1, []) := by simpa using he
                                    subst this; exact h0, by simp [runW], by simp, by simp, ?_, rfl⟩
    intro i e he
    match i, he with
    | 0, he => cases he; exact Nat.le_refl 0
  have ha : BAt (nxB b) b.1.length [(b.2.1, ([] : List Int))] 0 0 := by
    refine ⟨?_, fun j m' hj _ _ _ => by omega⟩
    intro e he u hu
    have : u = (b.2.1, []) := by simpa using hu
    subst this
    show codeW _ [] < _
    simp [codeW]
  obtain ⟨x, hx⟩ : ∃ x : Nat, b.2.1 = (x : Int) := ⟨b.2.1.toNat, by omega⟩
  have hxN : x < b.2.2.length := by omega
  have hrep : ∀ (α : Type) (a : α), List.replicate b.2.2.length a = (List.range b.2.2.length).map fun _ => a := fun α a => by
    rw [List.map_const', List.length_range]
  have hset : seti (List.replicate b.2.2.length false) b.2.1 true = some (knownOf b.2.2.length [(b.2.1, [])]) := by
    rw [hrep, hx, range_set hxN]
    congr 1
    unfold knownOf
    apply List.map_congr_left
    intro j _
    by_cases hj : j = x
    · subst hj; simp
    · have : ¬ (x : Int) = (j : Int) := by omega
      simp [hj, this]
  have hget : geti (List.replicate b.2.2.length false) b.2.1 = some false := by rw [hrep, hx, range_get hxN]
  have hmk : List.replicate b.2.2.length ([] : List Int) = marksOf b.2.2.length [(b.2.1, [])] := by
    rw [hrep]
    unfold marksOf
    apply List.map_congr_left
    intro j _
    rw [List.find?_cons]
    cases (b.2.1 == (j : Int)) <;> rfl
  unfold s122
  simp only [chki_ok (show (0 : Int) ≤ ((List.length b.2.2 : Nat) : Int) by omega) (by omega), Option.bind_some, Int.toNat_natCast, hget, hset, hmk]
  have := v122_l0 n hf b hg b.2.1 (fun x => match x with | (marks_3, known_3, order_3, _) => some (marks_3, known_3, order_3)) b.2.2.length 0 n [(b.2.1, [])] (by omega) (by omega) (by simp) hi ha
  exact this

end Go.Abs

set_option linter.unusedSimpArgs false
set_option linter.unusedVariables false
namespace Go.Abs
open Go

/-- The classes that are reached, in their order. -/
def reachL (b : Book) (k : Int) : List Int := ((List.range b.2.2.length).filter fun (j : Nat) => decide ((j : Int) ∈ (reachB b k).map Prod.fst)).map fun (j : Nat) => (j : Int)

theorem reachL_mem {b : Book} (hg : GoodB b) {k : Int} (hk : inB b k) (x : Int) : x ∈ reachL b k ↔ x ∈ (reachB b k).map Prod.fst := by
  have hF := reachB_found hg hk
  unfold reachL
  rw [List.mem_map]
  constructor
  · rintro ⟨j, hj, rfl⟩
    simpa using (List.mem_filter.1 hj).2
  · intro hx
    have hin : inB b x := by
      obtain ⟨e, he, rfl⟩ := List.mem_map.1 hx
      exact hF.inv.good e he
    refine ⟨x.toNat, List.mem_filter.2 ⟨?_, ?_⟩, ?_⟩
    · rw [List.mem_range]; have := hin.1; have := hin.2; omega
    · have : ((x.toNat : Nat) : Int) = x := by have := hin.1; omega
      rw [this]
      simpa using hx
    · have := hin.1
      show ((x.toNat : Nat) : Int) = x
      omega

theorem reachL_sorted (b : Book) (k : Int) : (reachL b k).Pairwise fun x y => x ≤ y := by
  unfold reachL
  rw [List.pairwise_map]
  refine (List.Pairwise.filter _ List.pairwise_lt_range).imp ?_
  intro x y h
  omega

theorem reachL_nodup (b : Book) (k : Int) : (reachL b k).Nodup := by
  unfold reachL
  rw [List.Nodup, List.pairwise_map]
  refine (List.Pairwise.filter _ List.pairwise_lt_range).imp ?_
  intro x y h
  omega

theorem reachL_sort {b : Book} (hg : GoodB b) {k : Int} (hk : inB b k) : (((reachB b k).map Prod.fst).mergeSort fun x y => decide (x ≤ y)) = reachL b k := by
  have hF := reachB_found hg hk
  refine List.Perm.eq_of_pairwise (le := fun x y => x ≤ y) (fun x y _ _ h1 h2 => by omega) ?_ (reachL_sorted b k) ?_
  · refine (List.pairwise_mergeSort (le := fun (x y : Int) => decide (x ≤ y)) ?_ ?_ _).imp ?_
    · intro x y z h1 h2; simp at h1 h2 ⊢; omega
    · intro x y; simp; omega
    · intro x y h; simpa using h
  · refine (List.mergeSort_perm _ _).trans ?_
    rw [List.perm_ext_iff_of_nodup hF.inv.nodup (reachL_nodup b k)]
    exact fun x => (reachL_mem hg hk x).symm

theorem reachB_len {b : Book} (hg : GoodB b) {k : Int} (hk : inB b k) : (reachB b k).length ≤ b.2.2.length := by
  have hF := reachB_found hg hk
  have := nodup_lt b.2.2.length _ hF.inv.nodup (fun x hx => by
    obtain ⟨e, he, rfl⟩ := List.mem_map.1 hx
    exact hF.inv.good e he)
  rwa [List.length_map] at this

theorem reachB_ne {b : Book} (hg : GoodB b) {k : Int} (hk : inB b k) : reachB b k ≠ [] := by
  have hF := (reachB_found hg hk).inv.first
  intro h
  rw [h] at hF
  cases hF

theorem v70 (n : Nat) (b : Book) (hf : Fuel n) (hg : GoodB b) : s70 n b = some (reachL b b.2.1) := by
  have hlo := hf.lo
  have hN := hg.classes
  unfold s70
  rw [show ((b.1, (b.2.1, b.2.2)) : Book) = b from rfl, v122 n hf b hg, Option.bind_some]
  have hkl : (knownOf b.2.2.length (reachB b b.2.1)).length = b.2.2.length := by simp [knownOf]
  let P : Nat → Bool := fun j => decide ((j : Int) ∈ (reachB b b.2.1).map Prod.fst)
  refine (count_loop (A := List Int) b.2.2.length (fun i acc => (knownOf b.2.2.length (reachB b b.2.1), (i : Int), acc, ())) (fun i acc => some (reachL b b.2.1)) (fun i acc => acc = ((List.range i).filter P).map fun (j : Nat) => (j : Int)) (by unfold maxLen; omega) ?_ ?_ [] (by simp) (by omega))
  · intro i acc hi hlt hw hinv again ih
    have hlt' : decide ((i : Int) < ((List.length (knownOf b.2.2.length (reachB b b.2.1)) : Nat) : Int)) = true := by rw [hkl]; exact hlt
    have hkn : geti (knownOf b.2.2.length (reachB b b.2.1)) (i : Int) = some (P i) := by
      unfold knownOf
      rw [range_get hi, any_mem]
    have hal : acc.length ≤ i := by
      rw [hinv, List.length_map]
      exact Nat.le_trans (List.length_filter_le _ _) (by simp)
    have hch : chk (List.length acc + List.length ([(i : Int)] : List Int)) = some () := chk_ok (by simp; omega)
    simp only [s70_l0, hlt', cond_true, hkn, Option.bind_some, hw, hch]
    have hr : ((List.range (i + 1)).filter P).map (fun (j : Nat) => (j : Int)) = acc ++ (bif P i then [(i : Int)] else []) := by
      rw [List.range_succ, List.filter_append, List.map_append, ← hinv]
      cases h : P i <;> simp [h]
    cases h : P i
    · simp only [cond_false]
      exact ih acc (by rw [hr, h]; simp)
    · simp only [cond_true]
      exact ih _ (by rw [hr, h]; rfl)
  · intro acc hlt hinv again
    have hlt' : decide (((b.2.2.length : Nat) : Int) < ((List.length (knownOf b.2.2.length (reachB b b.2.1)) : Nat) : Int)) = false := by rw [hkl]; exact hlt
    simp only [s70_l0, hlt', cond_false, hinv]
    rfl

/-- All that a class leads to is of its rank. -/
def trapW (b : Book) (k : Int) : Bool := ((reachB b k).map Prod.fst).all fun x => rankC b x == rankC b k
def trapL (b : Book) : List Int := ((List.range b.2.2.length).filter fun (j : Nat) => trapW b (j : Int)).map fun (j : Nat) => (j : Int)

theorem few_names {b : Book} (h : fewB b = true) : ∀ c ∈ b.2.2, c.1.length ≤ 1000 := by
  intro c hc
  unfold fewB at h
  cases h1 : (!decide (b.1.length ≤ 8) || !decide (b.2.2.length ≤ 10))
  · rw [h1] at h
    simp only [cond_false, Bool.and_eq_true, Bool.not_eq_true'] at h
    have := any_false h.2 c hc
    simp only [Bool.not_eq_false', fewC, Bool.and_eq_true, Bool.not_eq_true', Bool.or_eq_false_iff, decide_eq_true_eq] at this
    omega
  · rw [h1] at h
    cases h

end Go.Abs

set_option linter.unusedSimpArgs false
set_option linter.unusedVariables false
namespace Go.Abs
open Go

def nxP (a b : Book) (p : Int × Int) (m : Nat) : Int × Int := (nxB a p.1 m, nxB b p.2 m)
def inP (a b : Book) (p : Int × Int) : Prop := inB a p.1 ∧ inB b p.2

theorem nodup_pairs (N M : Nat) : ∀ l : List (Int × Int), l.Nodup → (∀ x ∈ l, (0 ≤ x.1 ∧ x.1 < (N : Int)) ∧ 0 ≤ x.2 ∧ x.2 < (M : Int)) → l.length ≤ N * M := by
  intro l hl hb
  have h1 : (l.map fun x => x.1.toNat * M + x.2.toNat).Nodup := by
    rw [List.Nodup, List.pairwise_map]
    refine List.Pairwise.imp_of_mem ?_ hl
    intro x y hx hy hne heq
    have hx := hb x hx
    have hy := hb y hy
    have hM : 0 < M := by omega
    have e1 : x.1.toNat = y.1.toNat := by
      have := congrArg (· / M) heq
      rw [Nat.mul_comm, Nat.mul_add_div hM, Nat.mul_comm, Nat.mul_add_div hM, Nat.div_eq_of_lt (by omega), Nat.div_eq_of_lt (by omega)] at this
      omega
    rw [e1] at heq
    have : x.1 = y.1 ∧ x.2 = y.2 := by omega
    exact hne (Prod.ext this.1 this.2)
  have := nodup_nat (N * M) _ h1 (fun x hx => by
    obtain ⟨y, hy, rfl⟩ := List.mem_map.1 hx
    have := hb y hy
    have h3 : (y.1.toNat + 1) * M ≤ N * M := Nat.mul_le_mul_right _ (by omega)
    rw [Nat.succ_mul] at h3
    omega)
  simpa using this

structure Both (a b : Book) : Prop where
  ga : GoodB a
  gb : GoodB b
  marks : b.1.length = a.1.length

theorem Both.nx {a b : Book} (h : Both a b) : ∀ s, inP a b s → ∀ m, m < a.1.length → inP a b (nxP a b s m) := fun s hs m hm =>
  ⟨(h.ga.nx hs.1 hm).2, (h.gb.nx hs.2 (by rw [h.marks]; exact hm)).2⟩

theorem Both.size {a b : Book} (h : Both a b) : ∀ l : List (Int × Int), l.Nodup → (∀ x ∈ l, inP a b x) → l.length ≤ 64 := fun l hl hb => by
  have h1 := nodup_pairs a.2.2.length b.2.2.length l hl hb
  have h2 := Nat.mul_le_mul h.ga.classes.2 h.gb.classes.2
  omega

/-- All pairs that are reached from one, with the first marks that reach each. -/
def reachP (a b : Book) (p : Int × Int) : List ((Int × Int) × List Int) := bfs (nxP a b) a.1.length 64 p

theorem reachP_found {a b : Book} (h : Both a b) {p : Int × Int} (hp : inP a b p) : Found (nxP a b) a.1.length (inP a b) p (reachP a b p) :=
  bfs_found hp h.nx h.size

theorem run_pair (a b : Book) (w : List Int) : ∀ p : Int × Int, runW (nxP a b) p w = (runW (nxB a) p.1 w, runW (nxB b) p.2 w) := by
  induction w with
  | nil => intro p; rfl
  | cons m w ih => intro p; exact ih _

theorem v114 (n : Nat) {b : Book} (h : GoodB b) {k : Int} (hk : inB b k) {m : Nat} (hm : m < b.1.length) : s114 n b k (m : Int) = some (nxB b k m) := by
  have := (h.nx hk hm).1
  unfold stepTo at this
  unfold s114
  rw [← this]
  cases geti b.2.2 k with
  | none => rfl
  | some c =>
    simp only [Option.bind_some]
    cases geti c.2.1 (m : Int) <;> rfl

theorem v115 (n : Nat) (hf : Fuel n) {a b : Book} (h : Both a b) {p : Int × Int} (hp : inP a b p) (f : Int × Int → Int → Option (Int × Int)) (hfn : ∀ s, inP a b s → ∀ m, m < a.1.length → f s (m : Int) = some (nxP a b s m)) :
    s115 n p ((List.length a.1 : Nat) : Int) f = some (reachP a b p) := by
  have hlo := hf.lo
  have hM := h.ga.marks
  unfold s115
  rw [show ((p.1, p.2) : Int × Int) = p from rfl, v134 n f (nxP a b) a.1.length 64 (inP a b) p (by omega) (by omega) (by omega) (by omega) hfn hp h.nx h.size]
  rfl

/-- Two classes are of different ranks. -/
def difW (a b : Book) (e : (Int × Int) × List Int) : Bool := rankC a e.1.1 != rankC b e.1.2

/-- The first marks that tell two rule books apart. -/
def firstDif (a b : Book) : Option ((Int × Int) × List Int) := (reachP a b (a.2.1, b.2.1)).find? (difW a b)

def apErr (a b : Book) : Int := bif (bookErr a).2 == 0 then firstErr [(bookErr b).2, unl (a.1 == b.1) 13] else (bookErr a).2

end Go.Abs

set_option linter.unusedSimpArgs false
set_option linter.unusedVariables false
namespace Go.Abs
open Go

abbrev Q62 := Int × Int × List Txt × Int × List Cls × List Txt × Int × List Cls × List (Int × Int) × List (List Int)

theorem v62_known (n : Nat) (hf : Fuel n) (a b : Book) (i m : Int) (queue : List (Int × Int)) (marks : List (List Int)) (x y : Cls) (p1 p2 : Int) (hq : queue.length ≤ 1000)
    (k0 : Int × Int × Bool × List Txt × Int × List Cls × List Txt × Int × List Cls × List (Int × Int) × List (List Int) × Txt × List Int × List Txt × Txt × List Int × List Txt × Int × Int × Unit → Option (List Int × Bool)) :
    loopG (s62_l0_0_0 n) n (i, m, false, (0 : Int), a.1, a.2.1, a.2.2, b.1, b.2.1, b.2.2, queue, marks, x.1, x.2.1, x.2.2, y.1, y.2.1, y.2.2, p1, p2, ()) (k0, ()) =
      k0 (i, m, decide ((p1, p2) ∈ queue), a.1, a.2.1, a.2.2, b.1, b.2.1, b.2.2, queue, marks, x.1, x.2.1, x.2.2, y.1, y.2.1, y.2.2, p1, p2, ()) := by
  have hlo := hf.lo
  refine (list_loop (A := Bool) queue (fun j kn => (i, m, kn, (j : Int), a.1, a.2.1, a.2.2, b.1, b.2.1, b.2.2, queue, marks, x.1, x.2.1, x.2.2, y.1, y.2.1, y.2.2, p1, p2, ()))
    (fun j kn r => k0 (i, m, kn || r.any (fun q => q == (p1, p2)), a.1, a.2.1, a.2.2, b.1, b.2.1, b.2.2, queue, marks, x.1, x.2.1, x.2.2, y.1, y.2.1, y.2.2, p1, p2, ())) (fun _ _ => True) (by unfold maxLen; omega) ?_ ?_ false trivial (by omega)).trans ?_
  · intro j kn q r hj hx hd hg hlt hw _ again ih
    have hqp : (q.1 == p1 && q.2 == p2) = (q == (p1, p2)) := rfl
    simp only [s62_l0_0_0, hlt, cond_true, hg, hw]
    cases kn
    · simp only [Bool.not_false, part_true, Option.bind_some, Bool.false_or, hqp]
      rw [ih _ trivial]
      simp only [List.any_cons]
    · simp only [Bool.not_true, part_false, Option.bind_some, Bool.true_or]
      rw [ih _ trivial]
      simp
  · intro kn hlt _ again
    simp only [s62_l0_0_0, hlt, cond_false, List.any_nil, Bool.or_false]
  · have : (false || queue.any (fun q => q == (p1, p2))) = decide ((p1, p2) ∈ queue) := by
      rw [Bool.false_or, Bool.eq_iff_iff, List.any_eq_true, decide_eq_true_eq]
      constructor
      · rintro ⟨q, hq, h⟩
        have : q = (p1, p2) := by simpa using h
        exact this ▸ hq
      · intro h
        exact ⟨(p1, p2), h, by simp⟩
    rw [this]

theorem cls_step {b : Book} (hg : GoodB b) {k : Int} (hk : inB b k) {m : Nat} (hm : m < b.1.length) : geti (b.2.2.getD k.toNat ([], [], [])).2.1 (m : Int) = some (nxB b k m) := by
  have h1 := (hg.nx hk hm).1
  unfold stepTo at h1
  rw [(geti_cls hk).1, Option.bind_some] at h1
  exact h1

theorem v62_l0_0 (n : Nat) (hf : Fuel n) {a b : Book} (h : Both a b) (e : (Int × Int) × List Int) (hk : inP a b e.1) (hv : e.2.length ≤ 1000) (D : List ((Int × Int) × List Int)) (i : Nat) (he : D[i]? = some e) (hD : D.length ≤ 900)
    (k0 : Int × List Txt × Int × List Cls × List Txt × Int × List Cls × List (Int × Int) × List (List Int) × Unit → Option (List Int × Bool)) :
    ∀ (k m fuel : Nat), m + k = a.1.length → k < fuel →
      loopG (s62_l0_0 n) fuel ((i : Int), (m : Int), a.1, a.2.1, a.2.2, b.1, b.2.1, b.2.2, (expandE (nxP a b) e.1 e.2 D m).map Prod.fst, (expandE (nxP a b) e.1 e.2 D m).map Prod.snd,
          (a.2.2.getD e.1.1.toNat ([], [], [])).1, (a.2.2.getD e.1.1.toNat ([], [], [])).2.1, (a.2.2.getD e.1.1.toNat ([], [], [])).2.2, (b.2.2.getD e.1.2.toNat ([], [], [])).1, (b.2.2.getD e.1.2.toNat ([], [], [])).2.1, (b.2.2.getD e.1.2.toNat ([], [], [])).2.2, ()) (k0, ()) =
        k0 ((i : Int), a.1, a.2.1, a.2.2, b.1, b.2.1, b.2.2, (expandE (nxP a b) e.1 e.2 D a.1.length).map Prod.fst, (expandE (nxP a b) e.1 e.2 D a.1.length).map Prod.snd, ()) := by
  have hlo := hf.lo
  have hM := h.ga.marks
  intro k
  induction k with
  | zero =>
    intro m fuel hm hfu
    have : m = a.1.length := by omega
    subst this
    obtain ⟨fuel', rfl⟩ : ∃ k, fuel = k + 1 := ⟨fuel - 1, by omega⟩
    rw [loopG]
    have hlt : decide (((a.1.length : Nat) : Int) < ((List.length a.1 : Nat) : Int)) = false := by simp
    simp only [s62_l0_0, hlt, cond_false]
  | succ k ih =>
    intro m fuel hm hfu
    obtain ⟨fuel', rfl⟩ : ∃ k, fuel = k + 1 := ⟨fuel - 1, by omega⟩
    have hlt : decide ((m : Int) < ((List.length a.1 : Nat) : Int)) = true := by rw [decide_eq_true_eq]; omega
    have hw : IntKind.wrap .i64 ((m : Int) + 1) = ((m + 1 : Nat) : Int) := by rw [wrap_id] <;> omega
    have hlen := expandE_len (nxP a b) e.1 e.2 D m
    have hge := expandE_get (nx := nxP a b) (s := e.1) (v := e.2) he m
    have s1 := cls_step h.ga hk.1 (m := m) (by omega)
    have s2 := cls_step h.gb hk.2 (m := m) (by rw [h.marks]; omega)
    have hmk : geti ((expandE (nxP a b) e.1 e.2 D m).map Prod.snd) (i : Int) = some e.2 := by rw [geti_nat, List.getElem?_map, hge]; rfl
    rw [loopG]
    simp only [s62_l0_0, hlt, cond_true, s1, s2, Option.bind_some]
    rw [v62_known n hf a b (i : Int) (m : Int) _ _ (a.2.2.getD e.1.1.toNat ([], [], [])) (b.2.2.getD e.1.2.toNat ([], [], [])) (nxB a e.1.1 m) (nxB b e.1.2 m) (by rw [List.length_map]; omega)]
    by_cases hin : nxP a b e.1 m ∈ (expandE (nxP a b) e.1 e.2 D m).map Prod.fst
    · have hee : expandE (nxP a b) e.1 e.2 D (m + 1) = expandE (nxP a b) e.1 e.2 D m := by
        show addE (nxP a b) e.1 e.2 (expandE (nxP a b) e.1 e.2 D m) m = _
        unfold addE
        rw [if_pos hin]
      have hdi : decide ((nxB a e.1.1 m, nxB b e.1.2 m) ∈ (expandE (nxP a b) e.1 e.2 D m).map Prod.fst) = true := by simpa [nxP] using hin
      simp only [hdi, Bool.not_true, cond_false, hw]
      have := ih (m + 1) fuel' (by omega) (by omega)
      rw [hee] at this
      exact this
    · have hee : expandE (nxP a b) e.1 e.2 D (m + 1) = expandE (nxP a b) e.1 e.2 D m ++ [(nxP a b e.1 m, e.2 ++ [(m : Int)])] := by
        show addE (nxP a b) e.1 e.2 (expandE (nxP a b) e.1 e.2 D m) m = _
        unfold addE
        rw [if_neg hin]
      have hdi : decide ((nxB a e.1.1 m, nxB b e.1.2 m) ∈ (expandE (nxP a b) e.1 e.2 D m).map Prod.fst) = false := by simpa [nxP] using hin
      have h27 : s27 n e.2 = some e.2 := v27 n e.2 hf (by unfold Lt; omega)
      have c1 : chk (List.length e.2 + List.length ([(m : Int)] : List Int)) = some () := chk_ok (by simp; omega)
      have c2 : ∀ q : Int × Int, chk (List.length ((expandE (nxP a b) e.1 e.2 D m).map Prod.fst) + List.length ([q] : List (Int × Int))) = some () := fun q => chk_ok (by simp; omega)
      have c3 : ∀ q : List Int, chk (List.length ((expandE (nxP a b) e.1 e.2 D m).map Prod.snd) + List.length ([q] : List (List Int))) = some () := fun q => chk_ok (by simp; omega)
      simp only [hdi, Bool.not_false, cond_true, hw, hmk, h27, c1, c2, c3, Option.bind_some]
      have := ih (m + 1) fuel' (by omega) (by omega)
      rw [← this]
      congr 1
      rw [hee, List.map_append, List.map_append]
      rfl

theorem v62_l0 (n : Nat) (hf : Fuel n) {a b : Book} (h : Both a b) (ha : ∀ c ∈ a.2.2, c.1.length ≤ 1000) (hb : ∀ c ∈ b.2.2, c.1.length ≤ 1000) (p0 : Int × Int) (k0 : Unit → Option (List Int × Bool)) (k1 : List Int × Bool × Unit → Option (List Int × Bool)) :
    ∀ (k i fuel : Nat) (D : List ((Int × Int) × List Int)), i + k = 64 → k < fuel → i ≤ D.length → BInv (nxP a b) a.1.length (inP a b) p0 D → BAt (nxP a b) a.1.length D i 0 →
      loopG (s62_l0 n) fuel ((i : Int), a.1, a.2.1, a.2.2, b.1, b.2.1, b.2.2, D.map Prod.fst, D.map Prod.snd, ()) (k0, k1, ()) =
        match ((bfsD (nxP a b) a.1.length k i D).drop i).find? (difW a b) with
        | some e => k1 (e.2, true, ())
        | none => k0 () := by
  have hlo := hf.lo
  have hM := h.ga.marks
  have hlD : ∀ D, BInv (nxP a b) a.1.length (inP a b) p0 D → D.length ≤ 64 := fun D hI => by
    have := h.size _ hI.nodup (fun x hx => by
      obtain ⟨e, he, rfl⟩ := List.mem_map.1 hx
      exact hI.good e he)
    rwa [List.length_map] at this
  intro k
  induction k with
  | zero =>
    intro i fuel D hk hfu hiD hI hA
    obtain ⟨fuel', rfl⟩ : ∃ k, fuel = k + 1 := ⟨fuel - 1, by omega⟩
    have hl := hlD D hI
    have hlt : decide ((i : Int) < ((List.length (D.map Prod.fst) : Nat) : Int)) = false := by rw [decide_eq_false_iff_not, List.length_map]; omega
    rw [loopG, bfsD, List.drop_of_length_le (by omega)]
    simp only [s62_l0, hlt, cond_false, List.find?_nil]
  | succ k ih =>
    intro i fuel D hk hfu hiD hI hA
    obtain ⟨fuel', rfl⟩ : ∃ k, fuel = k + 1 := ⟨fuel - 1, by omega⟩
    have hl := hlD D hI
    rw [loopG]
    rcases Nat.lt_or_ge i D.length with hi | hi
    · have hge : D[i]? = some D[i] := List.getElem?_eq_getElem hi
      have hmem : D[i] ∈ D := List.getElem_mem hi
      generalize D[i] = e at *
      have hlt : decide ((i : Int) < ((List.length (D.map Prod.fst) : Nat) : Int)) = true := by rw [decide_eq_true_eq, List.length_map]; omega
      have hvl := hI.len i e hge
      have hin := hI.good e hmem
      obtain ⟨q1, q2⟩ := B_expand h.nx hI hA hge a.1.length (Nat.le_refl _)
      have q3 := B_next q1 q2 (expandE_get hge a.1.length)
      obtain ⟨r, hr⟩ := expandE_prefix (nxP a b) e.1 e.2 D a.1.length
      have hw : IntKind.wrap .i64 ((i : Int) + 1) = ((i + 1 : Nat) : Int) := by rw [wrap_id] <;> omega
      have hq : geti (D.map Prod.fst) (i : Int) = some e.1 := by rw [geti_nat, List.getElem?_map, hge]; rfl
      have hmk : geti (D.map Prod.snd) (i : Int) = some e.2 := by rw [geti_nat, List.getElem?_map, hge]; rfl
      obtain ⟨ca1, ca2⟩ := geti_cls hin.1
      obtain ⟨cb1, cb2⟩ := geti_cls hin.2
      have hbf : bfsD (nxP a b) a.1.length (k + 1) i D = bfsD (nxP a b) a.1.length k (i + 1) (expandE (nxP a b) e.1 e.2 D a.1.length) := by
        rw [bfsD, hge]
      obtain ⟨r2, hr2⟩ := bfsD_prefix (nxP a b) a.1.length k (i + 1) (expandE (nxP a b) e.1 e.2 D a.1.length)
      have hfin : (bfsD (nxP a b) a.1.length k (i + 1) (expandE (nxP a b) e.1 e.2 D a.1.length)).drop i = e :: (bfsD (nxP a b) a.1.length k (i + 1) (expandE (nxP a b) e.1 e.2 D a.1.length)).drop (i + 1) := by
        rw [hr2, hr]
        have hlt : i < (D ++ r ++ r2).length := by simp; omega
        rw [List.drop_eq_getElem_cons hlt]
        congr 1
        have : (D ++ r ++ r2)[i]? = some e := by rw [List.append_assoc, List.getElem?_append_left hi, hge]
        rw [List.getElem?_eq_getElem hlt] at this
        exact Option.some.inj this
      rw [hbf, hfin, List.find?_cons]
      simp only [s62_l0, hlt, cond_true, hq, Option.bind_some, ca1, cb1, v63 n hf _ (ha _ ca2), v63 n hf _ (hb _ cb2)]
      have hdif : (rankW (a.2.2.getD e.1.1.toNat ([], [], [])).1 != rankW (b.2.2.getD e.1.2.toNat ([], [], [])).1) = difW a b e := rfl
      rw [hdif]
      cases hd : difW a b e
      · simp only [cond_false]
        have h1 := v62_l0_0 n hf h e hin (by omega) D i hge (by omega)
          (fun x => match x with | (i_4, a_12, a_13, a_14, b_12, b_13, b_14, queue_4, marks_4, _) => loopG (s62_l0 n) fuel' ((IntKind.wrap .i64 (i_4 + (1 : Int))), a_12, a_13, a_14, b_12, b_13, b_14, queue_4, marks_4, ()) (k0, k1, ())) a.1.length 0 n (by omega) (by omega)
        simp only [expandE] at h1
        rw [show ((0 : Nat) : Int) = (0 : Int) from rfl] at h1
        rw [h1]
        simp only [hw]
        exact ih (i + 1) fuel' (expandE (nxP a b) e.1 e.2 D a.1.length) (by omega) (by omega) (by rw [hr, List.length_append]; omega) q1 q3
      · simp only [cond_true, hmk, Option.bind_some]
    · have hlt : decide ((i : Int) < ((List.length (D.map Prod.fst) : Nat) : Int)) = false := by rw [decide_eq_false_iff_not, List.length_map]; omega
      have hbf : bfsD (nxP a b) a.1.length (k + 1) i D = D := by
        rw [bfsD, List.getElem?_eq_none hi]
      rw [hbf, List.drop_of_length_le hi]
      simp only [s62_l0, hlt, cond_false, List.find?_nil]

theorem v62 (n : Nat) (hf : Fuel n) {a b : Book} (h : Both a b) (ha : ∀ c ∈ a.2.2, c.1.length ≤ 1000) (hb : ∀ c ∈ b.2.2, c.1.length ≤ 1000) :
    s62 n a b = some (match firstDif a b with | some e => (e.2, true) | none => ([], false)) := by
  have hlo := hf.lo
  have hp : inP a b (a.2.1, b.2.1) := ⟨h.ga.begin', h.gb.begin'⟩
  have hi : BInv (nxP a b) a.1.length (inP a b) (a.2.1, b.2.1) [((a.2.1, b.2.1), [])] := by
    refine ⟨by simp, fun e he => by have : e = ((a.2.1, b.2.1), []) := by simpa using he
                                    subst this; exact hp, by simp [runW], by simp, by simp, ?_, rfl⟩
    intro i e he
    match i, he with
    | 0, he => cases he; exact Nat.le_refl 0
  have hA : BAt (nxP a b) a.1.length [((a.2.1, b.2.1), ([] : List Int))] 0 0 := by
    refine ⟨?_, fun j m' hj _ _ _ => by omega⟩
    intro e he u hu
    have : u = ((a.2.1, b.2.1), []) := by simpa using hu
    subst this
    show codeW _ [] < _
    simp [codeW]
  have := v62_l0 n hf h ha hb (a.2.1, b.2.1) (fun (_) => some (([] : List Int), false)) (fun x => match x with | (t4, t5, _) => some (t4, t5)) 64 0 n [((a.2.1, b.2.1), [])] (by omega) (by omega) (by simp) hi hA
  unfold s62
  refine Eq.trans this ?_
  unfold firstDif reachP bfs
  rw [List.drop_zero]
  cases (bfsD (nxP a b) a.1.length 64 0 [((a.2.1, b.2.1), [])]).find? (difW a b) <;> rfl

/-! What the first sheet says. -/
theorem same_none {a : Book} (h : GoodB a) : firstDif a a = none := by
  have hB : Both a a := ⟨h, h, rfl⟩
  have hp : inP a a (a.2.1, a.2.1) := ⟨h.begin', h.begin'⟩
  have hF := reachP_found hB hp
  unfold firstDif
  rw [List.find?_eq_none]
  intro e he
  have := hF.inv.path e he
  rw [run_pair] at this
  have e1 : e.1.1 = e.1.2 := by rw [← this]
  unfold difW
  rw [e1]
  simp

theorem dif_first {a b : Book} (h : Both a b) (l : List Int) (hl : ∀ m ∈ l, 0 ≤ m ∧ m < (a.1.length : Int)) (hr : rankC a (runW (nxB a) a.2.1 l) ≠ rankC b (runW (nxB b) b.2.1 l)) :
    ∃ e, firstDif a b = some e ∧ comesW l e.2 = false := by
  have hp : inP a b (a.2.1, b.2.1) := ⟨h.ga.begin', h.gb.begin'⟩
  have hF := reachP_found h hp
  obtain ⟨u, hu, hu1, hu2⟩ := hF.least l hl
  rw [run_pair] at hu1
  have hdu : difW a b u = true := by
    unfold difW
    rw [hu1]
    simpa using hr
  cases hfd : firstDif a b with
  | none =>
    exfalso
    have := List.find?_eq_none.1 hfd u hu
    exact this hdu
  | some e =>
    refine ⟨e, rfl, ?_⟩
    have he := List.mem_of_find?_eq_some hfd
    have hle : codeW a.1.length e.2 ≤ codeW a.1.length u.2 := by
      obtain ⟨h1, as', bs, h2, h3⟩ := List.find?_eq_some_iff_append.1 hfd
      have hs := hF.inv.sorted
      rw [h2] at hs hu
      have hs2 := (List.pairwise_append.1 hs).2.1
      rcases List.mem_append.1 hu with hu | hu
      · have := h3 u hu
        rw [hdu] at this
        simp at this
      · rcases List.mem_cons.1 hu with rfl | hu
        · exact Nat.le_refl _
        · exact Nat.le_of_lt ((List.pairwise_cons.1 hs2).1 u hu)
    cases hc : comesW l e.2
    · rfl
    · have := comes_code l e.2 hl (hF.inv.rng e he) hc
      omega

theorem at_cls {b : Book} (hg : GoodB b) (n : Nat) (hf : Fuel n) (l : List Int) (hl : ∀ m ∈ l, 0 ≤ m ∧ m < (b.1.length : Int)) (hll : l.length ≤ 12) :
    s22 n b l = some (runW (nxB b) b.2.1 l) ∧ inB b (runW (nxB b) b.2.1 l) := by
  have hlo := hf.lo
  obtain ⟨w, w1, w2⟩ := at_run hg l hl b.2.1 hg.begin'
  refine ⟨by rw [v22_ok n b l w hf (by omega) w1, w2], ?_⟩
  have hF := reachB_found hg hg.begin'
  obtain ⟨u, hu, hu1, _⟩ := hF.least l hl
  rw [← hu1]
  exact hF.inv.good u hu

end Go.Abs

set_option linter.unusedSimpArgs false
set_option linter.unusedVariables false
namespace Go.Abs
open Go

def validW (M : Nat) (w : List Int) : Prop := ∀ x ∈ w, 0 ≤ x ∧ x < (M : Int)

theorem validW.snoc {M : Nat} {w : List Int} {m : Nat} (h : validW M w) (hm : m < M) : validW M (w ++ [(m : Int)]) := by
  intro x hx
  rcases List.mem_append.1 hx with hx | hx
  · exact h x hx
  · have : x = (m : Int) := by simpa using hx
    omega

theorem runW_cons {S : Type} (nx : S → Nat → S) (s : S) (m : Int) (w : List Int) : runW nx s (m :: w) = runW nx (nx s m.toNat) w := rfl

/-- Two classes from which some marks lead to different ranks. -/
def apB (b : Book) (i k : Int) : Bool := (reachP b b (i, k)).any (difW b b)

theorem apB_iff {b : Book} (h : GoodB b) {i k : Int} (hi : inB b i) (hk : inB b k) : apB b i k = false ↔ ∀ w, validW b.1.length w → rankC b (runW (nxB b) i w) = rankC b (runW (nxB b) k w) := by
  have hB : Both b b := ⟨h, h, rfl⟩
  have hF := reachP_found hB (show inP b b (i, k) from ⟨hi, hk⟩)
  unfold apB
  constructor
  · intro hf w hw
    obtain ⟨u, hu, hu1, _⟩ := hF.least w hw
    rw [run_pair] at hu1
    have := any_false hf u hu
    unfold difW at this
    rw [hu1] at this
    simpa using this
  · intro hw
    rw [Bool.eq_false_iff]
    intro ht
    obtain ⟨u, hu, hd⟩ := List.any_eq_true.1 ht
    have h1 := hF.inv.path u hu
    rw [run_pair] at h1
    have h2 := hw u.2 (hF.inv.rng u hu)
    unfold difW at hd
    rw [← h1] at hd
    simp only [bne_iff_ne, ne_eq] at hd
    exact hd h2

theorem apB_refl {b : Book} (h : GoodB b) {i : Int} (hi : inB b i) : apB b i i = false := (apB_iff h hi hi).2 fun _ _ => rfl
theorem apB_symm {b : Book} (h : GoodB b) {i k : Int} (hi : inB b i) (hk : inB b k) (ha : apB b i k = false) : apB b k i = false :=
  (apB_iff h hk hi).2 fun w hw => ((apB_iff h hi hk).1 ha w hw).symm
theorem apB_trans {b : Book} (h : GoodB b) {i j k : Int} (hi : inB b i) (hj : inB b j) (hk : inB b k) (h1 : apB b i j = false) (h2 : apB b j k = false) : apB b i k = false :=
  (apB_iff h hi hk).2 fun w hw => ((apB_iff h hi hj).1 h1 w hw).trans ((apB_iff h hj hk).1 h2 w hw)
theorem apB_next {b : Book} (h : GoodB b) {i k : Int} (hi : inB b i) (hk : inB b k) (ha : apB b i k = false) {m : Nat} (hm : m < b.1.length) : apB b (nxB b i m) (nxB b k m) = false := by
  refine (apB_iff h (h.nx hi hm).2 (h.nx hk hm).2).2 fun w hw => ?_
  have := (apB_iff h hi hk).1 ha ((m : Int) :: w) (by
    intro x hx
    rcases List.mem_cons.1 hx with rfl | hx
    · omega
    · exact hw x hx)
  simpa [runW_cons] using this

/-! The first place of a list at which something holds. -/
theorem idxF_spec {α : Type} (p : α → Bool) : ∀ (l : List α) (i : Nat), (idxF p i l = -1 ∧ ∀ x ∈ l, p x = false) ∨ ∃ j x, l[j]? = some x ∧ idxF p i l = ((i + j : Nat) : Int) ∧ p x = true
  | [], i => .inl ⟨rfl, by simp⟩
  | x :: r, i => by
    unfold idxF
    cases hp : p x with
    | true => exact .inr ⟨0, x, rfl, by simp, hp⟩
    | false =>
      simp only [cond_false]
      rcases idxF_spec p r (i + 1) with ⟨h1, h2⟩ | ⟨j, y, h1, h2, h3⟩
      · refine .inl ⟨h1, fun y hy => ?_⟩
        rcases List.mem_cons.1 hy with rfl | hy
        · exact hp
        · exact h2 y hy
      · exact .inr ⟨j + 1, y, by simpa using h1, by rw [h2]; congr 1; omega, h3⟩

/-- The sets so far: of each class its set's number; the first class of each set; the classes of each set. -/
def stB (b : Book) : Nat → List Int × List Int × List (List Int)
  | 0 => ([], [], [])
  | i + 1 =>
    let s := stB b i
    let x := idxF (fun k => !apB b (i : Int) k) 0 s.2.1
    bif decide (x < 0) then (s.1 ++ [((List.length s.2.1 : Nat) : Int)], s.2.1 ++ [(i : Int)], s.2.2 ++ [[(i : Int)]])
    else (s.1 ++ [x], s.2.1, s.2.2.set x.toNat (s.2.2.getD x.toNat [] ++ [(i : Int)]))

structure StOK (b : Book) (i : Nat) (s : List Int × List Int × List (List Int)) : Prop where
  l1 : s.1.length = i
  l2 : s.2.1.length ≤ i
  l3 : s.2.2.length = s.2.1.length
  hd : ∀ h ∈ s.2.1, 0 ≤ h ∧ h < (i : Int)
  ap : ∀ (j k : Nat) (h h' : Int), s.2.1[j]? = some h → s.2.1[k]? = some h' → apB b h h' = false → j = k
  set : ∀ c : Nat, c < i → ∃ (j : Nat) (h : Int), s.2.1[j]? = some h ∧ s.1[c]? = some (j : Int) ∧ apB b (c : Int) h = false
  fst : ∀ (j : Nat) (g : List Int), s.2.2[j]? = some g → ∃ r, g = s.2.1.getD j 0 :: r ∧ g.length ≤ i

theorem stB_step (b : Book) (i : Nat) : (idxF (fun k => !apB b (i : Int) k) 0 (stB b i).2.1 = -1 ∧ (∀ h ∈ (stB b i).2.1, apB b (i : Int) h = true) ∧
      stB b (i + 1) = ((stB b i).1 ++ [((List.length (stB b i).2.1 : Nat) : Int)], (stB b i).2.1 ++ [(i : Int)], (stB b i).2.2 ++ [[(i : Int)]])) ∨
    ∃ (j : Nat) (h : Int), (stB b i).2.1[j]? = some h ∧ idxF (fun k => !apB b (i : Int) k) 0 (stB b i).2.1 = (j : Int) ∧ apB b (i : Int) h = false ∧
      stB b (i + 1) = ((stB b i).1 ++ [(j : Int)], (stB b i).2.1, (stB b i).2.2.set j ((stB b i).2.2.getD j [] ++ [(i : Int)])) := by
  rcases idxF_spec (fun k => !apB b (i : Int) k) (stB b i).2.1 0 with ⟨h1, h2⟩ | ⟨j, h, h1, h2, h3⟩
  · refine .inl ⟨h1, fun h hh => by simpa using h2 h hh, ?_⟩
    show (bif decide (idxF _ 0 _ < 0) then _ else _) = _
    rw [h1]
    rfl
  · rw [Nat.zero_add] at h2
    refine .inr ⟨j, h, h1, h2, by simpa using h3, ?_⟩
    show (bif decide (idxF _ 0 _ < 0) then _ else _) = _
    rw [h2]
    have : decide ((j : Int) < 0) = false := by rw [decide_eq_false_iff_not]; omega
    rw [this]
    simp

theorem stB_ok {b : Book} (hb : GoodB b) : ∀ i, i ≤ b.2.2.length → StOK b i (stB b i)
  | 0, _ => by
    refine ⟨rfl, Nat.le_refl _, rfl, ?_, ?_, ?_, ?_⟩
    · intro h hh; cases hh
    · intro j k h h' hj; simp [stB] at hj
    · intro c hc; omega
    · intro j g hj; simp [stB] at hj
  | i + 1, hi => by
    have s := stB_ok hb i (by omega)
    have inI : inB b (i : Int) := ⟨by omega, by omega⟩
    have inH : ∀ h ∈ (stB b i).2.1, inB b h := fun h hh => by have := s.hd h hh; exact ⟨this.1, by omega⟩
    rcases stB_step b i with ⟨_, h2, h3⟩ | ⟨j, h, h1, _, h2, h3⟩
    · rw [h3]
      refine ⟨by simp [s.l1], by simp; have := s.l2; omega, by simp [s.l3], ?_, ?_, ?_, ?_⟩
      · intro h hh
        rcases List.mem_append.1 hh with hh | hh
        · have := s.hd h hh; omega
        · have : h = (i : Int) := by simpa using hh
          omega
      · intro j k h h' hj hk ha
        simp only at hj hk
        rw [List.getElem?_append] at hj hk
        split at hj <;> split at hk
        · exact s.ap j k h h' hj hk ha
        · have e : h' = (i : Int) := by
            have := (List.getElem?_eq_some_iff.1 hk).1
            simp at this
            rw [this] at hk
            simpa using hk.symm
          subst e
          have hm := List.mem_of_getElem? hj
          have := h2 h hm
          rw [apB_symm hb (inH h hm) inI ha] at this
          cases this
        · have e : h = (i : Int) := by
            have := (List.getElem?_eq_some_iff.1 hj).1
            simp at this
            rw [this] at hj
            simpa using hj.symm
          subst e
          have hm := List.mem_of_getElem? hk
          have := h2 h' hm
          rw [ha] at this
          cases this
        · have e1 := (List.getElem?_eq_some_iff.1 hj).1
          have e2 := (List.getElem?_eq_some_iff.1 hk).1
          simp at e1 e2
          omega
      · intro c hc
        by_cases hci : c = i
        · subst hci
          refine ⟨(stB b c).2.1.length, (c : Int), by simp, ?_, apB_refl hb inI⟩
          rw [List.getElem?_append_right (by rw [s.l1]; omega), s.l1]
          simp
        · obtain ⟨j, h, q1, q2, q3⟩ := s.set c (by omega)
          have l1 := (List.getElem?_eq_some_iff.1 q1).1
          have l2 := (List.getElem?_eq_some_iff.1 q2).1
          exact ⟨j, h, by rw [List.getElem?_append_left l1]; exact q1, by rw [List.getElem?_append_left l2]; exact q2, q3⟩
      · intro j g hj
        simp only at hj ⊢
        rw [List.getElem?_append] at hj
        split at hj
        · rename_i hlt
          obtain ⟨r, q1, q2⟩ := s.fst j g hj
          refine ⟨r, ?_, by omega⟩
          rw [q1, List.getD_eq_getElem?_getD, List.getD_eq_getElem?_getD, List.getElem?_append_left (by rw [← s.l3]; exact hlt)]
        · rename_i hlt
          have e1 := (List.getElem?_eq_some_iff.1 hj).1
          simp at e1
          have : j = (stB b i).2.1.length := by rw [← s.l3]; omega
          rw [e1] at hj
          simp at hj
          subst hj
          refine ⟨[], ?_, by simp⟩
          subst this
          simp
    · rw [h3]
      refine ⟨by simp [s.l1], by have := s.l2; simp only; omega, by simp [s.l3], ?_, s.ap, ?_, ?_⟩
      · intro h hh
        have := s.hd h hh; omega
      · intro c hc
        by_cases hci : c = i
        · subst hci
          refine ⟨j, h, h1, ?_, h2⟩
          rw [List.getElem?_append_right (by rw [s.l1]; omega), s.l1]
          simp
        · obtain ⟨j', h', q1, q2, q3⟩ := s.set c (by omega)
          have l2 := (List.getElem?_eq_some_iff.1 q2).1
          exact ⟨j', h', q1, by rw [List.getElem?_append_left l2]; exact q2, q3⟩
      · intro k g hk
        simp only at hk ⊢
        rw [List.getElem?_set] at hk
        split at hk
        · rename_i hjk
          subst hjk
          split at hk
          · rename_i hlt
            cases hk
            obtain ⟨r, q1, q2⟩ := s.fst j _ (List.getElem?_eq_getElem hlt)
            rw [List.getD_eq_getElem?_getD, List.getElem?_eq_getElem hlt, Option.getD_some, q1]
            refine ⟨r ++ [(i : Int)], rfl, ?_⟩
            rw [q1] at q2
            simp at q2 ⊢
            omega
          · cases hk
        · obtain ⟨r, q1, q2⟩ := s.fst k g hk
          exact ⟨r, q1, by omega⟩

/-- The lists only grow. -/
theorem stB_get (b : Book) {i k : Nat} (hk : k ≤ i) {c : Nat} {x : Int} (hx : (stB b k).1[c]? = some x) : (stB b i).1[c]? = some x := by
  induction i with
  | zero =>
    have : k = 0 := by omega
    rw [← this]; exact hx
  | succ i ih =>
    by_cases h : k = i + 1
    · rw [← h]; exact hx
    · have := ih (by omega)
      have l := (List.getElem?_eq_some_iff.1 this).1
      rcases stB_step b i with ⟨_, _, h3⟩ | ⟨j, h, _, _, _, h3⟩ <;> rw [h3]
      · simp only; rw [List.getElem?_append_left l]; exact this
      · simp only; rw [List.getElem?_append_left l]; exact this

/-- The number of a class's set. -/
def setB (b : Book) (c : Int) : Int := (stB b b.2.2.length).1.getD c.toNat 0

theorem setB_spec {b : Book} (hb : GoodB b) {c : Int} (hc : inB b c) : ∃ (j : Nat) (h : Int), (stB b b.2.2.length).2.1[j]? = some h ∧ setB b c = (j : Int) ∧ geti (stB b b.2.2.length).1 c = some (setB b c) ∧ apB b c h = false ∧ inB b h := by
  have s := stB_ok hb _ (Nat.le_refl b.2.2.length)
  obtain ⟨n, rfl⟩ : ∃ n : Nat, c = (n : Int) := ⟨c.toNat, by have := hc.1; omega⟩
  obtain ⟨j, h, q1, q2, q3⟩ := s.set n (by have := hc.2; omega)
  have e : setB b (n : Int) = (j : Int) := by
    unfold setB
    rw [Int.toNat_natCast, List.getD_eq_getElem?_getD, q2]; rfl
  refine ⟨j, h, q1, e, by rw [geti_nat, q2, e], q3, ?_⟩
  have := s.hd h (List.mem_of_getElem? q1)
  exact ⟨this.1, this.2⟩

theorem setB_lt {b : Book} (hb : GoodB b) {c : Int} (hc : inB b c) : 0 ≤ setB b c ∧ setB b c < (b.2.2.length : Int) := by
  obtain ⟨j, h, q1, q2, _⟩ := setB_spec hb hc
  have s := stB_ok hb _ (Nat.le_refl b.2.2.length)
  have := (List.getElem?_eq_some_iff.1 q1).1
  have := s.l2
  omega

/-- Alike classes are those of one set. -/
theorem setB_eq {b : Book} (hb : GoodB b) {c d : Int} (hc : inB b c) (hd : inB b d) : setB b c = setB b d ↔ apB b c d = false := by
  have s := stB_ok hb _ (Nat.le_refl b.2.2.length)
  obtain ⟨j, h, q1, q2, _, q3, q4⟩ := setB_spec hb hc
  obtain ⟨k, h', p1, p2, _, p3, p4⟩ := setB_spec hb hd
  rw [q2, p2]
  constructor
  · intro e
    have : j = k := by omega
    subst this
    rw [q1] at p1
    cases p1
    exact apB_trans hb hc q4 hd q3 (apB_symm hb hd q4 p3)
  · intro e
    have : j = k := s.ap j k h h' q1 p1 (apB_trans hb q4 hc p4 (apB_symm hb hc q4 q3) (apB_trans hb hc hd p4 e p3))
    rw [this]

end Go.Abs
