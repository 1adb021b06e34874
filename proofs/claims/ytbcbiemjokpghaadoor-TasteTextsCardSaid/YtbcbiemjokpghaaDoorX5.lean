/- Parts of one proof, joined: Further functions of the program as plain Lean functions, and that each call does what its function says. Printed by a program of ours. No condition but those that each theorem names. What the small functions compute. Rule books: which are right; walks; classes. Rule books, on: the reference's test, walks, copies. Rule books, on: small ones, copies, the functions of the program. Comparisons of lists. Texts cut at a byte, by both programs; the smoke test that comes first. The lines of a rule book's text, as both programs read them. The lines of a rule book's text, one after the other, by both programs. A rule book is put together from its lines, by both programs. Both programs read a rule book's text alike. The text of a right rule book, as both programs write it. The other program writes the same text, and it is read back. TasteTexts, in plain Lean. -/
import Derived.Test.YtbcbiemjokpghaaDoorX4
set_option linter.unusedVariables false
namespace Go.Abs
open Go

def s33_l0 (n : Nat) (d : Int × (List (List UInt8)) × Int × (List ((List UInt8) × (List Int) × (List (List UInt8)))) × Unit) (again : (Int × (List (List UInt8)) × Int × (List ((List UInt8) × (List Int) × (List (List UInt8)))) × Unit) → Option (Int × Int)) (ks : ((List (List UInt8)) × Int × (List ((List UInt8) × (List Int) × (List (List UInt8)))) × Unit → Option (Int × Int)) × (Int × Int × Unit → Option (Int × Int)) × Unit) : Option (Int × Int) :=
  match d, ks with
  | (i, b, b_1, b_2, _), (k0, k1, _) =>
  bif (decide (i < ((List.length b : Nat) : Int))) then
    (geti b i).bind fun e =>
    (s63 n e).bind fun x =>
    bif (!x) then
      k1 ((0 : Int), (4 : Int), ())
    else
      (cut b 0 i).bind fun x_1 =>
      (geti b i).bind fun e_1 =>
      (s62 n x_1 e_1).bind fun x_2 =>
      bif x_2 then
        k1 ((0 : Int), (5 : Int), ())
      else
        again ((IntKind.wrap .i64 (i + (1 : Int))), b, b_1, b_2, ())
  else
    k0 (b, b_1, b_2, ())

def s33_l1 (n : Nat) (d : Int × (List (List UInt8)) × Int × (List ((List UInt8) × (List Int) × (List (List UInt8)))) × Unit) (again : (Int × (List (List UInt8)) × Int × (List ((List UInt8) × (List Int) × (List (List UInt8)))) × Unit) → Option (Int × Int)) (ks : (Unit → Option (Int × Int)) × (Int × Int × Unit → Option (Int × Int)) × Unit) : Option (Int × Int) :=
  match d, ks with
  | (i, b, b_1, b_2, _), (k0, k1, _) =>
  bif (decide (i < ((List.length b_2 : Nat) : Int))) then
    (s65 n (b, (b_1, b_2)) i).bind fun x =>
    bif (x != (0 : Int)) then
      k1 (i, x, ())
    else
      again ((IntKind.wrap .i64 (i + (1 : Int))), b, b_1, b_2, ())
  else
    k0 (())

/-- criadera/criaderaref07.CheckBook -/
def s33 (n : Nat) (b : (List (List UInt8)) × Int × (List ((List UInt8) × (List Int) × (List (List UInt8))))) : Option (Int × Int) :=
  bif ((((List.length b.1 : Nat) : Int) == (0 : Int)) || (((List.length b.2.2 : Nat) : Int) == (0 : Int))) then
    some ((0 : Int), (10 : Int))
  else
    bif ((decide (((List.length b.1 : Nat) : Int) > (6 : Int))) || (decide (((List.length b.2.2 : Nat) : Int) > (8 : Int)))) then
      some ((0 : Int), (8 : Int))
    else
      loopG (s33_l0 n) n ((0 : Int), b.1, b.2.1, b.2.2, ())
        (fun (b_4, b_5, b_6, _) =>
          (s64 n b_5 (0 : Int) (IntKind.wrap .i64 (((List.length b_6 : Nat) : Int) - (1 : Int)))).bind fun x_3 =>
          bif (!x_3) then
            some ((0 : Int), (6 : Int))
          else
            loopG (s33_l1 n) n ((0 : Int), b_4, b_5, b_6, ())
              (fun (_) =>
                some ((0 : Int), (0 : Int)),
              fun (t2, t3, _) =>
                some (t2, t3), ()),
        fun (t2_1, t3_1, _) =>
          some (t2_1, t3_1), ())

def s33_t0 : Templ := ⟨73, [(.int .i64), (.slice .str), (.int .i64), (.slice (.pair .str (.pair (.slice (.int .i64)) (.slice .str))))], [(1, .v (.bptr 73 0)), (4, .v (.hole (.int .i64)))], [(73, .box (.pair (.slice .str) (.pair (.int .i64) (.slice (.pair .str (.pair (.slice (.int .i64)) (.slice .str)))))) [.hole (.slice .str), .hole (.int .i64), .hole (.slice (.pair .str (.pair (.slice (.int .i64)) (.slice .str))))])], []⟩
def s33_x0 : List (Way × Templ) := [(.exit 0, ⟨73, [(.slice .str), (.int .i64), (.slice (.pair .str (.pair (.slice (.int .i64)) (.slice .str))))], [(1, .v (.bptr 73 0))], [(73, .box (.pair (.slice .str) (.pair (.int .i64) (.slice (.pair .str (.pair (.slice (.int .i64)) (.slice .str)))))) [.hole (.slice .str), .hole (.int .i64), .hole (.slice (.pair .str (.pair (.slice (.int .i64)) (.slice .str))))])], []⟩), (.ret, ⟨73, [(.int .i64), (.int .i64)], [(2, .v (.hole (.int .i64))), (3, .v (.hole (.int .i64)))], [], []⟩)]
def s33_o0 (n : Nat) : Ev (denL [(.int .i64), (.int .i64)]) := loopO n (e73 n) s33_t0 s33_x0 (s33_l0 n)
theorem s33_b0 (n : Nat) (d) (again) (ks) : codeR (R := (denL [(.int .i64), (.int .i64)])) (e73 n) (Hdl.no (R := (denL [(.int .i64), (.int .i64)]))) (inn (lp (bd Go.Proofs.Tryd.f33) 0)) [] (mk s33_t0 d) (turnR (e73 n) s33_t0 s33_x0 again ks) = s33_l0 n d again ks := by kernel_rfl
theorem s33_s0 (n : Nat) : Sound Go.Proofs.Tryd.prog (Hdl.no (R := (denL [(.int .i64), (.int .i64)]))) false (lp (bd Go.Proofs.Tryd.f33) 0) (s33_o0 n) := loop_ok (h73 n) hP (by kernel_rfl) (O := []) trivial (s33_b0 n)
def s33_t1 : Templ := ⟨73, [(.int .i64), (.slice .str), (.int .i64), (.slice (.pair .str (.pair (.slice (.int .i64)) (.slice .str))))], [(1, .v (.bptr 73 0)), (5, .v (.hole (.int .i64)))], [(73, .box (.pair (.slice .str) (.pair (.int .i64) (.slice (.pair .str (.pair (.slice (.int .i64)) (.slice .str)))))) [.hole (.slice .str), .hole (.int .i64), .hole (.slice (.pair .str (.pair (.slice (.int .i64)) (.slice .str))))])], []⟩
def s33_x1 : List (Way × Templ) := [(.exit 2, ⟨73, [], [], [], []⟩), (.ret, ⟨73, [(.int .i64), (.int .i64)], [(2, .v (.hole (.int .i64))), (3, .v (.hole (.int .i64)))], [], []⟩)]
def s33_o1 (n : Nat) : Ev (denL [(.int .i64), (.int .i64)]) := loopO n (e73 n) s33_t1 s33_x1 (s33_l1 n)
theorem s33_b1 (n : Nat) (d) (again) (ks) : codeR (R := (denL [(.int .i64), (.int .i64)])) (e73 n) (Hdl.no (R := (denL [(.int .i64), (.int .i64)]))) (inn (lp (bd Go.Proofs.Tryd.f33) 1)) [] (mk s33_t1 d) (turnR (e73 n) s33_t1 s33_x1 again ks) = s33_l1 n d again ks := by kernel_rfl
theorem s33_s1 (n : Nat) : Sound Go.Proofs.Tryd.prog (Hdl.no (R := (denL [(.int .i64), (.int .i64)]))) false (lp (bd Go.Proofs.Tryd.f33) 1) (s33_o1 n) := loop_ok (h73 n) hP (by kernel_rfl) (O := []) trivial (s33_b1 n)
def s33_c (n : Nat) : Con := ⟨[(.pair (.slice .str) (.pair (.int .i64) (.slice (.pair .str (.pair (.slice (.int .i64)) (.slice .str))))))], [], [(.int .i64), (.int .i64)], fun x y => s33 n x, false⟩
theorem s33_eq (n : Nat) (x : denL [(.pair (.slice .str) (.pair (.int .i64) (.slice (.pair .str (.pair (.slice (.int .i64)) (.slice .str))))))]) (y : denL []) : funR (e73 n) Go.Proofs.Tryd.f33 [(.pair (.slice .str) (.pair (.int .i64) (.slice (.pair .str (.pair (.slice (.int .i64)) (.slice .str))))))] [] [(.int .i64), (.int .i64)] false [s33_o0 n, s33_o1 n] x y = (s33_c n).fn x y := by kernel_rfl
theorem s33_ok (n : Nat) : ConOK Go.Proofs.Tryd.prog 33 (s33_c n) := func_ok (h73 n) hP Go.Proofs.Tryd.func33 (by kernel_rfl) (by kernel_rfl) (O := [s33_o0 n, s33_o1 n]) ⟨s33_s0 n, s33_s1 n, trivial⟩ (s33_eq n)
def e74 (n : Nat) : Env := ⟨gT, (33, s33_c n) :: (e73 n).C, gQ, (e73 n).I, (e73 n).M, (e73 n).S, (e73 n).D, [], (e73 n).O, []⟩
theorem h74 (n : Nat) : EnvOK Go.Proofs.Tryd.prog (e74 n) := env_add (h73 n) (s33_ok n)

/-- criadera/criaderaref07.BookErr -/
def s11 (n : Nat) (b : (List (List UInt8)) × Int × (List ((List UInt8) × (List Int) × (List (List UInt8))))) : Option (Int) :=
  (s33 n (b.1, (b.2.1, b.2.2))).bind fun x =>
  some (x.2)

def s11_c (n : Nat) : Con := ⟨[(.pair (.slice .str) (.pair (.int .i64) (.slice (.pair .str (.pair (.slice (.int .i64)) (.slice .str))))))], [], [(.int .i64)], fun x y => s11 n x, false⟩
theorem s11_eq (n : Nat) (x : denL [(.pair (.slice .str) (.pair (.int .i64) (.slice (.pair .str (.pair (.slice (.int .i64)) (.slice .str))))))]) (y : denL []) : funR (e74 n) Go.Proofs.Tryd.f11 [(.pair (.slice .str) (.pair (.int .i64) (.slice (.pair .str (.pair (.slice (.int .i64)) (.slice .str))))))] [] [(.int .i64)] false [] x y = (s11_c n).fn x y := by kernel_rfl
theorem s11_ok (n : Nat) : ConOK Go.Proofs.Tryd.prog 11 (s11_c n) := func_ok (h74 n) hP Go.Proofs.Tryd.func11 (by kernel_rfl) (by kernel_rfl) (O := []) trivial (s11_eq n)
def e75 (n : Nat) : Env := ⟨gT, (11, s11_c n) :: (e74 n).C, gQ, (e74 n).I, (e74 n).M, (e74 n).S, (e74 n).D, [], (e74 n).O, []⟩
theorem h75 (n : Nat) : EnvOK Go.Proofs.Tryd.prog (e75 n) := env_add (h74 n) (s11_ok n)

def s9_l0 (n : Nat) (d : (List (List UInt8)) × Int × (List UInt8) × Int × Int × (List (List UInt8)) × Int × (List ((List UInt8) × (Option (List Int)) × (List (List UInt8)))) × (List (List (List UInt8))) × Unit) (again : ((List (List UInt8)) × Int × (List UInt8) × Int × Int × (List (List UInt8)) × Int × (List ((List UInt8) × (Option (List Int)) × (List (List UInt8)))) × (List (List (List UInt8))) × Unit) → Option (((List (List UInt8)) × Int × (List ((List UInt8) × (List Int) × (List (List UInt8))))) × Int × Int)) (ks : ((List (List UInt8)) × Int × (List UInt8) × Int × (List (List UInt8)) × Int × (List ((List UInt8) × (Option (List Int)) × (List (List UInt8)))) × (List (List (List UInt8))) × Unit → Option (((List (List UInt8)) × Int × (List ((List UInt8) × (List Int) × (List (List UInt8))))) × Int × Int)) × (Int × Int × Int × Unit → Option (((List (List UInt8)) × Int × (List ((List UInt8) × (List Int) × (List (List UInt8))))) × Int × Int)) × Unit) : Option (((List (List UInt8)) × Int × (List ((List UInt8) × (List Int) × (List (List UInt8))))) × Int × Int) :=
  match d, ks with
  | (lines, v_n, v_begin, i, t2, b, b_1, b_2, to, _), (k0, k1, _) =>
  bif (decide (i < v_n)) then
    bif (i == (0 : Int)) then
      (geti lines (0 : Int)).bind fun e =>
      (s28 n e [109, 97, 114, 107, 115] (2 : Int)).bind fun x =>
      bif (!x.2) then
        k1 ((1 : Int), (7 : Int), (0 : Int), ())
      else
        (cut x.1 (1 : Int) ((List.length x.1 : Nat) : Int)).bind fun x_1 =>
        again (lines, v_n, v_begin, (IntKind.wrap .i64 (i + (1 : Int))), t2, x_1, b_1, b_2, to, ())
    else
      bif (i == (1 : Int)) then
        (geti lines (1 : Int)).bind fun e_1 =>
        (s28 n e_1 [98, 101, 103, 105, 110] (2 : Int)).bind fun x_2 =>
        bif ((!x_2.2) || (((List.length x_2.1 : Nat) : Int) != (2 : Int))) then
          k1 ((2 : Int), (7 : Int), (0 : Int), ())
        else
          (geti x_2.1 (1 : Int)).bind fun e_2 =>
          again (lines, v_n, e_2, (IntKind.wrap .i64 (i + (1 : Int))), t2, b, b_1, b_2, to, ())
      else
        (geti lines i).bind fun e_3 =>
        (s29 n e_3 ((List.length b : Nat) : Int)).bind fun x_3 =>
        bif (!x_3.2.2) then
          k1 ((IntKind.wrap .i64 (i + (1 : Int))), (7 : Int), (0 : Int), ())
        else
          (chk (List.length b_2 + List.length ([(x_3.1.1, (x_3.1.2.1, x_3.1.2.2))] : List ((List UInt8) × (Option (List Int)) × (List (List UInt8)))))).bind fun u =>
          (chk (List.length to + List.length ([x_3.2.1] : List (List (List UInt8))))).bind fun u_1 =>
          again (lines, v_n, v_begin, (IntKind.wrap .i64 (i + (1 : Int))), t2, b, b_1, (b_2 ++ ([(x_3.1.1, (x_3.1.2.1, x_3.1.2.2))] : List ((List UInt8) × (Option (List Int)) × (List (List UInt8))))), (to ++ ([x_3.2.1] : List (List (List UInt8)))), ())
  else
    k0 (lines, v_n, v_begin, t2, b, b_1, b_2, to, ())

def s9_l1_0 (n : Nat) (d : Bool × Int × Int × Int × (List (List UInt8)) × Int × (List ((List UInt8) × (Option (List Int)) × (List (List UInt8)))) × Int × (List Int) × (List (List (List UInt8))) × Unit) (again : (Bool × Int × Int × Int × (List (List UInt8)) × Int × (List ((List UInt8) × (Option (List Int)) × (List (List UInt8)))) × Int × (List Int) × (List (List (List UInt8))) × Unit) → Option (((List (List UInt8)) × Int × (List ((List UInt8) × (List Int) × (List (List UInt8))))) × Int × Int)) (ks : (Bool × Int × Int × (List (List UInt8)) × Int × (List ((List UInt8) × (Option (List Int)) × (List (List UInt8)))) × Int × (List Int) × (List (List (List UInt8))) × Unit → Option (((List (List UInt8)) × Int × (List ((List UInt8) × (List Int) × (List (List UInt8))))) × Int × Int)) × Unit) : Option (((List (List UInt8)) × Int × (List ((List UInt8) × (List Int) × (List (List UInt8))))) × Int × Int) :=
  match d, ks with
  | (missing, i, m, t2, b, b_1, b_2, b_i, o, to, _), (k0, _) =>
  (geti to i).bind fun e =>
  (geti to i).bind fun x =>
  bif (decide (m < ((List.length x : Nat) : Int))) then
    (geti to i).bind fun e_1 =>
    (geti to i).bind fun x_1 =>
    (geti x_1 m).bind fun e_2 =>
    (s30 n (b, (b_1, (List.map (fun y => (y.1, ((Option.getD y.2.1 []), (List.map (fun y => y) y.2.2)))) (closeL b_2 b_i o)))) e_2).bind fun x_2 =>
    (geti b_2 i).bind fun e_3 =>
    (eqI i b_i).bind fun u =>
    (geti b_2 i).bind fun e_4 =>
    (chk (List.length o + List.length ([x_2] : List Int))).bind fun u_1 =>
    (geti b_2 i).bind fun e_5 =>
    (eqI i b_i).bind fun u_2 =>
    (geti b_2 i).bind fun e_6 =>
    again ((missing || (decide (x_2 < (0 : Int)))), i, (IntKind.wrap .i64 (m + (1 : Int))), t2, b, b_1, b_2, b_i, (o ++ ([x_2] : List Int)), to, ())
  else
    k0 (missing, i, t2, b, b_1, b_2, b_i, o, to, ())

def s9_l1 (n : Nat) (d : Bool × Int × Int × (List (List UInt8)) × Int × (List ((List UInt8) × (Option (List Int)) × (List (List UInt8)))) × (List (List (List UInt8))) × Unit) (again : (Bool × Int × Int × (List (List UInt8)) × Int × (List ((List UInt8) × (Option (List Int)) × (List (List UInt8)))) × (List (List (List UInt8))) × Unit) → Option (((List (List UInt8)) × Int × (List ((List UInt8) × (List Int) × (List (List UInt8))))) × Int × Int)) (ks : (Bool × Int × (List (List UInt8)) × Int × (List ((List UInt8) × (Option (List Int)) × (List (List UInt8)))) × Unit → Option (((List (List UInt8)) × Int × (List ((List UInt8) × (List Int) × (List (List UInt8))))) × Int × Int)) × Unit) : Option (((List (List UInt8)) × Int × (List ((List UInt8) × (List Int) × (List (List UInt8))))) × Int × Int) :=
  match d, ks with
  | (missing, i, t2, b, b_1, b_2, to, _), (k0, _) =>
  bif (decide (i < ((List.length to : Nat) : Int))) then
    (Option.bind (nilAt b_2 i) fun _ => some (missing, i, (0 : Int), t2, b, b_1, b_2, i, ([] : List Int), to, ())).bind fun dd =>
    loopG (s9_l1_0 n) n dd
      (fun (missing_2, i_2, t2_2, b_6, b_7, b_8, b_i_1, o_1, to_2, _) =>
        again (missing_2, (IntKind.wrap .i64 (i_2 + (1 : Int))), t2_2, b_6, b_7, (closeL b_8 b_i_1 o_1), to_2, ()), ())
  else
    k0 (missing, t2, b, b_1, b_2, ())

/-- criadera/criaderaref07.ParseBook -/
def s9 (n : Nat) (t : List UInt8) : Option (((List (List UInt8)) × Int × (List ((List UInt8) × (List Int) × (List (List UInt8))))) × Int × Int) :=
  bif (decide (((List.length t : Nat) : Int) > (2000 : Int))) then
    some ((([] : List (List UInt8)), ((0 : Int), ([] : List ((List UInt8) × (List Int) × (List (List UInt8)))))), (0 : Int), (8 : Int))
  else
    (s27 n t (10 : Int)).bind fun x =>
    loopG (s9_l0 n) n (x, (IntKind.wrap .i64 (((List.length x : Nat) : Int) - (1 : Int))), [], (0 : Int), (0 : Int), ([] : List (List UInt8)), (0 : Int), ([] : List ((List UInt8) × (Option (List Int)) × (List (List UInt8)))), ([] : List (List (List UInt8))), ())
      (fun (lines_1, v_n_1, v_begin_1, t2_1, b_3, b_4, b_5, to_1, _) =>
        (geti lines_1 v_n_1).bind fun e_4 =>
        bif (((e_4 : List UInt8) != []) || (decide (v_n_1 < (3 : Int)))) then
          some ((([] : List (List UInt8)), ((0 : Int), ([] : List ((List UInt8) × (List Int) × (List (List UInt8)))))), (IntKind.wrap .i64 (v_n_1 + (1 : Int))), (7 : Int))
        else
          (s30 n (b_3, (b_4, (List.map (fun y => (y.1, ((Option.getD y.2.1 []), (List.map (fun y => y) y.2.2)))) b_5))) v_begin_1).bind fun x_5 =>
          loopG (s9_l1 n) n ((decide (x_5 < (0 : Int))), (0 : Int), t2_1, b_3, x_5, b_5, to_1, ())
            (fun (missing_3, t2_5, b_15, b_16, b_17, _) =>
              bif missing_3 then
                some ((([] : List (List UInt8)), ((0 : Int), ([] : List ((List UInt8) × (List Int) × (List (List UInt8)))))), (0 : Int), (6 : Int))
              else
                (s11 n (b_15, (b_16, (List.map (fun y => (y.1, ((Option.getD y.2.1 []), (List.map (fun y => y) y.2.2)))) b_17)))).bind fun x_9 =>
                bif (x_9 != (0 : Int)) then
                  some ((([] : List (List UInt8)), ((0 : Int), ([] : List ((List UInt8) × (List Int) × (List (List UInt8)))))), (0 : Int), x_9)
                else
                  some ((b_15, (b_16, (List.map (fun y => (y.1, ((Option.getD y.2.1 []), (List.map (fun y => y) y.2.2)))) b_17))), (0 : Int), (0 : Int)), ()),
      fun (t3, t4, t2_6, _) =>
        some ((([] : List (List UInt8)), (t2_6, ([] : List ((List UInt8) × (List Int) × (List (List UInt8)))))), t3, t4), ())

def s9_e (n : Nat) : Env := ⟨(e75 n).G, (e75 n).C, (e75 n).Q, (e75 n).I, (e75 n).M, (e75 n).S, (e75 n).D, (e75 n).N, (e75 n).O, [(92, (.pair .str (.pair (.sliceN (.int .i64)) (.slice .str))))]⟩
theorem s9_h (n : Nat) : EnvOK Go.Proofs.Tryd.prog (s9_e n) := env_k (h75 n) _
def s9_t1_0 : Templ := ⟨170, [.bool, (.int .i64), (.int .i64), (.int .i64), (.slice .str), (.int .i64), (.slice (.pair .str (.pair (.sliceN (.int .i64)) (.slice .str)))), (.int .i64), (.slice (.int .i64)), (.slice (.slice .str))], [(2, .v (.bptr 170 0)), (5, .v (.bptr 171 0)), (9, .v (.hand 174)), (18, .v (.hole .bool)), (19, .v (.hole (.int .i64))), (20, .v (.hole (.int .i64)))], [(170, .box (.pair (.slice .str) (.pair (.int .i64) (.slice (.pair .str (.pair (.slice (.int .i64)) (.slice .str)))))) [.nils, .hole (.int .i64), .nils]), (171, .box (.pair (.slice .str) (.pair (.int .i64) (.slice (.pair .str (.pair (.slice (.int .i64)) (.slice .str)))))) [.hole (.slice .str), .hole (.int .i64), .hand 172]), (172, .cbuf .str (.int .i64) (.slice .str) 19 173), (173, .buf (.int .i64)), (174, .buf (.slice .str))], []⟩
def s9_x1_0 : List (Way × Templ) := [(.exit 4, ⟨170, [.bool, (.int .i64), (.int .i64), (.slice .str), (.int .i64), (.slice (.pair .str (.pair (.sliceN (.int .i64)) (.slice .str)))), (.int .i64), (.slice (.int .i64)), (.slice (.slice .str))], [(2, .v (.bptr 170 0)), (5, .v (.bptr 171 0)), (9, .v (.hand 174)), (18, .v (.hole .bool)), (19, .v (.hole (.int .i64)))], [(170, .box (.pair (.slice .str) (.pair (.int .i64) (.slice (.pair .str (.pair (.slice (.int .i64)) (.slice .str)))))) [.nils, .hole (.int .i64), .nils]), (171, .box (.pair (.slice .str) (.pair (.int .i64) (.slice (.pair .str (.pair (.slice (.int .i64)) (.slice .str)))))) [.hole (.slice .str), .hole (.int .i64), .hand 172]), (172, .cbuf .str (.int .i64) (.slice .str) 19 173), (173, .buf (.int .i64)), (174, .buf (.slice .str))], []⟩)]
def s9_o1_0 (n : Nat) : Ev (denL [(.pair (.slice .str) (.pair (.int .i64) (.slice (.pair .str (.pair (.slice (.int .i64)) (.slice .str)))))), (.int .i64), (.int .i64)]) := loopO n (s9_e n) s9_t1_0 s9_x1_0 (s9_l1_0 n)
theorem s9_b1_0 (n : Nat) (d) (again) (ks) : codeR (R := (denL [(.pair (.slice .str) (.pair (.int .i64) (.slice (.pair .str (.pair (.slice (.int .i64)) (.slice .str)))))), (.int .i64), (.int .i64)])) (s9_e n) (Hdl.no (R := (denL [(.pair (.slice .str) (.pair (.int .i64) (.slice (.pair .str (.pair (.slice (.int .i64)) (.slice .str)))))), (.int .i64), (.int .i64)]))) (inn (lp (inn (lp (bd Go.Proofs.Tryd.f9) 1)) 0)) [] (mk s9_t1_0 d) (turnR (s9_e n) s9_t1_0 s9_x1_0 again ks) = s9_l1_0 n d again ks := by kernel_rfl
theorem s9_s1_0 (n : Nat) : Sound Go.Proofs.Tryd.prog (Hdl.no (R := (denL [(.pair (.slice .str) (.pair (.int .i64) (.slice (.pair .str (.pair (.slice (.int .i64)) (.slice .str)))))), (.int .i64), (.int .i64)]))) false (lp (inn (lp (bd Go.Proofs.Tryd.f9) 1)) 0) (s9_o1_0 n) := loop_ok (s9_h n) hP (by kernel_rfl) (O := []) trivial (s9_b1_0 n)
def s9_t0 : Templ := ⟨170, [(.slice .str), (.int .i64), .str, (.int .i64), (.int .i64), (.slice .str), (.int .i64), (.slice (.pair .str (.pair (.sliceN (.int .i64)) (.slice .str)))), (.slice (.slice .str))], [(2, .v (.bptr 170 0)), (5, .v (.bptr 171 0)), (6, .v (.hole (.slice .str))), (7, .v (.hole (.int .i64))), (8, .v (.hole .str)), (9, .v (.hand 173)), (10, .v (.hole (.int .i64)))], [(170, .box (.pair (.slice .str) (.pair (.int .i64) (.slice (.pair .str (.pair (.slice (.int .i64)) (.slice .str)))))) [.nils, .hole (.int .i64), .nils]), (171, .box (.pair (.slice .str) (.pair (.int .i64) (.slice (.pair .str (.pair (.slice (.int .i64)) (.slice .str)))))) [.hole (.slice .str), .hole (.int .i64), .hand 172]), (172, .buf (.pair .str (.pair (.sliceN (.int .i64)) (.slice .str)))), (173, .buf (.slice .str))], []⟩
def s9_x0 : List (Way × Templ) := [(.exit 0, ⟨170, [(.slice .str), (.int .i64), .str, (.int .i64), (.slice .str), (.int .i64), (.slice (.pair .str (.pair (.sliceN (.int .i64)) (.slice .str)))), (.slice (.slice .str))], [(2, .v (.bptr 170 0)), (5, .v (.bptr 171 0)), (6, .v (.hole (.slice .str))), (7, .v (.hole (.int .i64))), (8, .v (.hole .str)), (9, .v (.hand 173))], [(170, .box (.pair (.slice .str) (.pair (.int .i64) (.slice (.pair .str (.pair (.slice (.int .i64)) (.slice .str)))))) [.nils, .hole (.int .i64), .nils]), (171, .box (.pair (.slice .str) (.pair (.int .i64) (.slice (.pair .str (.pair (.slice (.int .i64)) (.slice .str)))))) [.hole (.slice .str), .hole (.int .i64), .hand 172]), (172, .buf (.pair .str (.pair (.sliceN (.int .i64)) (.slice .str)))), (173, .buf (.slice .str))], []⟩), (.ret, ⟨170, [(.int .i64), (.int .i64), (.int .i64)], [(2, .v (.bptr 170 0)), (3, .v (.hole (.int .i64))), (4, .v (.hole (.int .i64)))], [(170, .box (.pair (.slice .str) (.pair (.int .i64) (.slice (.pair .str (.pair (.slice (.int .i64)) (.slice .str)))))) [.nils, .hole (.int .i64), .nils])], []⟩)]
def s9_o0 (n : Nat) : Ev (denL [(.pair (.slice .str) (.pair (.int .i64) (.slice (.pair .str (.pair (.slice (.int .i64)) (.slice .str)))))), (.int .i64), (.int .i64)]) := loopO n (s9_e n) s9_t0 s9_x0 (s9_l0 n)
theorem s9_b0 (n : Nat) (d) (again) (ks) : codeR (R := (denL [(.pair (.slice .str) (.pair (.int .i64) (.slice (.pair .str (.pair (.slice (.int .i64)) (.slice .str)))))), (.int .i64), (.int .i64)])) (s9_e n) (Hdl.no (R := (denL [(.pair (.slice .str) (.pair (.int .i64) (.slice (.pair .str (.pair (.slice (.int .i64)) (.slice .str)))))), (.int .i64), (.int .i64)]))) (inn (lp (bd Go.Proofs.Tryd.f9) 0)) [] (mk s9_t0 d) (turnR (s9_e n) s9_t0 s9_x0 again ks) = s9_l0 n d again ks := by kernel_rfl
theorem s9_s0 (n : Nat) : Sound Go.Proofs.Tryd.prog (Hdl.no (R := (denL [(.pair (.slice .str) (.pair (.int .i64) (.slice (.pair .str (.pair (.slice (.int .i64)) (.slice .str)))))), (.int .i64), (.int .i64)]))) false (lp (bd Go.Proofs.Tryd.f9) 0) (s9_o0 n) := loop_ok (s9_h n) hP (by kernel_rfl) (O := []) trivial (s9_b0 n)
def s9_t1 : Templ := ⟨170, [.bool, (.int .i64), (.int .i64), (.slice .str), (.int .i64), (.slice (.pair .str (.pair (.sliceN (.int .i64)) (.slice .str)))), (.slice (.slice .str))], [(2, .v (.bptr 170 0)), (5, .v (.bptr 171 0)), (9, .v (.hand 173)), (18, .v (.hole .bool)), (19, .v (.hole (.int .i64)))], [(170, .box (.pair (.slice .str) (.pair (.int .i64) (.slice (.pair .str (.pair (.slice (.int .i64)) (.slice .str)))))) [.nils, .hole (.int .i64), .nils]), (171, .box (.pair (.slice .str) (.pair (.int .i64) (.slice (.pair .str (.pair (.slice (.int .i64)) (.slice .str)))))) [.hole (.slice .str), .hole (.int .i64), .hand 172]), (172, .buf (.pair .str (.pair (.sliceN (.int .i64)) (.slice .str)))), (173, .buf (.slice .str))], []⟩
def s9_x1 : List (Way × Templ) := [(.exit 2, ⟨170, [.bool, (.int .i64), (.slice .str), (.int .i64), (.slice (.pair .str (.pair (.sliceN (.int .i64)) (.slice .str))))], [(2, .v (.bptr 170 0)), (5, .v (.bptr 171 0)), (18, .v (.hole .bool))], [(170, .box (.pair (.slice .str) (.pair (.int .i64) (.slice (.pair .str (.pair (.slice (.int .i64)) (.slice .str)))))) [.nils, .hole (.int .i64), .nils]), (171, .box (.pair (.slice .str) (.pair (.int .i64) (.slice (.pair .str (.pair (.slice (.int .i64)) (.slice .str)))))) [.hole (.slice .str), .hole (.int .i64), .hand 172]), (172, .buf (.pair .str (.pair (.sliceN (.int .i64)) (.slice .str))))], []⟩)]
def s9_o1 (n : Nat) : Ev (denL [(.pair (.slice .str) (.pair (.int .i64) (.slice (.pair .str (.pair (.slice (.int .i64)) (.slice .str)))))), (.int .i64), (.int .i64)]) := loopO n (s9_e n) s9_t1 s9_x1 (s9_l1 n)
theorem s9_b1 (n : Nat) (d) (again) (ks) : codeR (R := (denL [(.pair (.slice .str) (.pair (.int .i64) (.slice (.pair .str (.pair (.slice (.int .i64)) (.slice .str)))))), (.int .i64), (.int .i64)])) (s9_e n) (Hdl.no (R := (denL [(.pair (.slice .str) (.pair (.int .i64) (.slice (.pair .str (.pair (.slice (.int .i64)) (.slice .str)))))), (.int .i64), (.int .i64)]))) (inn (lp (bd Go.Proofs.Tryd.f9) 1)) [s9_o1_0 n] (mk s9_t1 d) (turnR (s9_e n) s9_t1 s9_x1 again ks) = s9_l1 n d again ks := by kernel_rfl
theorem s9_s1 (n : Nat) : Sound Go.Proofs.Tryd.prog (Hdl.no (R := (denL [(.pair (.slice .str) (.pair (.int .i64) (.slice (.pair .str (.pair (.slice (.int .i64)) (.slice .str)))))), (.int .i64), (.int .i64)]))) false (lp (bd Go.Proofs.Tryd.f9) 1) (s9_o1 n) := loop_ok (s9_h n) hP (by kernel_rfl) (O := [s9_o1_0 n]) ⟨s9_s1_0 n, trivial⟩ (s9_b1 n)
def s9_c (n : Nat) : Con := ⟨[.str], [], [(.pair (.slice .str) (.pair (.int .i64) (.slice (.pair .str (.pair (.slice (.int .i64)) (.slice .str)))))), (.int .i64), (.int .i64)], fun x y => s9 n x, false⟩
theorem s9_eq (n : Nat) (x : denL [.str]) (y : denL []) : funR (s9_e n) Go.Proofs.Tryd.f9 [.str] [] [(.pair (.slice .str) (.pair (.int .i64) (.slice (.pair .str (.pair (.slice (.int .i64)) (.slice .str)))))), (.int .i64), (.int .i64)] false [s9_o0 n, s9_o1 n] x y = (s9_c n).fn x y := by kernel_rfl
theorem s9_ok (n : Nat) : ConOK Go.Proofs.Tryd.prog 9 (s9_c n) := func_ok (s9_h n) hP Go.Proofs.Tryd.func9 (by kernel_rfl) (by kernel_rfl) (O := [s9_o0 n, s9_o1 n]) ⟨s9_s0 n, s9_s1 n, trivial⟩ (s9_eq n)
def e76 (n : Nat) : Env := ⟨gT, (9, s9_c n) :: (e75 n).C, gQ, (e75 n).I, (e75 n).M, (e75 n).S, (e75 n).D, [], (e75 n).O, []⟩
theorem h76 (n : Nat) : EnvOK Go.Proofs.Tryd.prog (e76 n) := env_add (h75 n) (s9_ok n)

def s32_l0 (n : Nat) (d : (List (List UInt8)) × (List (List UInt8)) × Int × Unit) (again : ((List (List UInt8)) × (List (List UInt8)) × Int × Unit) → Option (Bool)) (ks : (Unit → Option (Bool)) × (Bool × Unit → Option (Bool)) × Unit) : Option (Bool) :=
  match d, ks with
  | (a, b, i, _), (k0, k1, _) =>
  bif (decide (i < ((List.length a : Nat) : Int))) then
    (geti a i).bind fun e =>
    (geti b i).bind fun e_1 =>
    bif ((e : List UInt8) != e_1) then
      k1 (false, ())
    else
      again (a, b, (IntKind.wrap .i64 (i + (1 : Int))), ())
  else
    k0 (())

/-- criadera/criaderabase.Texts -/
def s32 (n : Nat) (a : List (List UInt8)) (b : List (List UInt8)) : Option (Bool) :=
  bif (((List.length a : Nat) : Int) != ((List.length b : Nat) : Int)) then
    some (false)
  else
    loopG (s32_l0 n) n (a, b, (0 : Int), ())
      (fun (_) =>
        some (true),
      fun (t4, _) =>
        some (t4), ())

def s32_t0 : Templ := ⟨26, [(.slice .str), (.slice .str), (.int .i64)], [(0, .v (.hole (.slice .str))), (1, .v (.hole (.slice .str))), (5, .v (.hole (.int .i64)))], [], []⟩
def s32_x0 : List (Way × Templ) := [(.exit 0, ⟨26, [], [], [], []⟩), (.ret, ⟨26, [.bool], [(4, .v (.hole .bool))], [], []⟩)]
def s32_o0 (n : Nat) : Ev (denL [.bool]) := loopO n (e76 n) s32_t0 s32_x0 (s32_l0 n)
theorem s32_b0 (n : Nat) (d) (again) (ks) : codeR (R := (denL [.bool])) (e76 n) (Hdl.no (R := (denL [.bool]))) (inn (lp (bd Go.Proofs.Tryd.f32) 0)) [] (mk s32_t0 d) (turnR (e76 n) s32_t0 s32_x0 again ks) = s32_l0 n d again ks := by kernel_rfl
theorem s32_s0 (n : Nat) : Sound Go.Proofs.Tryd.prog (Hdl.no (R := (denL [.bool]))) false (lp (bd Go.Proofs.Tryd.f32) 0) (s32_o0 n) := loop_ok (h76 n) hP (by kernel_rfl) (O := []) trivial (s32_b0 n)
def s32_c (n : Nat) : Con := ⟨[(.slice .str), (.slice .str)], [], [.bool], fun x y => s32 n x.1 x.2, false⟩
theorem s32_eq (n : Nat) (x : denL [(.slice .str), (.slice .str)]) (y : denL []) : funR (e76 n) Go.Proofs.Tryd.f32 [(.slice .str), (.slice .str)] [] [.bool] false [s32_o0 n] x y = (s32_c n).fn x y := by kernel_rfl
theorem s32_ok (n : Nat) : ConOK Go.Proofs.Tryd.prog 32 (s32_c n) := func_ok (h76 n) hP Go.Proofs.Tryd.func32 (by kernel_rfl) (by kernel_rfl) (O := [s32_o0 n]) ⟨s32_s0 n, trivial⟩ (s32_eq n)
def e77 (n : Nat) : Env := ⟨gT, (32, s32_c n) :: (e76 n).C, gQ, (e76 n).I, (e76 n).M, (e76 n).S, (e76 n).D, [], (e76 n).O, []⟩
theorem h77 (n : Nat) : EnvOK Go.Proofs.Tryd.prog (e77 n) := env_add (h76 n) (s32_ok n)

/-- criadera/criaderaref07.SameMarks -/
def s31 (n : Nat) (a : (List (List UInt8)) × Int × (List ((List UInt8) × (List Int) × (List (List UInt8))))) (b : (List (List UInt8)) × Int × (List ((List UInt8) × (List Int) × (List (List UInt8))))) : Option (Bool) :=
  (s32 n a.1 b.1).bind fun x =>
  some (x)

def s31_c (n : Nat) : Con := ⟨[(.pair (.slice .str) (.pair (.int .i64) (.slice (.pair .str (.pair (.slice (.int .i64)) (.slice .str)))))), (.pair (.slice .str) (.pair (.int .i64) (.slice (.pair .str (.pair (.slice (.int .i64)) (.slice .str))))))], [], [.bool], fun x y => s31 n x.1 x.2, false⟩
theorem s31_eq (n : Nat) (x : denL [(.pair (.slice .str) (.pair (.int .i64) (.slice (.pair .str (.pair (.slice (.int .i64)) (.slice .str)))))), (.pair (.slice .str) (.pair (.int .i64) (.slice (.pair .str (.pair (.slice (.int .i64)) (.slice .str))))))]) (y : denL []) : funR (e77 n) Go.Proofs.Tryd.f31 [(.pair (.slice .str) (.pair (.int .i64) (.slice (.pair .str (.pair (.slice (.int .i64)) (.slice .str)))))), (.pair (.slice .str) (.pair (.int .i64) (.slice (.pair .str (.pair (.slice (.int .i64)) (.slice .str))))))] [] [.bool] false [] x y = (s31_c n).fn x y := by kernel_rfl
theorem s31_ok (n : Nat) : ConOK Go.Proofs.Tryd.prog 31 (s31_c n) := func_ok (h77 n) hP Go.Proofs.Tryd.func31 (by kernel_rfl) (by kernel_rfl) (O := []) trivial (s31_eq n)
def e78 (n : Nat) : Env := ⟨gT, (31, s31_c n) :: (e77 n).C, gQ, (e77 n).I, (e77 n).M, (e77 n).S, (e77 n).D, [], (e77 n).O, []⟩
theorem h78 (n : Nat) : EnvOK Go.Proofs.Tryd.prog (e78 n) := env_add (h77 n) (s31_ok n)

def s10_l0 (n : Nat) (d : Int × (List (List UInt8)) × Int × (List ((List UInt8) × (List Int) × (List (List UInt8)))) × (List (List UInt8)) × Int × (List ((List UInt8) × (List Int) × (List (List UInt8)))) × Unit) (again : (Int × (List (List UInt8)) × Int × (List ((List UInt8) × (List Int) × (List (List UInt8)))) × (List (List UInt8)) × Int × (List ((List UInt8) × (List Int) × (List (List UInt8)))) × Unit) → Option (Bool)) (ks : (Unit → Option (Bool)) × (Bool × Unit → Option (Bool)) × Unit) : Option (Bool) :=
  match d, ks with
  | (i, a, a_1, a_2, b, b_1, b_2, _), (k0, k1, _) =>
  bif (decide (i < ((List.length a_2 : Nat) : Int))) then
    (geti a_2 i).bind fun e =>
    (geti b_2 i).bind fun e_1 =>
    (part (!((e.1 : List UInt8) != e_1.1)) (s19 n e.2.1 e_1.2.1) false).bind fun x =>
    (part (!(((e.1 : List UInt8) != e_1.1) || (!x))) (s32 n e.2.2 e_1.2.2) false).bind fun x_1 =>
    bif ((((e.1 : List UInt8) != e_1.1) || (!x)) || (!x_1)) then
      k1 (false, ())
    else
      again ((IntKind.wrap .i64 (i + (1 : Int))), a, a_1, a_2, b, b_1, b_2, ())
  else
    k0 (())

/-- criadera/criaderaref07.Same -/
def s10 (n : Nat) (a : (List (List UInt8)) × Int × (List ((List UInt8) × (List Int) × (List (List UInt8))))) (b : (List (List UInt8)) × Int × (List ((List UInt8) × (List Int) × (List (List UInt8))))) : Option (Bool) :=
  (s31 n (a.1, (a.2.1, a.2.2)) (b.1, (b.2.1, b.2.2))).bind fun x =>
  bif (((!x) || (a.2.1 != b.2.1)) || (((List.length a.2.2 : Nat) : Int) != ((List.length b.2.2 : Nat) : Int))) then
    some (false)
  else
    loopG (s10_l0 n) n ((0 : Int), a.1, a.2.1, a.2.2, b.1, b.2.1, b.2.2, ())
      (fun (_) =>
        some (true),
      fun (t4, _) =>
        some (t4), ())

def s10_t0 : Templ := ⟨66, [(.int .i64), (.slice .str), (.int .i64), (.slice (.pair .str (.pair (.slice (.int .i64)) (.slice .str)))), (.slice .str), (.int .i64), (.slice (.pair .str (.pair (.slice (.int .i64)) (.slice .str))))], [(2, .v (.bptr 66 0)), (3, .v (.bptr 67 0)), (5, .v (.hole (.int .i64)))], [(66, .box (.pair (.slice .str) (.pair (.int .i64) (.slice (.pair .str (.pair (.slice (.int .i64)) (.slice .str)))))) [.hole (.slice .str), .hole (.int .i64), .hole (.slice (.pair .str (.pair (.slice (.int .i64)) (.slice .str))))]), (67, .box (.pair (.slice .str) (.pair (.int .i64) (.slice (.pair .str (.pair (.slice (.int .i64)) (.slice .str)))))) [.hole (.slice .str), .hole (.int .i64), .hole (.slice (.pair .str (.pair (.slice (.int .i64)) (.slice .str))))])], []⟩
def s10_x0 : List (Way × Templ) := [(.exit 0, ⟨66, [], [], [], []⟩), (.ret, ⟨66, [.bool], [(4, .v (.hole .bool))], [], []⟩)]
def s10_o0 (n : Nat) : Ev (denL [.bool]) := loopO n (e78 n) s10_t0 s10_x0 (s10_l0 n)
theorem s10_b0 (n : Nat) (d) (again) (ks) : codeR (R := (denL [.bool])) (e78 n) (Hdl.no (R := (denL [.bool]))) (inn (lp (bd Go.Proofs.Tryd.f10) 0)) [] (mk s10_t0 d) (turnR (e78 n) s10_t0 s10_x0 again ks) = s10_l0 n d again ks := by kernel_rfl
theorem s10_s0 (n : Nat) : Sound Go.Proofs.Tryd.prog (Hdl.no (R := (denL [.bool]))) false (lp (bd Go.Proofs.Tryd.f10) 0) (s10_o0 n) := loop_ok (h78 n) hP (by kernel_rfl) (O := []) trivial (s10_b0 n)
def s10_c (n : Nat) : Con := ⟨[(.pair (.slice .str) (.pair (.int .i64) (.slice (.pair .str (.pair (.slice (.int .i64)) (.slice .str)))))), (.pair (.slice .str) (.pair (.int .i64) (.slice (.pair .str (.pair (.slice (.int .i64)) (.slice .str))))))], [], [.bool], fun x y => s10 n x.1 x.2, false⟩
theorem s10_eq (n : Nat) (x : denL [(.pair (.slice .str) (.pair (.int .i64) (.slice (.pair .str (.pair (.slice (.int .i64)) (.slice .str)))))), (.pair (.slice .str) (.pair (.int .i64) (.slice (.pair .str (.pair (.slice (.int .i64)) (.slice .str))))))]) (y : denL []) : funR (e78 n) Go.Proofs.Tryd.f10 [(.pair (.slice .str) (.pair (.int .i64) (.slice (.pair .str (.pair (.slice (.int .i64)) (.slice .str)))))), (.pair (.slice .str) (.pair (.int .i64) (.slice (.pair .str (.pair (.slice (.int .i64)) (.slice .str))))))] [] [.bool] false [s10_o0 n] x y = (s10_c n).fn x y := by kernel_rfl
theorem s10_ok (n : Nat) : ConOK Go.Proofs.Tryd.prog 10 (s10_c n) := func_ok (h78 n) hP Go.Proofs.Tryd.func10 (by kernel_rfl) (by kernel_rfl) (O := [s10_o0 n]) ⟨s10_s0 n, trivial⟩ (s10_eq n)
def e79 (n : Nat) : Env := ⟨gT, (10, s10_c n) :: (e78 n).C, gQ, (e78 n).I, (e78 n).M, (e78 n).S, (e78 n).D, [], (e78 n).O, []⟩
theorem h79 (n : Nat) : EnvOK Go.Proofs.Tryd.prog (e79 n) := env_add (h78 n) (s10_ok n)

def s12_l0 (n : Nat) (d : (List UInt8) × Int × (List (List UInt8)) × Int × (List ((List UInt8) × (List Int) × (List (List UInt8)))) × Unit) (again : ((List UInt8) × Int × (List (List UInt8)) × Int × (List ((List UInt8) × (List Int) × (List (List UInt8)))) × Unit) → Option ((List UInt8))) (ks : ((List UInt8) × (List (List UInt8)) × Int × (List ((List UInt8) × (List Int) × (List (List UInt8)))) × Unit → Option ((List UInt8))) × Unit) : Option ((List UInt8)) :=
  match d, ks with
  | (t, i, b, b_1, b_2, _), (k0, _) =>
  bif (decide (i < ((List.length b : Nat) : Int))) then
    (chk (List.length t + List.length [32])).bind fun u =>
    (geti b i).bind fun e =>
    (chk (List.length (t ++ [32]) + List.length e)).bind fun u_1 =>
    again (((t ++ [32]) ++ e), (IntKind.wrap .i64 (i + (1 : Int))), b, b_1, b_2, ())
  else
    k0 (t, b, b_1, b_2, ())

def s12_l1_0 (n : Nat) (d : (List UInt8) × Int × Int × (List (List UInt8)) × Int × (List ((List UInt8) × (List Int) × (List (List UInt8)))) × (List UInt8) × (List Int) × (List (List UInt8)) × Unit) (again : ((List UInt8) × Int × Int × (List (List UInt8)) × Int × (List ((List UInt8) × (List Int) × (List (List UInt8)))) × (List UInt8) × (List Int) × (List (List UInt8)) × Unit) → Option ((List UInt8))) (ks : ((List UInt8) × Int × (List (List UInt8)) × Int × (List ((List UInt8) × (List Int) × (List (List UInt8)))) × Unit → Option ((List UInt8))) × Unit) : Option ((List UInt8)) :=
  match d, ks with
  | (t, i, m, b, b_1, b_2, c, c_1, c_2, _), (k0, _) =>
  bif (decide (m < ((List.length c_1 : Nat) : Int))) then
    (chk (List.length t + List.length [32])).bind fun u =>
    (geti c_1 m).bind fun e =>
    (geti b_2 e).bind fun e_1 =>
    (chk (List.length (t ++ [32]) + List.length e_1.1)).bind fun u_1 =>
    (chk (List.length ((t ++ [32]) ++ e_1.1) + List.length [47])).bind fun u_2 =>
    (geti c_2 m).bind fun e_2 =>
    (chk (List.length (((t ++ [32]) ++ e_1.1) ++ [47]) + List.length e_2)).bind fun u_3 =>
    again (((((t ++ [32]) ++ e_1.1) ++ [47]) ++ e_2), i, (IntKind.wrap .i64 (m + (1 : Int))), b, b_1, b_2, c, c_1, c_2, ())
  else
    k0 (t, i, b, b_1, b_2, ())

def s12_l1 (n : Nat) (d : (List UInt8) × Int × (List (List UInt8)) × Int × (List ((List UInt8) × (List Int) × (List (List UInt8)))) × Unit) (again : ((List UInt8) × Int × (List (List UInt8)) × Int × (List ((List UInt8) × (List Int) × (List (List UInt8)))) × Unit) → Option ((List UInt8))) (ks : ((List UInt8) × Unit → Option ((List UInt8))) × Unit) : Option ((List UInt8)) :=
  match d, ks with
  | (t, i, b, b_1, b_2, _), (k0, _) =>
  bif (decide (i < ((List.length b_2 : Nat) : Int))) then
    (geti b_2 i).bind fun e =>
    (chk (List.length t + List.length [99, 108, 97, 115, 115, 32])).bind fun u =>
    (chk (List.length (t ++ [99, 108, 97, 115, 115, 32]) + List.length e.1)).bind fun u_1 =>
    loopG (s12_l1_0 n) n (((t ++ [99, 108, 97, 115, 115, 32]) ++ e.1), i, (0 : Int), b, b_1, b_2, e.1, e.2.1, e.2.2, ())
      (fun (t_2, i_2, b_6, b_7, b_8, _) =>
        (chk (List.length t_2 + List.length [10])).bind fun u_6 =>
        again ((t_2 ++ [10]), (IntKind.wrap .i64 (i_2 + (1 : Int))), b_6, b_7, b_8, ()), ())
  else
    k0 (t, ())

/-- criadera/criaderaref07.FormatBook -/
def s12 (n : Nat) (b : (List (List UInt8)) × Int × (List ((List UInt8) × (List Int) × (List (List UInt8))))) : Option ((List UInt8)) :=
  loopG (s12_l0 n) n ([109, 97, 114, 107, 115], (0 : Int), b.1, b.2.1, b.2.2, ())
    (fun (t_1, b_4, b_5, b_6, _) =>
      (chk (List.length t_1 + List.length [10, 98, 101, 103, 105, 110, 32])).bind fun u_2 =>
      (geti b_6 b_5).bind fun e_1 =>
      (chk (List.length (t_1 ++ [10, 98, 101, 103, 105, 110, 32]) + List.length e_1.1)).bind fun u_3 =>
      (chk (List.length ((t_1 ++ [10, 98, 101, 103, 105, 110, 32]) ++ e_1.1) + List.length [10])).bind fun u_4 =>
      loopG (s12_l1 n) n ((((t_1 ++ [10, 98, 101, 103, 105, 110, 32]) ++ e_1.1) ++ [10]), (0 : Int), b_4, b_5, b_6, ())
        (fun (t_5, _) =>
          some (t_5), ()), ())

def s12_t1_0 : Templ := ⟨81, [.str, (.int .i64), (.int .i64), (.slice .str), (.int .i64), (.slice (.pair .str (.pair (.slice (.int .i64)) (.slice .str)))), .str, (.slice (.int .i64)), (.slice .str)], [(1, .v (.bptr 81 0)), (3, .v (.hole .str)), (5, .v (.hole (.int .i64))), (6, .v (.bptr 82 0)), (7, .v (.hole (.int .i64)))], [(81, .box (.pair (.slice .str) (.pair (.int .i64) (.slice (.pair .str (.pair (.slice (.int .i64)) (.slice .str)))))) [.hole (.slice .str), .hole (.int .i64), .hole (.slice (.pair .str (.pair (.slice (.int .i64)) (.slice .str))))]), (82, .box (.pair .str (.pair (.slice (.int .i64)) (.slice .str))) [.hole .str, .hole (.slice (.int .i64)), .hole (.slice .str)])], []⟩
def s12_x1_0 : List (Way × Templ) := [(.exit 4, ⟨81, [.str, (.int .i64), (.slice .str), (.int .i64), (.slice (.pair .str (.pair (.slice (.int .i64)) (.slice .str))))], [(1, .v (.bptr 81 0)), (3, .v (.hole .str)), (5, .v (.hole (.int .i64)))], [(81, .box (.pair (.slice .str) (.pair (.int .i64) (.slice (.pair .str (.pair (.slice (.int .i64)) (.slice .str)))))) [.hole (.slice .str), .hole (.int .i64), .hole (.slice (.pair .str (.pair (.slice (.int .i64)) (.slice .str))))])], []⟩)]
def s12_o1_0 (n : Nat) : Ev (denL [.str]) := loopO n (e79 n) s12_t1_0 s12_x1_0 (s12_l1_0 n)
theorem s12_b1_0 (n : Nat) (d) (again) (ks) : codeR (R := (denL [.str])) (e79 n) (Hdl.no (R := (denL [.str]))) (inn (lp (inn (lp (bd Go.Proofs.Tryd.f12) 1)) 0)) [] (mk s12_t1_0 d) (turnR (e79 n) s12_t1_0 s12_x1_0 again ks) = s12_l1_0 n d again ks := by kernel_rfl
theorem s12_s1_0 (n : Nat) : Sound Go.Proofs.Tryd.prog (Hdl.no (R := (denL [.str]))) false (lp (inn (lp (bd Go.Proofs.Tryd.f12) 1)) 0) (s12_o1_0 n) := loop_ok (h79 n) hP (by kernel_rfl) (O := []) trivial (s12_b1_0 n)
def s12_t0 : Templ := ⟨81, [.str, (.int .i64), (.slice .str), (.int .i64), (.slice (.pair .str (.pair (.slice (.int .i64)) (.slice .str))))], [(1, .v (.bptr 81 0)), (3, .v (.hole .str)), (4, .v (.hole (.int .i64)))], [(81, .box (.pair (.slice .str) (.pair (.int .i64) (.slice (.pair .str (.pair (.slice (.int .i64)) (.slice .str)))))) [.hole (.slice .str), .hole (.int .i64), .hole (.slice (.pair .str (.pair (.slice (.int .i64)) (.slice .str))))])], []⟩
def s12_x0 : List (Way × Templ) := [(.exit 0, ⟨81, [.str, (.slice .str), (.int .i64), (.slice (.pair .str (.pair (.slice (.int .i64)) (.slice .str))))], [(1, .v (.bptr 81 0)), (3, .v (.hole .str))], [(81, .box (.pair (.slice .str) (.pair (.int .i64) (.slice (.pair .str (.pair (.slice (.int .i64)) (.slice .str)))))) [.hole (.slice .str), .hole (.int .i64), .hole (.slice (.pair .str (.pair (.slice (.int .i64)) (.slice .str))))])], []⟩)]
def s12_o0 (n : Nat) : Ev (denL [.str]) := loopO n (e79 n) s12_t0 s12_x0 (s12_l0 n)
theorem s12_b0 (n : Nat) (d) (again) (ks) : codeR (R := (denL [.str])) (e79 n) (Hdl.no (R := (denL [.str]))) (inn (lp (bd Go.Proofs.Tryd.f12) 0)) [] (mk s12_t0 d) (turnR (e79 n) s12_t0 s12_x0 again ks) = s12_l0 n d again ks := by kernel_rfl
theorem s12_s0 (n : Nat) : Sound Go.Proofs.Tryd.prog (Hdl.no (R := (denL [.str]))) false (lp (bd Go.Proofs.Tryd.f12) 0) (s12_o0 n) := loop_ok (h79 n) hP (by kernel_rfl) (O := []) trivial (s12_b0 n)
def s12_t1 : Templ := ⟨81, [.str, (.int .i64), (.slice .str), (.int .i64), (.slice (.pair .str (.pair (.slice (.int .i64)) (.slice .str))))], [(1, .v (.bptr 81 0)), (3, .v (.hole .str)), (5, .v (.hole (.int .i64)))], [(81, .box (.pair (.slice .str) (.pair (.int .i64) (.slice (.pair .str (.pair (.slice (.int .i64)) (.slice .str)))))) [.hole (.slice .str), .hole (.int .i64), .hole (.slice (.pair .str (.pair (.slice (.int .i64)) (.slice .str))))])], []⟩
def s12_x1 : List (Way × Templ) := [(.exit 2, ⟨81, [.str], [(3, .v (.hole .str))], [], []⟩)]
def s12_o1 (n : Nat) : Ev (denL [.str]) := loopO n (e79 n) s12_t1 s12_x1 (s12_l1 n)
theorem s12_b1 (n : Nat) (d) (again) (ks) : codeR (R := (denL [.str])) (e79 n) (Hdl.no (R := (denL [.str]))) (inn (lp (bd Go.Proofs.Tryd.f12) 1)) [s12_o1_0 n] (mk s12_t1 d) (turnR (e79 n) s12_t1 s12_x1 again ks) = s12_l1 n d again ks := by kernel_rfl
theorem s12_s1 (n : Nat) : Sound Go.Proofs.Tryd.prog (Hdl.no (R := (denL [.str]))) false (lp (bd Go.Proofs.Tryd.f12) 1) (s12_o1 n) := loop_ok (h79 n) hP (by kernel_rfl) (O := [s12_o1_0 n]) ⟨s12_s1_0 n, trivial⟩ (s12_b1 n)
def s12_c (n : Nat) : Con := ⟨[(.pair (.slice .str) (.pair (.int .i64) (.slice (.pair .str (.pair (.slice (.int .i64)) (.slice .str))))))], [], [.str], fun x y => s12 n x, false⟩
theorem s12_eq (n : Nat) (x : denL [(.pair (.slice .str) (.pair (.int .i64) (.slice (.pair .str (.pair (.slice (.int .i64)) (.slice .str))))))]) (y : denL []) : funR (e79 n) Go.Proofs.Tryd.f12 [(.pair (.slice .str) (.pair (.int .i64) (.slice (.pair .str (.pair (.slice (.int .i64)) (.slice .str))))))] [] [.str] false [s12_o0 n, s12_o1 n] x y = (s12_c n).fn x y := by kernel_rfl
theorem s12_ok (n : Nat) : ConOK Go.Proofs.Tryd.prog 12 (s12_c n) := func_ok (h79 n) hP Go.Proofs.Tryd.func12 (by kernel_rfl) (by kernel_rfl) (O := [s12_o0 n, s12_o1 n]) ⟨s12_s0 n, s12_s1 n, trivial⟩ (s12_eq n)
def e80 (n : Nat) : Env := ⟨gT, (12, s12_c n) :: (e79 n).C, gQ, (e79 n).I, (e79 n).M, (e79 n).S, (e79 n).D, [], (e79 n).O, []⟩
theorem h80 (n : Nat) : EnvOK Go.Proofs.Tryd.prog (e80 n) := env_add (h79 n) (s12_ok n)

/-- criadera/criaderalaw07.TasteTexts -/
def s3 (n : Nat) (b : (List (List UInt8)) × Int × (List ((List UInt8) × (List Int) × (List (List UInt8))))) (t : List UInt8) : Option (Bool) :=
  (s4 n).bind fun x =>
  bif (!x) then
    some (false)
  else
    (s5 n (b.1, (b.2.1, b.2.2))).bind fun x_1 =>
    bif (((!x_1) || ((decide (((List.length t : Nat) : Int) > (300 : Int))) && (decide (((List.length t : Nat) : Int) ≤ (2000 : Int))))) || (decide (((List.length t : Nat) : Int) > (2050 : Int)))) then
      some (true)
    else
      (s7 n (b.1, (b.2.1, b.2.2))).bind fun x_2 =>
      (s6 n x_2).bind fun x_3 =>
      (s8 n t).bind fun x_4 =>
      (s9 n t).bind fun x_5 =>
      (part (!((x_4.2.2 != x_5.2.2) || (x_4.2.1 != x_5.2.1))) (s10 n (x_4.1.1, (x_4.1.2.1, x_4.1.2.2)) (x_5.1.1, (x_5.1.2.1, x_5.1.2.2))) false).bind fun x_6 =>
      bif (((x_4.2.2 != x_5.2.2) || (x_4.2.1 != x_5.2.1)) || (!x_6)) then
        some (false)
      else
        (s11 n (b.1, (b.2.1, b.2.2))).bind fun x_7 =>
        bif (x_7 != (0 : Int)) then
          some (((x_3 : List UInt8) == []))
        else
          (s8 n x_3).bind fun x_8 =>
          (s12 n (b.1, (b.2.1, b.2.2))).bind fun x_9 =>
          (part ((((x_3 : List UInt8) == x_9) && (x_8.2.2 == (0 : Int))) && (x_8.2.1 == (0 : Int))) (s10 n (x_8.1.1, (x_8.1.2.1, x_8.1.2.2)) (b.1, (b.2.1, b.2.2))) false).bind fun x_10 =>
          some ((((((x_3 : List UInt8) == x_9) && (x_8.2.2 == (0 : Int))) && (x_8.2.1 == (0 : Int))) && x_10))

def s3_c (n : Nat) : Con := ⟨[(.pair (.slice .str) (.pair (.int .i64) (.slice (.pair .str (.pair (.slice (.int .i64)) (.slice .str)))))), .str], [], [.bool], fun x y => s3 n x.1 x.2, false⟩
theorem s3_eq (n : Nat) (x : denL [(.pair (.slice .str) (.pair (.int .i64) (.slice (.pair .str (.pair (.slice (.int .i64)) (.slice .str)))))), .str]) (y : denL []) : funR (e80 n) Go.Proofs.Tryd.f3 [(.pair (.slice .str) (.pair (.int .i64) (.slice (.pair .str (.pair (.slice (.int .i64)) (.slice .str)))))), .str] [] [.bool] false [] x y = (s3_c n).fn x y := by kernel_rfl
theorem s3_ok (n : Nat) : ConOK Go.Proofs.Tryd.prog 3 (s3_c n) := func_ok (h80 n) hP Go.Proofs.Tryd.func3 (by kernel_rfl) (by kernel_rfl) (O := []) trivial (s3_eq n)
def e81 (n : Nat) : Env := ⟨gT, (3, s3_c n) :: (e80 n).C, gQ, (e80 n).I, (e80 n).M, (e80 n).S, (e80 n).D, [], (e80 n).O, []⟩
theorem h81 (n : Nat) : EnvOK Go.Proofs.Tryd.prog (e81 n) := env_add (h80 n) (s3_ok n)



end Go.Abs

set_option linter.unusedSimpArgs false
set_option linter.unusedVariables false
namespace Go.Abs
open Go

/-! Specifications. -/
def firstErr : List Int → Int
  | [] => 0
  | e :: r => bif e == 0 then firstErr r else e
def unl (ok : Bool) (e : Int) : Int := bif ok then 0 else e
def inR (n lo hi : Int) : Bool := decide (lo ≤ n) && decide (n ≤ hi)

def chOk (first : Bool) (c : UInt8) : Bool :=
  let n : Int := (c.toNat : Int)
  let letter := (decide (n ≥ 97) && decide (n ≤ 122)) || (decide (n ≥ 65) && decide (n ≤ 90))
  !(!letter && (first || (n != 45 && (decide (n < 48) || decide (n > 57)))))
def charsOk : Nat → List UInt8 → Bool
  | _, [] => true
  | i, c :: r => chOk (i == 0) c && charsOk (i + 1) r
def nameOk (s : List UInt8) : Bool := charsOk 0 s && s != [] && decide (s.length ≤ 12)

theorem v38 (n : Nat) (ok : Bool) (e : Int) : s38 n ok e = some (unl ok e) := by
  unfold s38 unl
  cases ok <;> rfl
theorem v39 (n : Nat) (x lo hi : Int) : s39 n x lo hi = some (inR x lo hi) := rfl
theorem v64 (n : Nat) (x lo hi : Int) : s64 n x lo hi = some (inR x lo hi) := rfl

theorem v37 (n : Nat) (l : List Int) (hl : l.length ≤ maxLen) (hn : l.length < n) : s37 n l = some (firstErr l) := by
  unfold s37
  refine list_loop0 l (fun i => (l, (l.length : Int), (i : Int), ())) (fun _ r => some (firstErr r)) hl ?_ ?_ hn
  · intro i x r hi hx hd hg hlt hw again ih
    simp only [s37_l0, hlt, cond_true, hg, Option.bind_some, hw, ih, firstErr, bne]
    cases h : (x == 0) <;> rfl
  · intro hlt again
    simp only [s37_l0, hlt, cond_false, firstErr]

theorem zero_beq (i : Nat) : ((i : Int) == 0) = (i == 0) := by
  cases i <;> simp
  omega

theorem v52 (n : Nat) (s : List UInt8) (hl : s.length ≤ maxLen) (hn : s.length < n) : s52 n s = some (nameOk s) := by
  unfold s52
  have hb : (bytesOf s).length = s.length := by simp [bytesOf]
  rw [hb]
  refine (list_loop0 s (fun i => (s, bytesOf s, (s.length : Int), (i : Int), ())) (fun i r => some (charsOk i r && s != [] && decide (s.length ≤ 12))) hl ?_ ?_ hn)
  · intro i x r hi hx hd hg hlt hw again ih
    have hg' : geti (bytesOf s) (i : Int) = some (x.toNat : Int) := by
      rw [geti_nat]; simp [bytesOf, hx]
    simp only [s52_l0, hlt, cond_true, hg', Option.bind_some, hw, ih, charsOk, chOk, zero_beq]
    rw [bif_eq]
    split
    · rename_i h
      rw [h]; rfl
    · rename_i h
      rw [Bool.not_eq_true] at h
      rw [h]; rfl
  · intro hlt again
    simp only [s52_l0, hlt, cond_false, charsOk, Bool.true_and]
    congr 2
    simp
    omega

theorem v63 (n : Nat) (s : List UInt8) (hl : s.length ≤ maxLen) (hn : s.length < n) : s63 n s = some (nameOk s) := by
  unfold s63
  rw [bif_eq]
  split
  · rename_i h
    have : nameOk s = false := by
      unfold nameOk
      cases s with
      | nil => simp
      | cons c r =>
        simp only [Bool.or_eq_true, decide_eq_true_eq] at h
        have : ¬ (c :: r).length ≤ 12 := by rcases h with h | h <;> simp at h ⊢ <;> omega
        simp only [this, decide_false, Bool.and_false]
    rw [this]
  · rename_i h
    have h12 : 1 ≤ s.length ∧ s.length ≤ 12 := by simp at h; omega
    refine (list_loop0 s (fun i => (s, (i : Int), ())) (fun i r => some (charsOk i r)) hl ?_ ?_ hn).trans ?_
    · intro i x r hi hx hd hg hlt hw again ih
      simp only [s63_l0, hlt, cond_true, hg, Option.bind_some, hw, ih, charsOk, chOk, zero_beq]
      rw [bif_eq]
      split
      · rename_i h
        rw [h]; rfl
      · rename_i h
        rw [Bool.not_eq_true] at h
        rw [h]; rfl
    · intro hlt again
      simp only [s63_l0, hlt, cond_false, charsOk]
    · unfold nameOk
      have : s != [] := by cases s <;> simp at h12 ⊢
      simp [this, h12]

/-- The place of the first element that is so, or -1. -/
def idxF {α : Type} (p : α → Bool) : Nat → List α → Int
  | _, [] => -1
  | i, x :: r => bif p x then (i : Int) else idxF p (i + 1) r
theorem idxF_any {α : Type} (p : α → Bool) (l : List α) : ∀ i, decide (idxF p i l ≥ 0) = l.any p := by
  induction l with
  | nil => intro i; rfl
  | cons x r ih =>
    intro i
    rw [List.any_cons, ← ih (i + 1)]
    cases h : p x <;> simp [idxF, h]

theorem v61 (n : Nat) (s : List (List UInt8)) (v : List UInt8) (hl : s.length ≤ maxLen) (hn : s.length < n) : s61 n s v = some (idxF (fun x => v == x) 0 s) := by
  unfold s61
  refine list_loop0 s (fun i => (s, v, (s.length : Int), (i : Int), ())) (fun i r => some (idxF (fun x => v == x) i r)) hl ?_ ?_ hn
  · intro i x r hi hx hd hg hlt hw again ih
    simp only [s61_l0, hlt, cond_true, hg, Option.bind_some, hw, ih, idxF]
    cases h : (v == x) <;> rfl
  · intro hlt again
    simp only [s61_l0, hlt, cond_false, idxF]

theorem v57 (n : Nat) (s : List (List UInt8)) (v : List UInt8) (hl : s.length ≤ maxLen) (hn : s.length < n) : s57 n s v = some (s.any fun x => v == x) := by
  unfold s57
  rw [v61 n s v hl hn, Option.bind_some, idxF_any]

theorem v74 (n : Nat) (s : List Int) (v : Int) (hl : s.length ≤ maxLen) (hn : s.length < n) : s74 n s v = some (idxF (fun x => v == x) 0 s) := by
  unfold s74
  refine list_loop0 s (fun i => (s, v, (s.length : Int), (i : Int), ())) (fun i r => some (idxF (fun x => v == x) i r)) hl ?_ ?_ hn
  · intro i x r hi hx hd hg hlt hw again ih
    simp only [s74_l0, hlt, cond_true, hg, Option.bind_some, hw, ih, idxF]
    cases h : (v == x) <;> rfl
  · intro hlt again
    simp only [s74_l0, hlt, cond_false, idxF]

theorem v75 (n : Nat) (s : List Int) (v : Int) (hl : s.length ≤ maxLen) (hn : s.length < n) : s75 n s v = some (s.any fun x => v == x) := by
  unfold s75
  rw [v74 n s v hl hn, Option.bind_some, idxF_any]

theorem v62 (n : Nat) (s : List (List UInt8)) (v : List UInt8) (hl : s.length ≤ maxLen) (hn : s.length < n) : s62 n s v = some (s.any fun x => v == x) := by
  unfold s62
  refine list_loop0 s (fun i => (s, v, (i : Int), ())) (fun i r => some (r.any fun x => v == x)) hl ?_ ?_ hn
  · intro i x r hi hx hd hg hlt hw again ih
    simp only [s62_l0, hlt, cond_true, hg, Option.bind_some, hw, ih, List.any_cons]
    rw [BEq.comm]
    cases h : (v == x) <;> rfl
  · intro hlt again
    simp only [s62_l0, hlt, cond_false, List.any_nil]

theorem v76 (n : Nat) (s : List Int) (f : Int → Option Bool) (q : Int → Bool) (hf : ∀ x ∈ s, f x = some (q x)) (hl : s.length ≤ maxLen) (hn : s.length < n) : s76 n s f = some (idxF q 0 s) := by
  unfold s76
  refine list_loop0 s (fun i => (s, f, (s.length : Int), (i : Int), ())) (fun i r => some (idxF q i r)) hl ?_ ?_ hn
  · intro i x r hi hx hd hg hlt hw again ih
    simp only [s76_l0, hlt, cond_true, hg, Option.bind_some, hw, ih, idxF, hf x (List.mem_of_getElem? hx)]
    cases h : q x <;> rfl
  · intro hlt again
    simp only [s76_l0, hlt, cond_false, idxF]
theorem v48 (n : Nat) (s : List Int) (f : Int → Option Bool) (q : Int → Bool) (hf : ∀ x ∈ s, f x = some (q x)) (hl : s.length ≤ maxLen) (hn : s.length < n) : s48 n s f = some (s.any q) := by
  unfold s48
  rw [v76 n s f q hf hl hn, Option.bind_some, idxF_any]
theorem v77 (n : Nat) (s : List (List UInt8)) (f : List UInt8 → Option Bool) (q : List UInt8 → Bool) (hf : ∀ x ∈ s, f x = some (q x)) (hl : s.length ≤ maxLen) (hn : s.length < n) : s77 n s f = some (idxF q 0 s) := by
  unfold s77
  refine list_loop0 s (fun i => (s, f, (s.length : Int), (i : Int), ())) (fun i r => some (idxF q i r)) hl ?_ ?_ hn
  · intro i x r hi hx hd hg hlt hw again ih
    simp only [s77_l0, hlt, cond_true, hg, Option.bind_some, hw, ih, idxF, hf x (List.mem_of_getElem? hx)]
    cases h : q x <;> rfl
  · intro hlt again
    simp only [s77_l0, hlt, cond_false, idxF]
theorem v50 (n : Nat) (s : List (List UInt8)) (f : List UInt8 → Option Bool) (q : List UInt8 → Bool) (hf : ∀ x ∈ s, f x = some (q x)) (hl : s.length ≤ maxLen) (hn : s.length < n) : s50 n s f = some (s.any q) := by
  unfold s50
  rw [v77 n s f q hf hl hn, Option.bind_some, idxF_any]

end Go.Abs

set_option linter.unusedSimpArgs false
set_option linter.unusedVariables false
namespace Go.Abs
open Go

abbrev Txt := List UInt8
abbrev Cls := Txt × List Int × List Txt
abbrev Book := List Txt × Int × List Cls

def Lt {α : Type} (n : Nat) (l : List α) : Prop := l.length < n
def fitC (n : Nat) (c : Cls) : Prop := Lt n c.1 ∧ Lt n c.2.1 ∧ Lt n c.2.2 ∧ ∀ s ∈ c.2.2, Lt n s
def fitB (n : Nat) (b : Book) : Prop := Lt n b.1 ∧ (∀ s ∈ b.1, Lt n s) ∧ Lt n b.2.2 ∧ ∀ c ∈ b.2.2, fitC n c
structure Fuel (n : Nat) : Prop where
  lo : 2000 ≤ n
  hi : n ≤ 2147483648
theorem Fuel.le {n : Nat} (h : Fuel n) {α : Type} {l : List α} (hl : Lt n l) : l.length ≤ maxLen := by
  have := h.hi
  unfold Lt at hl
  unfold maxLen
  omega

def nameErrS (name : Txt) (others : List Txt) : Int := firstErr [unl (nameOk name) 4, unl (!(others.any fun x => name == x)) 5]
def marksGo (pre : List Txt) : List Txt → Int
  | [] => 0
  | m :: r => bif nameErrS m pre == 0 then marksGo (pre ++ [m]) r else nameErrS m pre
def clsErr (nm nc : Int) (pre : List Txt) (c : Cls) : Int :=
  firstErr [nameErrS c.1 pre, unl (((c.2.1.length : Int) == nm) && ((c.2.2.length : Int) == nm)) 10, unl (!(c.2.1.any fun k => !inR k 0 (nc - 1))) 6, unl (!(c.2.2.any fun s => !nameOk s)) 4]
def clsGo (nm nc : Int) : Nat → List Txt → List Cls → Int × Int
  | _, _, [] => (0, 0)
  | i, pre, c :: r => bif clsErr nm nc pre c == 0 then clsGo nm nc (i + 1) (pre ++ [c.1]) r else ((i : Int), clsErr nm nc pre c)
def sizeErr (b : Book) : Int := firstErr [unl (decide (0 < b.1.length) && decide (0 < b.2.2.length)) 10, unl (decide (b.1.length ≤ 6) && decide (b.2.2.length ≤ 8)) 8]
def bookErr (b : Book) : Int × Int :=
  bif sizeErr b == 0 then
    (bif marksGo [] b.1 == 0 then
      (bif inR b.2.1 0 ((b.2.2.length : Int) - 1) then clsGo b.1.length b.2.2.length 0 [] b.2.2 else (0, 6))
    else (0, marksGo [] b.1))
  else (0, sizeErr b)

theorem v46 (n : Nat) (name : Txt) (others : List Txt) (hf : Fuel n) (h1 : Lt n name) (h2 : Lt n others) : s46 n name others = some (nameErrS name others) := by
  unfold s46
  have := hf.lo
  rw [v52 n name (hf.le h1) h1, Option.bind_some, v38, Option.bind_some, v57 n others name (hf.le h2) h2, Option.bind_some, v38, Option.bind_some, v37 n _ (by simp [maxLen]) (by simp; omega)]
  rfl

/-- Marks, one after the other: both programs. -/
theorem v20_l0 (n : Nat) (hf : Fuel n) (marks : List Txt) (m : Int) (b1 : Int) (b2 : List Cls) (cl : Int) (h1 : Lt n marks) (h2 : ∀ s ∈ marks, Lt n s)
    (k0 : Int × List Txt × Int × List Cls × Int × Unit → Option (Int × Int)) (k1 : Int × Int × Unit → Option (Int × Int)) :
    loopG (s20_l0 n) n (m, marks, (marks.length : Int), (0 : Int), marks, b1, b2, cl, ()) (k0, k1, ()) =
      bif marksGo [] marks == 0 then k0 (m, marks, b1, b2, cl, ()) else k1 (0, marksGo [] marks, ()) := by
  refine (list_loop0 marks (fun i => (m, marks, (marks.length : Int), (i : Int), marks, b1, b2, cl, ())) (fun i r => bif marksGo (marks.take i) r == 0 then k0 (m, marks, b1, b2, cl, ()) else k1 (0, marksGo (marks.take i) r, ())) (hf.le h1) ?_ ?_ h1)
  · intro i x r hi hx hd hg hlt hw again ih
    have hx' : x ∈ marks := List.mem_of_getElem? hx
    simp only [s20_l0, hlt, cond_true, hg, Option.bind_some, hw, ih, cut_zero marks i (by omega), v46 n x (marks.take i) hf (h2 x hx') (by unfold Lt at *; simp; omega)]
    have ht : marks.take (i + 1) = marks.take i ++ [x] := by rw [List.take_add_one, hx]; rfl
    simp only [ht, bne, marksGo]
    cases h : (nameErrS x (marks.take i) == 0) <;> simp [h]
  · intro hlt again
    simp only [s20_l0, hlt, cond_false, marksGo]
    rfl

theorem v47 (n : Nat) (x c0 : Int) : s47 n x c0 = some (inR x 0 (IntKind.wrap .i64 (c0 - 1))) := rfl

theorem v20_l1 (n : Nat) (hf : Fuel n) (nm nc : Int) (isC : Int → Option Bool) (hC : ∀ x, isC x = some (inR x 0 (nc - 1))) (l : List Cls) (h1 : Lt n l) (h2 : ∀ c ∈ l, fitC n c)
    (k0 : Unit → Option (Int × Int)) (k1 : Int × Int × Unit → Option (Int × Int)) :
    loopG (s20_l1 n) n (nm, isC, l, (l.length : Int), (0 : Int), ([] : List Txt), ()) (k0, k1, ()) =
      bif (clsGo nm nc 0 [] l).2 == 0 then k0 () else k1 ((clsGo nm nc 0 [] l).1, (clsGo nm nc 0 [] l).2, ()) := by
  have hlo := hf.lo
  have hhi := hf.hi
  refine (list_loop (A := List Txt) l (fun i names => (nm, isC, l, (l.length : Int), (i : Int), names, ())) (fun i names r => bif (clsGo nm nc i names r).2 == 0 then k0 () else k1 ((clsGo nm nc i names r).1, (clsGo nm nc i names r).2, ()))
    (fun i names => names.length = i) (hf.le h1) ?_ ?_ [] rfl h1)
  · intro i names x r hi hx hd hg hlt hw hinv again ih
    obtain ⟨g1, g2, g3, g4⟩ := h2 x (List.mem_of_getElem? hx)
    have hnm : Lt n names := by unfold Lt at *; omega
    have e1 : s48 n x.2.1 (fun y0 => s49 n y0 isC) = some (x.2.1.any fun k => !inR k 0 (nc - 1)) := by
      refine v48 n _ _ (fun k => !inR k 0 (nc - 1)) (fun k _ => ?_) (hf.le g2) g2
      simp [s49, hC]
    have e2 : s50 n x.2.2 (fun x => s51 n x) = some (x.2.2.any fun s => !nameOk s) := by
      refine v50 n _ _ (fun s => !nameOk s) (fun s hs => ?_) (hf.le g3) g3
      simp [s51, v52 n s (hf.le (g4 s hs)) (g4 s hs)]
    simp only [s20_l1, hlt, cond_true, hg, Option.bind_some, hw, e1, e2, v46 n x.1 names hf g1 hnm, v38, v37 n [_, _, _, _] (by simp [maxLen]) (by simp; omega)]
    have hch : chk (names.length + ([x.1] : List Txt).length) = some () := chk_ok (by unfold Lt at *; simp; omega)
    rw [hch]
    simp only [Option.bind_some]
    rw [ih (names ++ [x.1]) (by simp [hinv])]
    have e3 : firstErr [nameErrS x.1 names, unl (((x.2.1.length : Int) == nm) && ((x.2.2.length : Int) == nm)) 10, unl (!(x.2.1.any fun k => !inR k 0 (nc - 1))) 6, unl (!(x.2.2.any fun s => !nameOk s)) 4] = clsErr nm nc names x := rfl
    rw [e3]
    simp only [clsGo, bne]
    cases h : (clsErr nm nc names x == 0) <;> simp [h]
  · intro names hlt hinv again
    simp only [s20_l1, hlt, cond_false, clsGo]
    rfl

theorem clsGo_ok (nm nc : Int) : (l : List Cls) → (i : Nat) → (pre : List Txt) → ((clsGo nm nc i pre l).2 == 0) = true → clsGo nm nc i pre l = (0, 0)
  | [], _, _, _ => rfl
  | c :: r, i, pre, h => by
    simp only [clsGo] at h ⊢
    cases hc : (clsErr nm nc pre c == 0)
    · rw [hc] at h; simp only [cond_false] at h; rw [hc] at h; cases h
    · rw [hc] at h; exact clsGo_ok nm nc r _ _ h

theorem dec_gt0 {α : Type} (l : List α) : decide (((List.length l : Nat) : Int) > (0 : Int)) = decide (0 < l.length) := by simp
theorem dec_le {α : Type} (l : List α) (k : Nat) : decide (((List.length l : Nat) : Int) ≤ (k : Int)) = decide (l.length ≤ k) := by congr 1; simp
theorem dec_gt {α : Type} (l : List α) (k : Nat) : decide (((List.length l : Nat) : Int) > (k : Int)) = !decide (l.length ≤ k) := by
  by_cases h : l.length ≤ k
  · rw [decide_eq_true h, decide_eq_false]; rfl; omega
  · rw [decide_eq_false h, decide_eq_true]; rfl; omega
theorem beq_zero {α : Type} (l : List α) : (((List.length l : Nat) : Int) == (0 : Int)) = !decide (0 < l.length) := by
  cases l <;> simp
  omega

theorem lenPred {α : Type} {n : Nat} (hf : Fuel n) {l : List α} (h : Lt n l) : IntKind.wrap .i64 ((l.length : Int) - 1) = (l.length : Int) - 1 := by
  have := hf.hi
  unfold Lt at h
  rw [wrap_id] <;> omega

theorem v20 (n : Nat) (b : Book) (hf : Fuel n) (hb : fitB n b) : s20 n b = some (bookErr b) := by
  obtain ⟨h1, h2, h3, h4⟩ := hb
  have hlo := hf.lo
  unfold s20
  simp only [v38, Option.bind_some, v37 n [_, _] (by simp [maxLen]) (by simp; omega), dec_gt0]
  have e0 : firstErr [unl (decide (0 < b.1.length) && decide (0 < b.2.2.length)) (10 : Int), unl ((decide (((List.length b.1 : Nat) : Int) ≤ (6 : Int))) && (decide (((List.length b.2.2 : Nat) : Int) ≤ (8 : Int)))) (8 : Int)] = sizeErr b := by
    unfold sizeErr
    have a3 : decide (((List.length b.1 : Nat) : Int) ≤ (6 : Int)) = decide (b.1.length ≤ 6) := dec_le b.1 6
    have a4 : decide (((List.length b.2.2 : Nat) : Int) ≤ (8 : Int)) = decide (b.2.2.length ≤ 8) := dec_le b.2.2 8
    rw [a3, a4]
  rw [e0, v20_l0 n hf b.1 _ _ _ _ h1 h2]
  unfold bookErr
  simp only [bne, v47, Option.bind_some, lenPred hf h3]
  cases hs : (sizeErr b == 0)
  · rfl
  · cases hm : (marksGo [] b.1 == 0)
    · rfl
    · cases hi : inR b.2.1 0 ((b.2.2.length : Int) - 1)
      · rfl
      · simp only [Bool.not_true, cond_false, cond_true]
        rw [v20_l1 n hf _ (b.2.2.length : Int) _ (fun x => rfl) b.2.2 h3 h4]
        cases hc : ((clsGo (b.1.length : Int) (b.2.2.length : Int) 0 [] b.2.2).2 == 0)
        · rfl
        · rw [clsGo_ok _ _ _ _ _ hc]; rfl

end Go.Abs

set_option linter.unusedSimpArgs false
set_option linter.unusedVariables false
namespace Go.Abs
open Go

theorem v36 (n : Nat) (b : Book) (hf : Fuel n) (hb : fitB n b) : s36 n b = some (b, (bookErr b).2) := by
  unfold s36
  rw [show ((b.1, (b.2.1, b.2.2)) : Book) = b from rfl, v20 n b hf hb]
  rfl

def marksErr (b : Book) (l : List Int) : Int := firstErr [unl (decide (l.length ≤ 40)) 8, unl (!(l.any fun k => !inR k 0 ((b.1.length : Int) - 1))) 6]

theorem v66 (n : Nat) (b : Book) (l : List Int) (hf : Fuel n) (hb : Lt n b.1) (hl : Lt n l) : s66 n b l = some (marksErr b l) := by
  have hlo := hf.lo
  unfold s66
  have e1 : s48 n l (fun y0 => s85 n y0 (b.1, (b.2.1, b.2.2))) = some (l.any fun k => !inR k 0 ((b.1.length : Int) - 1)) := by
    refine v48 n _ _ _ (fun k _ => ?_) (hf.le hl) hl
    simp [s85, v39, lenPred hf hb]
  rw [e1]
  simp only [Option.bind_some, v38, v37 n [_, _] (by simp [maxLen]) (by simp; omega)]
  have : decide (((List.length l : Nat) : Int) ≤ (40 : Int)) = decide (l.length ≤ 40) := dec_le l 40
  rw [this]
  rfl

def sheetErr (b : Book) (s : Txt × List Int) : Int := firstErr [unl (nameOk s.1) 4, marksErr b s.2]

theorem v34 (n : Nat) (b : Book) (s : Txt × List Int) (hf : Fuel n) (hb : fitB n b) (h1 : Lt n s.1) (h2 : Lt n s.2) :
    s34 n b s = some (b, bif (bookErr b).2 == 0 then sheetErr b s else (bookErr b).2) := by
  have hlo := hf.lo
  unfold s34
  rw [show ((b.1, (b.2.1, b.2.2)) : Book) = b from rfl, v36 n b hf hb]
  simp only [Option.bind_some, bne, v52 n s.1 (hf.le h1) h1]
  cases h : ((bookErr b).2 == 0)
  · rfl
  · simp only [Bool.not_true, cond_false, v38, Option.bind_some, cond_true]
    rw [show ((b.1, b.2.1, b.2.2) : Book) = b from rfl, v66 n b s.2 hf hb.1 h2]
    simp only [Option.bind_some, v37 n [_, _] (by simp [maxLen]) (by simp; omega)]
    rfl

/-- The classes that a right walk comes to. -/
def stepTo (cs : List Cls) (k m : Int) : Option Int := (geti cs k).bind fun c => geti c.2.1 m
def walkO (cs : List Cls) : Int → List Int → Option (List Int)
  | k, [] => some [k]
  | k, m :: r => (stepTo cs k m).bind fun k' => (walkO cs k' r).map (k :: ·)

theorem walkO_ne {cs : List Cls} : {l : List Int} → {k : Int} → {w : List Int} → walkO cs k l = some w → ∃ r, w = k :: r ∧ r.length = l.length
  | [], k, w, h => by cases h; exact ⟨[], rfl, rfl⟩
  | m :: l, k, w, h => by
    simp only [walkO] at h
    cases hk : stepTo cs k m with
    | none => rw [hk] at h; cases h
    | some k' =>
      rw [hk] at h
      cases hw : walkO cs k' l with
      | none => simp [hw] at h
      | some w' =>
        simp [hw] at h
        obtain ⟨r, rfl, h2⟩ := walkO_ne hw
        exact ⟨k' :: r, h.symm, by simp [h2]⟩

theorem v35 (n : Nat) (b : Book) (l : List Int) (w : List Int) (hf : Fuel n) (hl : l.length + 1 < n) (hw : walkO b.2.2 b.2.1 l = some w) : s35 n b l = some w := by
  have hhi := hf.hi
  have hll : Lt n l := by unfold Lt; omega
  unfold s35
  refine (list_loop (A := List Int × Int) l (fun i a => (l, (l.length : Int), (i : Int), b.1, b.2.1, b.2.2, a.1 ++ [a.2], ())) (fun i a r => (walkO b.2.2 a.2 r).map (a.1 ++ ·)) (fun i a => a.1.length = i) (hf.le hll) ?_ ?_ ([], b.2.1) rfl hll).trans ?_
  · rintro i ⟨pre, k⟩ x r hi hx hd hg hlt hw' hinv again ih
    have hlen : IntKind.wrap .i64 (((pre ++ [k]).length : Nat) - (1 : Int)) = ((pre.length : Nat) : Int) := by
      have h1 : pre.length = i := hinv
      rw [List.length_append, List.length_singleton, wrap_id] <;> omega
    have hlast : geti (pre ++ [k]) ((pre.length : Nat) : Int) = some k := by rw [geti_nat]; simp
    simp only [s35_l0, hlt, cond_true, hg, Option.bind_some, hw', hlen, hlast]
    simp only [walkO, stepTo]
    cases hc : geti b.2.2 k with
    | none => rfl
    | some c =>
      simp only [Option.bind_some]
      cases hm : geti c.2.1 x with
      | none => rfl
      | some k' =>
        have h1 : pre.length = i := hinv
        have hch : chk ((pre ++ [k]).length + ([k'] : List Int).length) = some () := chk_ok (by simp; omega)
        simp only [Option.bind_some, hch]
        rw [ih (pre ++ [k], k') (by simp [h1])]
        simp [Option.map_map, Function.comp_def]
  · rintro ⟨pre, k⟩ hlt hinv again
    simp only [s35_l0, hlt, cond_false, walkO]
    rfl
  · rw [hw]; rfl

/-! The reference. -/
theorem v65_l0 (n : Nat) (hf : Fuel n) (b0 : List Txt) (b1 : Int) (cs : List Cls) (c : Cls) (i : Nat) (hi : i ≤ cs.length) (hc : Lt n cs)
    (k0 : List Txt × Int × List Cls × Txt × List Int × List Txt × Unit → Option Int) (k1 : Int × Unit → Option Int) :
    loopG (s65_l0 n) n ((i : Int), (0 : Int), b0, b1, cs, c.1, c.2.1, c.2.2, ()) (k0, k1, ()) =
      bif ((cs.take i).any fun d => d.1 == c.1) then k1 (5, ()) else k0 (b0, b1, cs, c.1, c.2.1, c.2.2, ()) := by
  have hlen : (cs.take i).length = i := by simp; omega
  have h1 : Lt n (cs.take i) := by unfold Lt at *; omega
  refine (list_loop0 (cs.take i) (fun k => ((i : Int), (k : Int), b0, b1, cs, c.1, c.2.1, c.2.2, ())) (fun _ r => bif (r.any fun d => d.1 == c.1) then k1 (5, ()) else k0 (b0, b1, cs, c.1, c.2.1, c.2.2, ())) (hf.le h1) ?_ ?_ h1)
  · intro k x r hk hx hd hg hlt hw again ih
    rw [hlen] at hlt hk
    have hg' : geti cs (k : Int) = some x := by
      rw [geti_nat] at hg ⊢
      rw [List.getElem?_take_of_lt hk] at hg
      exact hg
    simp only [s65_l0, hlt, cond_true, hg', Option.bind_some, hw, ih, List.any_cons]
    cases h : (x.1 == c.1) <;> simp [h]
  · intro hlt again
    rw [hlen] at hlt ⊢
    simp only [s65_l0, hlt, cond_false]
    rfl

theorem v65_l1 (n : Nat) (hf : Fuel n) (b0 : List Txt) (b1 : Int) (cs : List Cls) (c : Cls) (hc : Lt n cs) (h1 : Lt n c.2.1)
    (k0 : Txt × List Int × List Txt × Unit → Option Int) (k1 : Int × Unit → Option Int) :
    loopG (s65_l1 n) n ((0 : Int), b0, b1, cs, c.1, c.2.1, c.2.2, ()) (k0, k1, ()) =
      bif (c.2.1.any fun k => !inR k 0 ((cs.length : Int) - 1)) then k1 (6, ()) else k0 (c.1, c.2.1, c.2.2, ()) := by
  refine (list_loop0 c.2.1 (fun k => ((k : Int), b0, b1, cs, c.1, c.2.1, c.2.2, ())) (fun _ r => bif (r.any fun k => !inR k 0 ((cs.length : Int) - 1)) then k1 (6, ()) else k0 (c.1, c.2.1, c.2.2, ())) (hf.le h1) ?_ ?_ h1)
  · intro k x r hk hx hd hg hlt hw again ih
    simp only [s65_l1, hlt, cond_true, hg, Option.bind_some, hw, ih, List.any_cons, v64, lenPred hf hc]
    cases h : (inR x 0 ((cs.length : Int) - 1)) <;> simp [h]
  · intro hlt again
    simp only [s65_l1, hlt, cond_false]
    rfl

theorem v65_l2 (n : Nat) (hf : Fuel n) (c : Cls) (h1 : Lt n c.2.2) (h2 : ∀ s ∈ c.2.2, Lt n s)
    (k0 : Unit → Option Int) (k1 : Int × Unit → Option Int) :
    loopG (s65_l2 n) n ((0 : Int), c.1, c.2.1, c.2.2, ()) (k0, k1, ()) =
      bif (c.2.2.any fun s => !nameOk s) then k1 (4, ()) else k0 () := by
  refine (list_loop0 c.2.2 (fun k => ((k : Int), c.1, c.2.1, c.2.2, ())) (fun _ r => bif (r.any fun s => !nameOk s) then k1 (4, ()) else k0 ()) (hf.le h1) ?_ ?_ h1)
  · intro k x r hk hx hd hg hlt hw again ih
    have hs := h2 x (List.mem_of_getElem? hx)
    simp only [s65_l2, hlt, cond_true, hg, Option.bind_some, hw, ih, List.any_cons, v63 n x (hf.le hs) hs]
    cases h : nameOk x <;> simp [h]
  · intro hlt again
    simp only [s65_l2, hlt, cond_false]
    rfl

theorem any_flip {α : Type} (l : List α) (f : α → Txt) (c : Txt) : (l.any fun d => f d == c) = (l.map f).any fun x => c == x := by
  rw [List.any_map]
  congr 1
  funext d
  exact BEq.comm

theorem ne_and (a b c : Int) : ((a != c) || (b != c)) = !((a == c) && (b == c)) := by
  simp only [bne, Bool.not_and]

theorem v65 (n : Nat) (hf : Fuel n) (b : Book) (hb : fitB n b) (i : Nat) (c : Cls) (hc : b.2.2[i]? = some c) :
    s65 n b (i : Int) = some (clsErr b.1.length b.2.2.length ((b.2.2.take i).map (·.1)) c) := by
  obtain ⟨h1, h2, h3, h4⟩ := hb
  obtain ⟨g1, g2, g3, g4⟩ := h4 c (List.mem_of_getElem? hc)
  have hi : i < b.2.2.length := (List.getElem?_eq_some_iff.1 hc).1
  unfold s65
  rw [geti_nat, hc]
  simp only [Option.bind_some, v63 n c.1 (hf.le g1) g1]
  rw [v65_l0 n hf b.1 b.2.1 b.2.2 c i (by omega) h3]
  simp only [v65_l1 n hf b.1 b.2.1 b.2.2 c h3 g2, v65_l2 n hf c g3 g4, any_flip, ne_and]
  unfold clsErr nameErrS
  cases h5 : nameOk c.1
  · rfl
  · cases h6 : ((b.2.2.take i).map (·.1)).any fun x => c.1 == x
    · cases h7 : (((c.2.1.length : Int) == (b.1.length : Int)) && ((c.2.2.length : Int) == (b.1.length : Int)))
      · rfl
      · cases h8 : c.2.1.any fun k => !inR k 0 ((b.2.2.length : Int) - 1)
        · cases h9 : c.2.2.any fun s => !nameOk s <;> rfl
        · rfl
    · rfl

theorem v33_l0 (n : Nat) (hf : Fuel n) (marks : List Txt) (b1 : Int) (b2 : List Cls) (h1 : Lt n marks) (h2 : ∀ s ∈ marks, Lt n s)
    (k0 : List Txt × Int × List Cls × Unit → Option (Int × Int)) (k1 : Int × Int × Unit → Option (Int × Int)) :
    loopG (s33_l0 n) n ((0 : Int), marks, b1, b2, ()) (k0, k1, ()) =
      bif marksGo [] marks == 0 then k0 (marks, b1, b2, ()) else k1 (0, marksGo [] marks, ()) := by
  refine (list_loop0 marks (fun i => ((i : Int), marks, b1, b2, ())) (fun i r => bif marksGo (marks.take i) r == 0 then k0 (marks, b1, b2, ()) else k1 (0, marksGo (marks.take i) r, ())) (hf.le h1) ?_ ?_ h1)
  · intro i x r hi hx hd hg hlt hw again ih
    have hx' := h2 x (List.mem_of_getElem? hx)
    have htk : Lt n (marks.take i) := by unfold Lt at *; simp; omega
    have ht : marks.take (i + 1) = marks.take i ++ [x] := by rw [List.take_add_one, hx]; rfl
    simp only [s33_l0, hlt, cond_true, hg, Option.bind_some, hw, ih, cut_zero marks i (by omega), v63 n x (hf.le hx') hx', v62 n (marks.take i) x (hf.le htk) htk, ht, marksGo, nameErrS]
    cases h5 : nameOk x
    · rfl
    · cases h6 : (marks.take i).any fun y => x == y <;> rfl
  · intro hlt again
    simp only [s33_l0, hlt, cond_false, marksGo]
    rfl

theorem v33_l1 (n : Nat) (hf : Fuel n) (b : Book) (hb : fitB n b)
    (k0 : Unit → Option (Int × Int)) (k1 : Int × Int × Unit → Option (Int × Int)) :
    loopG (s33_l1 n) n ((0 : Int), b.1, b.2.1, b.2.2, ()) (k0, k1, ()) =
      bif (clsGo b.1.length b.2.2.length 0 [] b.2.2).2 == 0 then k0 () else k1 ((clsGo b.1.length b.2.2.length 0 [] b.2.2).1, (clsGo b.1.length b.2.2.length 0 [] b.2.2).2, ()) := by
  have h3 := hb.2.2.1
  refine (list_loop0 b.2.2 (fun i => ((i : Int), b.1, b.2.1, b.2.2, ())) (fun i r => bif (clsGo b.1.length b.2.2.length i ((b.2.2.take i).map (·.1)) r).2 == 0 then k0 () else k1 ((clsGo b.1.length b.2.2.length i ((b.2.2.take i).map (·.1)) r).1, (clsGo b.1.length b.2.2.length i ((b.2.2.take i).map (·.1)) r).2, ())) (hf.le h3) ?_ ?_ h3)
  · intro i x r hi hx hd hg hlt hw again ih
    have hc := v65 n hf b hb i x hx
    have ht : ((b.2.2.take (i + 1)).map (·.1)) = (b.2.2.take i).map (·.1) ++ [x.1] := by rw [List.take_add_one, hx]; simp
    simp only [s33_l1, hlt, cond_true, Option.bind_some, hw, ih, hc, ht, clsGo, bne]
    cases h : (clsErr b.1.length b.2.2.length ((b.2.2.take i).map (·.1)) x == 0) <;> simp only [h, cond_false, cond_true, Bool.not_false, Bool.not_true]
  · intro hlt again
    simp only [s33_l1, hlt, cond_false, clsGo]
    rfl

theorem v33 (n : Nat) (b : Book) (hf : Fuel n) (hb : fitB n b) : s33 n b = some (bookErr b) := by
  have hb' := hb
  obtain ⟨h1, h2, h3, h4⟩ := hb
  unfold s33
  rw [v33_l0 n hf b.1 b.2.1 b.2.2 h1 h2]
  have a3 : decide (((List.length b.1 : Nat) : Int) > (6 : Int)) = !decide (b.1.length ≤ 6) := dec_gt b.1 6
  have a4 : decide (((List.length b.2.2 : Nat) : Int) > (8 : Int)) = !decide (b.2.2.length ≤ 8) := dec_gt b.2.2 8
  simp only [v33_l1 n hf b hb', v64, lenPred hf h3, Option.bind_some, beq_zero, a3, a4]
  unfold bookErr sizeErr
  cases z1 : decide (0 < b.1.length)
  · rfl
  · cases z2 : decide (0 < b.2.2.length)
    · rfl
    · cases z3 : decide (b.1.length ≤ 6)
      · rfl
      · cases z4 : decide (b.2.2.length ≤ 8)
        · rfl
        · simp only [Bool.not_true, Bool.or_false, cond_false]
          cases hm : (marksGo [] b.1 == 0)
          · rfl
          · cases hi : inR b.2.1 0 ((b.2.2.length : Int) - 1)
            · rfl
            · cases hc : ((clsGo (b.1.length : Int) (b.2.2.length : Int) 0 [] b.2.2).2 == 0)
              · rfl
              · rw [clsGo_ok _ _ _ _ _ hc]; rfl

theorem v11 (n : Nat) (b : Book) (hf : Fuel n) (hb : fitB n b) : s11 n b = some (bookErr b).2 := by
  unfold s11
  rw [show ((b.1, (b.2.1, b.2.2)) : Book) = b from rfl, v33 n b hf hb]
  rfl

end Go.Abs

set_option linter.unusedSimpArgs false
set_option linter.unusedVariables false
namespace Go.Abs
open Go

def fewC (c : Cls) : Bool := !((!decide (c.1.length ≤ 20) || !decide (c.2.1.length ≤ 8)) || !decide (c.2.2.length ≤ 8)) && !(c.2.2.any fun s => !decide (s.length ≤ 20))
def fewB (b : Book) : Bool :=
  bif !decide (b.1.length ≤ 8) || !decide (b.2.2.length ≤ 10) then false
  else !(b.1.any fun s => !decide (s.length ≤ 20)) && !(b.2.2.any fun c => !fewC c)

theorem v5_l0 (n : Nat) (hf : Fuel n) (l : List Txt) (b1 : Int) (b2 : List Cls) (h1 : Lt n l)
    (k0 : List Txt × Int × List Cls × Unit → Option Bool) (k1 : Bool × Unit → Option Bool) :
    loopG (s5_l0 n) n ((0 : Int), l, b1, b2, ()) (k0, k1, ()) =
      bif (l.any fun s => !decide (s.length ≤ 20)) then k1 (false, ()) else k0 (l, b1, b2, ()) := by
  refine (list_loop0 l (fun i => ((i : Int), l, b1, b2, ())) (fun i r => bif (r.any fun s => !decide (s.length ≤ 20)) then k1 (false, ()) else k0 (l, b1, b2, ())) (hf.le h1) ?_ ?_ h1)
  · intro i x r hi hx hd hg hlt hw again ih
    have a1 : decide (((List.length x : Nat) : Int) > (20 : Int)) = !decide (x.length ≤ 20) := dec_gt x 20
    simp only [s5_l0, hlt, cond_true, hg, Option.bind_some, hw, ih, a1, List.any_cons]
    cases h : decide (x.length ≤ 20) <;> rfl
  · intro hlt again
    simp only [s5_l0, hlt, cond_false]
    rfl

theorem v5_l1_0 (n : Nat) (hf : Fuel n) (i : Int) (l : List Txt) (b1 : Int) (b2 : List Cls) (c : Cls) (h1 : Lt n c.2.2)
    (k0 : Int × List Txt × Int × List Cls × Unit → Option Bool) (k1 : Bool × Unit → Option Bool) :
    loopG (s5_l1_0 n) n (i, (0 : Int), l, b1, b2, c.1, c.2.1, c.2.2, ()) (k0, k1, ()) =
      bif (c.2.2.any fun s => !decide (s.length ≤ 20)) then k1 (false, ()) else k0 (i, l, b1, b2, ()) := by
  refine (list_loop0 c.2.2 (fun k => (i, (k : Int), l, b1, b2, c.1, c.2.1, c.2.2, ())) (fun _ r => bif (r.any fun s => !decide (s.length ≤ 20)) then k1 (false, ()) else k0 (i, l, b1, b2, ())) (hf.le h1) ?_ ?_ h1)
  · intro k x r hi hx hd hg hlt hw again ih
    have a1 : decide (((List.length x : Nat) : Int) > (20 : Int)) = !decide (x.length ≤ 20) := dec_gt x 20
    simp only [s5_l1_0, hlt, cond_true, hg, Option.bind_some, hw, ih, a1, List.any_cons]
    cases h : decide (x.length ≤ 20) <;> rfl
  · intro hlt again
    simp only [s5_l1_0, hlt, cond_false]
    rfl

theorem v5_l1 (n : Nat) (hf : Fuel n) (l : List Txt) (b1 : Int) (cs : List Cls) (h1 : Lt n cs)
    (k0 : Unit → Option Bool) (k1 : Bool × Unit → Option Bool) :
    loopG (s5_l1 n) n ((0 : Int), l, b1, cs, ()) (k0, k1, ()) =
      bif (cs.any fun c => !fewC c) then k1 (false, ()) else k0 () := by
  have hlo := hf.lo
  refine (list_loop0 cs (fun k => ((k : Int), l, b1, cs, ())) (fun _ r => bif (r.any fun c => !fewC c) then k1 (false, ()) else k0 ()) (hf.le h1) ?_ ?_ h1)
  · intro k x r hi hx hd hg hlt hw again ih
    have a1 : decide (((List.length x.1 : Nat) : Int) > (20 : Int)) = !decide (x.1.length ≤ 20) := dec_gt x.1 20
    have a2 : decide (((List.length x.2.1 : Nat) : Int) > (8 : Int)) = !decide (x.2.1.length ≤ 8) := dec_gt x.2.1 8
    have a3 : decide (((List.length x.2.2 : Nat) : Int) > (8 : Int)) = !decide (x.2.2.length ≤ 8) := dec_gt x.2.2 8
    simp only [s5_l1, hlt, cond_true, hg, Option.bind_some, hw, ih, a1, a2, a3, List.any_cons, fewC]
    cases h : ((!decide (x.1.length ≤ 20) || !decide (x.2.1.length ≤ 8)) || !decide (x.2.2.length ≤ 8))
    · have h3 : x.2.2.length ≤ 8 := by
        simp only [Bool.or_eq_false_iff, Bool.not_eq_false', decide_eq_true_eq] at h
        exact h.2
      simp only [cond_false]
      rw [v5_l1_0 n hf k l b1 cs x (by unfold Lt; omega), hw, ih]
      cases h4 : x.2.2.any fun s => !decide (s.length ≤ 20) <;> rfl
    · rfl
  · intro hlt again
    simp only [s5_l1, hlt, cond_false]
    rfl

theorem v5 (n : Nat) (b : Book) (hf : Fuel n) : s5 n b = some (fewB b) := by
  have hlo := hf.lo
  unfold s5 fewB
  have a1 : decide (((List.length b.1 : Nat) : Int) > (8 : Int)) = !decide (b.1.length ≤ 8) := dec_gt b.1 8
  have a2 : decide (((List.length b.2.2 : Nat) : Int) > (10 : Int)) = !decide (b.2.2.length ≤ 10) := dec_gt b.2.2 10
  rw [a1, a2]
  cases h : (!decide (b.1.length ≤ 8) || !decide (b.2.2.length ≤ 10))
  · simp only [Bool.or_eq_false_iff, Bool.not_eq_false', decide_eq_true_eq] at h
    simp only [cond_false]
    rw [v5_l0 n hf b.1 _ _ (by unfold Lt; omega)]
    simp only [v5_l1 n hf b.1 b.2.1 b.2.2 (by unfold Lt; omega)]
    cases h1 : b.1.any fun s => !decide (s.length ≤ 20)
    · cases h2 : b.2.2.any fun c => !fewC c <;> rfl
    · rfl
  · rfl

theorem any_false {α : Type} {l : List α} {p : α → Bool} (h : l.any p = false) : ∀ x ∈ l, p x = false := by
  intro x hx
  exact Bool.eq_false_iff.2 fun he => by
    rw [List.any_eq_true.2 ⟨x, hx, he⟩] at h
    cases h

/-- A small one fits. -/
theorem few_fit {b : Book} (h : fewB b = true) {n : Nat} (hf : Fuel n) : fitB n b ∧ b.1.length ≤ 8 ∧ b.2.2.length ≤ 10 := by
  have hlo := hf.lo
  unfold fewB at h
  cases h1 : (!decide (b.1.length ≤ 8) || !decide (b.2.2.length ≤ 10))
  · rw [h1] at h
    simp only [cond_false, Bool.and_eq_true, Bool.not_eq_true'] at h
    simp only [Bool.or_eq_false_iff, Bool.not_eq_false', decide_eq_true_eq] at h1
    refine ⟨⟨by unfold Lt; omega, fun s hs => ?_, by unfold Lt; omega, fun c hc => ?_⟩, h1⟩
    · have := any_false h.1 s hs
      simp only [Bool.not_eq_false', decide_eq_true_eq] at this
      unfold Lt; omega
    · have := any_false h.2 c hc
      simp only [Bool.not_eq_false', fewC, Bool.and_eq_true, Bool.not_eq_true', Bool.or_eq_false_iff, decide_eq_true_eq] at this
      obtain ⟨⟨⟨g1, g2⟩, g3⟩, g4⟩ := this
      refine ⟨by unfold Lt; omega, by unfold Lt; omega, by unfold Lt; omega, fun s hs => ?_⟩
      have := any_false g4 s hs
      simp only [Bool.not_eq_false', decide_eq_true_eq] at this
      unfold Lt; omega
  · rw [h1] at h
    cases h

/-! Copies. -/
theorem v23 (n : Nat) (l : List Int) (hf : Fuel n) (h : Lt n l) : s23 n l = some l := by
  have := hf.hi
  unfold s23
  rw [chk_ok (by unfold Lt at h; simp; omega)]
  rfl
theorem v22 (n : Nat) (l : List Txt) (hf : Fuel n) (h : Lt n l) : s22 n l = some l := by
  have := hf.hi
  unfold s22
  rw [chk_ok (by unfold Lt at h; simp; omega)]
  rfl

theorem v7 (n : Nat) (b : Book) (hf : Fuel n) (hb : fitB n b) : s7 n b = some b := by
  have hhi := hf.hi
  obtain ⟨h1, h2, h3, h4⟩ := hb
  unfold s7
  rw [v22 n b.1 hf h1, Option.bind_some]
  refine (list_loop (A := List Cls) b.2.2 (fun i acc => ((i : Int), b.1, b.2.1, b.2.2, (0 : Int), b.1, b.2.1, acc, ())) (fun i acc r => some (b.1, b.2.1, acc ++ r)) (fun i acc => acc.length = i) (hf.le h3) ?_ ?_ [] rfl h3).trans ?_
  · intro i acc x r hi hx hd hg hlt hw hinv again ih
    obtain ⟨g1, g2, g3, g4⟩ := h4 x (List.mem_of_getElem? hx)
    have hch : chk (acc.length + ([(x.1, (x.2.1, x.2.2))] : List Cls).length) = some () := chk_ok (by unfold Lt at *; simp; omega)
    simp only [s7_l0, hlt, cond_true, hg, Option.bind_some, hw, v23 n _ hf g2, v22 n _ hf g3, hch]
    rw [ih (acc ++ [x]) (by simp [hinv])]
    simp
  · intro acc hlt hinv again
    simp only [s7_l0, hlt, cond_false, List.append_nil]
  · rfl

/-! The class of a sheet, the walk of marks. -/
def lastI (l : List Int) : Int := l.getLastD 0

theorem geti_last {l : List Int} {n : Nat} (hf : Fuel n) (h1 : Lt n l) (hne : l ≠ []) : geti l (IntKind.wrap .i64 ((l.length : Int) - 1)) = some (lastI l) := by
  have hpos : 0 < l.length := List.length_pos_iff.2 hne
  rw [cast_pred hpos (hf.le h1), geti_nat]
  unfold lastI
  rw [List.getLastD_eq_getLast?, List.getLast?_eq_getElem?, List.getElem?_eq_getElem (by omega)]
  rfl

theorem v13_ok (n : Nat) (b : Book) (s : Txt × List Int) (w : List Int) (c : Cls) (hf : Fuel n) (hb : fitB n b) (h1 : Lt n s.1) (h2 : s.2.length + 1 < n)
    (he : (bookErr b).2 = 0) (hs : sheetErr b s = 0) (hw : walkO b.2.2 b.2.1 s.2 = some w) (hc : geti b.2.2 (lastI w) = some c) : s13 n b s = some (c.1, 0) := by
  have hl : Lt n s.2 := by unfold Lt; omega
  obtain ⟨r, hr, hlen⟩ := walkO_ne hw
  unfold s13
  rw [show ((b.1, (b.2.1, b.2.2)) : Book) = b from rfl, show ((s.1, s.2) : Txt × List Int) = s from rfl, v34 n b s hf hb h1 hl, he]
  simp only [Option.bind_some, hs, bne, beq_self_eq_true, cond_true, Bool.not_true, cond_false]
  rw [show ((b.1, b.2.1, b.2.2) : Book) = b from rfl, v35 n b s.2 w hf h2 hw]
  simp only [Option.bind_some]
  rw [geti_last hf (by rw [hr]; unfold Lt; simp; omega) (by rw [hr]; simp), Option.bind_some, hc]
  rfl

theorem v13_bad (n : Nat) (b : Book) (s : Txt × List Int) (hf : Fuel n) (hb : fitB n b) (h1 : Lt n s.1) (h2 : Lt n s.2)
    (he : ((bif (bookErr b).2 == 0 then sheetErr b s else (bookErr b).2) == 0) = false) : s13 n b s = some ([], bif (bookErr b).2 == 0 then sheetErr b s else (bookErr b).2) := by
  unfold s13
  rw [show ((b.1, (b.2.1, b.2.2)) : Book) = b from rfl, show ((s.1, s.2) : Txt × List Int) = s from rfl, v34 n b s hf hb h1 h2]
  simp only [Option.bind_some, bne, he, Bool.not_false, cond_true]



/-! What it means that there is no error. -/
theorem firstErr_zero : {l : List Int} → firstErr l = 0 ↔ ∀ e ∈ l, e = 0
  | [] => by simp [firstErr]
  | e :: r => by
    simp only [firstErr]
    cases h : (e == 0)
    · have : e ≠ 0 := by simpa using h
      simp [this]
    · have : e = 0 := by simpa using h
      simp [this, firstErr_zero (l := r)]

theorem unl_zero {b : Bool} {e : Int} (he : e ≠ 0) : unl b e = 0 ↔ b = true := by
  cases b <;> simp [unl, he]

theorem inR_iff {x lo hi : Int} : inR x lo hi = true ↔ lo ≤ x ∧ x ≤ hi := by simp [inR]

theorem clsErr_zero {nm nc : Int} {pre : List Txt} {c : Cls} (h : clsErr nm nc pre c = 0) : (c.2.1.length : Int) = nm ∧ (c.2.2.length : Int) = nm ∧ (∀ k ∈ c.2.1, 0 ≤ k ∧ k < nc) := by
  have := firstErr_zero.1 h
  simp only [List.mem_cons, List.not_mem_nil, or_false, forall_eq_or_imp, forall_eq, unl_zero (show (10 : Int) ≠ 0 by decide), unl_zero (show (6 : Int) ≠ 0 by decide)] at this
  obtain ⟨_, h2, h3, _⟩ := this
  simp only [Bool.and_eq_true, beq_iff_eq] at h2
  refine ⟨h2.1, h2.2, fun k hk => ?_⟩
  rw [Bool.not_eq_true'] at h3
  have := any_false h3 k hk
  rw [Bool.not_eq_false', inR_iff] at this
  omega

theorem clsGo_all {nm nc : Int} : {l : List Cls} → {i : Nat} → {pre : List Txt} → (clsGo nm nc i pre l).2 = 0 → ∀ c ∈ l, (c.2.1.length : Int) = nm ∧ (c.2.2.length : Int) = nm ∧ (∀ k ∈ c.2.1, 0 ≤ k ∧ k < nc)
  | [], _, _, _ => by simp
  | c :: r, i, pre, h => by
    simp only [clsGo] at h
    cases hc : (clsErr nm nc pre c == 0)
    · rw [hc] at h
      simp only [cond_false] at h
      rw [h] at hc
      cases hc
    · rw [hc] at h
      simp only [cond_true] at h
      intro d hd
      rcases List.mem_cons.1 hd with rfl | hd
      · exact clsErr_zero (by simpa using hc)
      · exact clsGo_all h d hd

structure GoodB (b : Book) : Prop where
  marks : 0 < b.1.length ∧ b.1.length ≤ 6
  classes : 0 < b.2.2.length ∧ b.2.2.length ≤ 8
  begin' : 0 ≤ b.2.1 ∧ b.2.1 < b.2.2.length
  next : ∀ c ∈ b.2.2, c.2.1.length = b.1.length ∧ c.2.2.length = b.1.length ∧ ∀ k ∈ c.2.1, 0 ≤ k ∧ k < (b.2.2.length : Int)

theorem bookErr_good {b : Book} (h : (bookErr b).2 = 0) : GoodB b := by
  unfold bookErr at h
  cases h1 : (sizeErr b == 0)
  · rw [h1] at h
    simp only [cond_false] at h
    rw [h] at h1
    cases h1
  · rw [h1] at h
    simp only [cond_true] at h
    cases h2 : (marksGo [] b.1 == 0)
    · rw [h2] at h
      simp only [cond_false] at h
      rw [h] at h2
      cases h2
    · rw [h2] at h
      simp only [cond_true] at h
      cases h3 : inR b.2.1 0 ((b.2.2.length : Int) - 1)
      · rw [h3] at h
        simp at h
      · rw [h3] at h
        simp only [cond_true] at h
        have hs : sizeErr b = 0 := by simpa using h1
        have := firstErr_zero.1 hs
        simp only [List.mem_cons, List.not_mem_nil, or_false, forall_eq_or_imp, forall_eq, unl_zero (show (10 : Int) ≠ 0 by decide), unl_zero (show (8 : Int) ≠ 0 by decide), Bool.and_eq_true, decide_eq_true_eq] at this
        have hb := inR_iff.1 h3
        refine ⟨⟨this.1.1, this.2.1⟩, ⟨this.1.2, this.2.2⟩, by omega, fun c hc => ?_⟩
        obtain ⟨g1, g2, g3⟩ := clsGo_all h c hc
        exact ⟨by omega, by omega, g3⟩

theorem GoodB.step {b : Book} (h : GoodB b) {k m : Int} (hk : 0 ≤ k ∧ k < b.2.2.length) (hm : 0 ≤ m ∧ m < b.1.length) : ∃ k', stepTo b.2.2 k m = some k' ∧ 0 ≤ k' ∧ k' < b.2.2.length := by
  unfold stepTo
  rw [geti_of hk.1 hk.2, Option.bind_some]
  obtain ⟨g1, g2, g3⟩ := h.next b.2.2[k.toNat] (List.getElem_mem _)
  rw [geti_of hm.1 (by rw [g1]; exact hm.2)]
  exact ⟨_, rfl, g3 _ (List.getElem_mem _)⟩

theorem GoodB.walk {b : Book} (h : GoodB b) : (l : List Int) → (∀ m ∈ l, 0 ≤ m ∧ m < (b.1.length : Int)) → (k : Int) → 0 ≤ k ∧ k < b.2.2.length → ∃ w, walkO b.2.2 k l = some w ∧ ∀ x ∈ w, 0 ≤ x ∧ x < (b.2.2.length : Int)
  | [], _, k, hk => ⟨[k], rfl, by simpa using hk⟩
  | m :: l, hl, k, hk => by
    obtain ⟨k', h1, h2⟩ := h.step hk (hl m (List.mem_cons_self ..))
    obtain ⟨w, h3, h4⟩ := h.walk l (fun x hx => hl x (List.mem_cons_of_mem _ hx)) k' h2
    refine ⟨k :: w, ?_, fun x hx => ?_⟩
    · simp only [walkO, h1, Option.bind_some, h3, Option.map_some]
    · rcases List.mem_cons.1 hx with rfl | hx
      · exact hk
      · exact h4 x hx

theorem marksErr_zero {b : Book} {l : List Int} : marksErr b l = 0 ↔ l.length ≤ 40 ∧ ∀ m ∈ l, 0 ≤ m ∧ m < (b.1.length : Int) := by
  unfold marksErr
  rw [firstErr_zero]
  simp only [List.mem_cons, List.not_mem_nil, or_false, forall_eq_or_imp, forall_eq, unl_zero (show (8 : Int) ≠ 0 by decide), unl_zero (show (6 : Int) ≠ 0 by decide), decide_eq_true_eq, Bool.not_eq_true']
  refine and_congr Iff.rfl ⟨fun h m hm => ?_, fun h => ?_⟩
  · have := any_false h m hm
    rw [Bool.not_eq_false', inR_iff] at this
    omega
  · refine Bool.eq_false_iff.2 fun he => ?_
    obtain ⟨x, hx, hx2⟩ := List.any_eq_true.1 he
    have := h x hx
    rw [Bool.not_eq_true'] at hx2
    have hh := inR_iff.2 (show 0 ≤ x ∧ x ≤ (b.1.length : Int) - 1 by omega)
    rw [hh] at hx2
    cases hx2

end Go.Abs

set_option linter.unusedSimpArgs false
set_option linter.unusedVariables false
namespace Go.Abs
open Go

theorem v19 (n : Nat) (a b : List Int) (hf : Fuel n) (h : Lt n a) : s19 n a b = some (a == b) := by
  unfold s19
  cases c : (((List.length a : Nat) : Int) == ((List.length b : Nat) : Int))
  · have hne : a ≠ b := by
      rintro rfl
      simp at c
    simp only [bne, c, Bool.not_false, cond_true]
    rw [(by simpa using hne : (a == b) = false)]
  · have hlen' : (a.length : Int) = (b.length : Int) := by simpa using c
    have hlen : a.length = b.length := by omega
    simp only [bne, c, Bool.not_true, cond_false]
    refine (list_loop0 a (fun i => (a, b, (i : Int), ())) (fun i r => some (r == b.drop i)) (hf.le h) ?_ ?_ h).trans (by simp)
    · intro i x r hi hx hd hg hlt hw again ih
      have hb : b[i]? = some b[i] := List.getElem?_eq_getElem (by omega)
      have hgb : geti b (i : Int) = some b[i] := by rw [geti_nat, hb]
      have hdb : b.drop i = b[i] :: b.drop (i + 1) := List.drop_eq_getElem_cons (by omega)
      simp only [s19_l0, hlt, cond_true, hg, hgb, Option.bind_some, hw, ih, bne]
      rw [hdb, List.cons_beq_cons]
      cases h : (x == b[i]) <;> rfl
    · intro hlt again
      simp only [s19_l0, hlt, cond_false]
      rw [hlen, List.drop_length]
      rfl

theorem v32 (n : Nat) (a b : List Txt) (hf : Fuel n) (h : Lt n a) : s32 n a b = some (a == b) := by
  unfold s32
  cases c : (((List.length a : Nat) : Int) == ((List.length b : Nat) : Int))
  · have hne : a ≠ b := by
      rintro rfl
      simp at c
    simp only [bne, c, Bool.not_false, cond_true]
    rw [(by simpa using hne : (a == b) = false)]
  · have hlen' : (a.length : Int) = (b.length : Int) := by simpa using c
    have hlen : a.length = b.length := by omega
    simp only [bne, c, Bool.not_true, cond_false]
    refine (list_loop0 a (fun i => (a, b, (i : Int), ())) (fun i r => some (r == b.drop i)) (hf.le h) ?_ ?_ h).trans (by simp)
    · intro i x r hi hx hd hg hlt hw again ih
      have hb : b[i]? = some b[i] := List.getElem?_eq_getElem (by omega)
      have hgb : geti b (i : Int) = some b[i] := by rw [geti_nat, hb]
      have hdb : b.drop i = b[i] :: b.drop (i + 1) := List.drop_eq_getElem_cons (by omega)
      simp only [s32_l0, hlt, cond_true, hg, hgb, Option.bind_some, hw, ih, bne]
      rw [hdb, List.cons_beq_cons]
      cases h : (x == b[i]) <;> rfl
    · intro hlt again
      simp only [s32_l0, hlt, cond_false]
      rw [hlen, List.drop_length]
      rfl


end Go.Abs

set_option linter.unusedSimpArgs false
set_option linter.unusedVariables false
namespace Go.Abs
open Go

theorem awake_ok (m : Nat) : s4 (m + 2000) = some true := by kernel_rfl

def consH (x : UInt8) : List Txt → List Txt
  | [] => [[x]]
  | h :: t => (x :: h) :: t
/-- A text, cut at a byte. -/
def spl (c : UInt8) : Txt → List Txt
  | [] => [[]]
  | x :: r => bif x == c then [] :: spl c r else consH x (spl c r)
def appH (p : Txt) : List Txt → List Txt
  | [] => [p]
  | h :: t => (p ++ h) :: t

theorem spl_ne (c : UInt8) : (s : Txt) → spl c s ≠ []
  | [] => by simp [spl]
  | x :: r => by
    unfold spl
    cases x == c
    · simp only [cond_false]; cases spl c r <;> simp [consH]
    · simp
theorem appH_nil {l : List Txt} (h : l ≠ []) : appH [] l = l := by cases l <;> simp_all [appH]
theorem appH_cons (p : Txt) (x : UInt8) (l : List Txt) : appH p (consH x l) = appH (p ++ [x]) l := by cases l <;> simp [appH, consH]

theorem spl_len (c : UInt8) : (s : Txt) → (spl c s).length = s.count c + 1
  | [] => by simp [spl]
  | x :: r => by
    have := spl_len c r
    unfold spl
    rw [List.count_cons]
    cases h : x == c
    · simp only [cond_false, Bool.false_eq_true, if_false, Nat.add_zero]
      cases hs : spl c r with
      | nil => exact absurd hs (spl_ne c r)
      | cons a t => rw [hs] at this; simpa [consH] using this
    · simp [this]

theorem spl_none {c : UInt8} : (s : Txt) → s.count c = 0 → Lib.indexByte s c = -1 ∧ spl c s = [s]
  | [], _ => ⟨rfl, rfl⟩
  | x :: r, h => by
    rw [List.count_cons] at h
    have hx : (x == c) = false := by cases hx : x == c <;> simp [hx] at h ⊢
    rw [hx] at h
    obtain ⟨h1, h2⟩ := spl_none (c := c) r (by simpa using h)
    refine ⟨?_, ?_⟩
    · simp [Lib.indexByte, hx, h1]
    · simp [spl, hx, h2, consH]

theorem spl_cut {c : UInt8} : (s : Txt) → 0 < s.count c → ∃ p r, s = p ++ c :: r ∧ p.count c = 0 ∧ Lib.indexByte s c = (p.length : Int) ∧ spl c s = p :: spl c r ∧ s.count c = r.count c + 1
  | [], h => by simp at h
  | x :: r, h => by
    cases hx : x == c
    · rw [List.count_cons, hx] at h
      obtain ⟨p, q, h1, h2, h3, h4, h5⟩ := spl_cut r (by simpa using h)
      refine ⟨x :: p, q, by rw [h1]; rfl, by rw [List.count_cons, hx]; simpa using h2, ?_, ?_, by rw [List.count_cons, hx]; simpa using h5⟩
      · have hne : (Lib.indexByte r c == -1) = false := by rw [h3]; simp
        simp [Lib.indexByte, hx, h3]
      · simp [spl, hx, h4, consH]
    · have hxc : x = c := by simpa using hx
      subst hxc
      exact ⟨[], r, rfl, rfl, by simp [Lib.indexByte], by simp [spl], by simp⟩

theorem toNat_beq (x c : UInt8) : (((UInt8.toNat x : Nat) : Int) == ((UInt8.toNat c : Nat) : Int)) = (x == c) := by
  rw [Bool.eq_iff_iff]
  simp only [beq_iff_eq, Int.ofNat_inj]
  exact UInt8.toNat_inj

/-- base.Cut. -/
theorem v27 (n : Nat) (s : Txt) (c : UInt8) (hf : Fuel n) (hl : Lt n s) : s27 n s ((UInt8.toNat c : Nat) : Int) = some (spl c s) := by
  have hhi := hf.hi
  have hlen : s.length ≤ 2147483648 := by unfold Lt at hl; omega
  unfold s27
  refine (list_loop (A := Nat × List Txt) s (fun i a => (s, ((UInt8.toNat c : Nat) : Int), (a.1 : Int), (i : Int), a.2, ())) (fun i a r => some (a.2 ++ appH ((s.take i).drop a.1) (spl c r))) (fun i a => a.1 ≤ i ∧ a.2.length ≤ i) (hf.le hl) ?_ ?_ (0, []) ⟨Nat.le_refl _, Nat.le_refl _⟩ hl).trans ?_
  · rintro i ⟨fr, out⟩ x r hi hx hd hg hlt hw ⟨hinv, hinv2⟩ again ih
    dsimp only at hinv hinv2
    simp only [s27_l0, hlt, cond_true, hg, Option.bind_some, hw, toNat_beq]
    have htake : s.take (i + 1) = s.take i ++ [x] := by rw [List.take_add_one, hx]; rfl
    cases hxc : x == c
    · simp only [cond_false]
      rw [ih (fr, out) ⟨by dsimp only; omega, by dsimp only; omega⟩]
      simp only [spl, hxc, cond_false, appH_cons, htake]
      rw [List.drop_append_of_le_length (by simp; omega)]
    · simp only [cond_true]
      rw [cut_nat s fr i hinv (by omega)]
      have hch : chk (out.length + ([(s.take i).drop fr] : List Txt).length) = some () := chk_ok (by simp; omega)
      simp only [Option.bind_some, hch]
      rw [ih (i + 1, out ++ [(s.take i).drop fr]) ⟨Nat.le_refl _, by simp; omega⟩]
      simp only [spl, hxc, cond_true]
      have hd2 : (s.take (i + 1)).drop (i + 1) = [] := List.drop_of_length_le (by rw [List.length_take]; omega)
      rw [hd2, appH_nil (spl_ne c r)]
      simp [appH]
  · rintro ⟨fr, out⟩ hlt ⟨hinv, hinv2⟩ again
    dsimp only at hinv hinv2
    simp only [s27_l0, hlt, cond_false]
    rw [cut_nat s fr s.length hinv (Nat.le_refl _)]
    have hch : chk (out.length + ([(s.take s.length).drop fr] : List Txt).length) = some () := chk_ok (by simp; omega)
    simp only [Option.bind_some, hch]
    simp [spl, appH]
  · simp [appH_nil (spl_ne c s)]

theorem v81 (n : Nat) (s : Txt) (c : UInt8) : s81 n s [c] = some (Lib.indexByte s c) := rfl
theorem v58 (n : Nat) (s : Txt) (c : UInt8) : s58 n s [c] = some ((s.count c : Nat) : Int) := rfl

theorem rep_set {k : Nat} {α : Type} (d : List α) (z x : α) : (d ++ List.replicate (k + 1) z).set d.length x = (d ++ [x]) ++ List.replicate k z := by
  rw [List.set_append_right _ _ (Nat.le_refl _), Nat.sub_self, List.replicate_succ, List.set_cons_zero, List.append_assoc]
  rfl

theorem cut_from {α : Type} (l : List α) (i : Nat) (h : i ≤ l.length) : cut l (i : Int) ((l.length : Nat) : Int) = some (l.drop i) := by
  rw [cut_nat l i l.length h (Nat.le_refl _), List.take_length]

/-- strings.Split at one byte. -/
theorem v56_loop (n m : Nat) (c : UInt8) (vn : Nat) (k0 : Txt × Int × List Txt × Unit → Option (List Txt)) : (k : Nat) → (s : Txt) → (d : List Txt) → s.count c = k → d.length + k = vn → vn ≤ 2147483648 → s.length ≤ 2147483648 → k < m →
    loopG (s56_l0 n) m (s, [c], (0 : Int), (vn : Int), (d.length : Int), d ++ List.replicate (k + 1) [], ()) (k0, ()) =
      k0 ((spl c s).getLastD [], ((d.length + k : Nat) : Int), d ++ (spl c s).dropLast ++ [[]], ()) := by
  intro k
  induction k generalizing m with
  | zero =>
    intro s d h1 h2 h3 h4 h5
    obtain ⟨m, rfl⟩ : ∃ q, m = q + 1 := ⟨m - 1, by omega⟩
    rw [loopG]
    have : decide ((d.length : Int) < (vn : Int)) = false := by simp; omega
    simp only [s56_l0, this, cond_false]
    rw [(spl_none s h1).2]
    simp
  | succ k ih =>
    intro s d h1 h2 h3 h4 h5
    obtain ⟨m, rfl⟩ : ∃ q, m = q + 1 := ⟨m - 1, by omega⟩
    obtain ⟨p, r, e1, e2, e3, e4, e5⟩ := spl_cut (c := c) s (by omega)
    rw [loopG]
    have hlt : decide ((d.length : Int) < (vn : Int)) = true := by simp; omega
    have hx : decide (((p.length : Nat) : Int) < 0) = false := by simp
    have hps : p.length + 1 ≤ s.length := by rw [e1]; simp
    simp only [s56_l0, hlt, cond_true, v81, Option.bind_some, e3, hx, cond_false]
    rw [show IntKind.wrap .i64 (((p.length : Nat) : Int) + 0) = ((p.length : Nat) : Int) from wrap_id (by omega) (by omega), cut_zero s p.length (by omega)]
    simp only [Option.bind_some]
    rw [geti_nat, List.getElem?_append_right (Nat.le_refl _), Nat.sub_self, List.replicate_succ]
    simp only [List.getElem?_cons_zero, Option.bind_some]
    rw [seti_nat _ _ _ (by simp), ← List.replicate_succ, rep_set]
    simp only [Option.bind_some]
    rw [show IntKind.wrap .i64 (((p.length : Nat) : Int) + ((List.length [c] : Nat) : Int)) = ((p.length + 1 : Nat) : Int) from by rw [wrap_id (by simp; omega) (by simp; omega)]; simp, cut_from s _ hps]
    simp only [Option.bind_some]
    rw [show IntKind.wrap .i64 (((d.length : Nat) : Int) + 1) = (((d ++ [s.take p.length]).length : Nat) : Int) from by rw [wrap_id (by omega) (by omega)]; simp]
    have hdrop : s.drop (p.length + 1) = r := by rw [e1, ← List.drop_drop]; simp
    have htake : s.take p.length = p := by rw [e1]; simp
    rw [hdrop, htake]
    rw [ih m r (d ++ [p]) (by omega) (by simp; omega) h3 (by rw [e1] at h4; simp at h4; omega) (by omega)]
    rw [e4]
    obtain ⟨h, t, ht⟩ : ∃ h t, spl c r = h :: t := by
      cases hh : spl c r with
      | nil => exact absurd hh (spl_ne c r)
      | cons h t => exact ⟨h, t, rfl⟩
    rw [ht, show (d ++ [p]).length + k = d.length + (k + 1) from by simp; omega]
    simp

theorem v24 (n : Nat) (s : Txt) (c : UInt8) (hf : Fuel n) (hl : Lt n s) : s24 n s [c] = some (spl c s) := by
  have hhi := hf.hi
  have hlen : s.length ≤ 2147483648 := by unfold Lt at hl; omega
  have hc := List.count_le_length (a := c) (l := s)
  unfold s24 s56
  have h0 : ((-1 : Int) == 0) = false := rfl
  have h1 : (([c] : List UInt8) == []) = false := rfl
  have h2 : decide ((-1 : Int) < 0) = true := rfl
  simp only [h0, h1, h2, cond_false, cond_true, v58, Option.bind_some]
  rw [show IntKind.wrap .i64 (((s.count c : Nat) : Int) + 1) = ((s.count c + 1 : Nat) : Int) from by rw [wrap_id (by omega) (by omega)]; simp]
  rw [show IntKind.wrap .i64 (((s.length : Nat) : Int) + 1) = ((s.length + 1 : Nat) : Int) from by rw [wrap_id (by omega) (by omega)]; simp]
  have hmin : imin ((s.count c + 1 : Nat) : Int) ((s.length + 1 : Nat) : Int) = ((s.count c + 1 : Nat) : Int) := by
    unfold imin
    split <;> omega
  rw [hmin, chki_ok (by omega) (by omega)]
  simp only [Option.bind_some]
  rw [show IntKind.wrap .i64 (((s.count c + 1 : Nat) : Int) - 1) = ((s.count c : Nat) : Int) from by rw [wrap_id (by omega) (by omega)]; omega, Int.toNat_natCast]
  have := v56_loop n n c (s.count c) (fun x => match x with | (s_2, i_1, a_1, _) => (geti a_1 i_1).bind fun e_1 => (seti a_1 i_1 s_2).bind fun l_1 => (cut l_1 0 (IntKind.wrap .i64 (i_1 + (1 : Int)))).bind fun x_5 => some x_5)
    (s.count c) s [] rfl (by simp) (by omega) hlen (by unfold Lt at hl; omega)
  simp only [List.length_nil, List.nil_append, Nat.zero_add, Int.ofNat_zero] at this
  rw [this]
  have hsl := spl_len c s
  have hdl : (spl c s).dropLast.length = s.count c := by rw [List.length_dropLast, hsl]; rfl
  rw [geti_nat, List.getElem?_append_right (by omega), hdl, Nat.sub_self]
  simp only [List.getElem?_cons_zero, Option.bind_some]
  rw [seti_nat _ _ _ (by simp [hdl]), List.set_append_right _ _ (by omega), hdl, Nat.sub_self, List.set_cons_zero]
  simp only [Option.bind_some]
  rw [show IntKind.wrap .i64 (((s.count c : Nat) : Int) + 1) = ((s.count c + 1 : Nat) : Int) from by rw [wrap_id (by omega) (by omega)]; simp, cut_zero _ _ (by simp [hdl])]
  simp only [Option.bind_some]
  rw [List.take_of_length_le (by simp [hdl])]
  congr 1
  rw [List.getLastD_eq_getLast?, List.getLast?_eq_some_getLast (spl_ne c s)]
  exact List.dropLast_concat_getLast _

/-- strings.Cut at one byte that is there once. -/
theorem v59 (n : Nat) (s p q : Txt) (c : UInt8) (hl : s.length ≤ 2147483648) (h : spl c s = [p, q]) : s59 n s [c] = some (p, q, true) := by
  have hlen := spl_len c s
  rw [h] at hlen
  obtain ⟨p', r, e1, e2, e3, e4, e5⟩ := spl_cut (c := c) s (by simp at hlen; omega)
  rw [h] at e4
  have hr : r.count c = 0 := by simp at hlen; omega
  rw [(spl_none r hr).2] at e4
  simp only [List.cons.injEq, and_true] at e4
  obtain ⟨rfl, rfl⟩ := e4
  unfold s59 s84
  have h93 : s93 n s [c] = some (Lib.indexByte s c) := rfl
  rw [h93, e3]
  simp only [Option.bind_some]
  rw [show decide (((p.length : Nat) : Int) ≥ 0) = true from by simp]
  simp only [cond_true]
  have hps : p.length + 1 ≤ s.length := by rw [e1]; simp
  rw [cut_zero s _ (by omega), show IntKind.wrap .i64 (((p.length : Nat) : Int) + ((List.length [c] : Nat) : Int)) = ((p.length + 1 : Nat) : Int) from by rw [wrap_id (by simp; omega) (by simp; omega)]; simp, cut_from s _ hps]
  simp only [Option.bind_some]
  rw [show s.drop (p.length + 1) = q from by rw [e1, ← List.drop_drop]; simp, show s.take p.length = p from by rw [e1]; simp]

end Go.Abs

set_option linter.unusedSimpArgs false
set_option linter.unusedVariables false
namespace Go.Abs
open Go

section
variable {D Ks R : Type} {body : D → (D → Option R) → Ks → Option R} {ks : Ks}
/-- A loop over a list from a place on. -/
theorem list_loopK {α A : Type} {n : Nat} (l : List α) (F : Nat → A → D) (G : Nat → A → List α → Option R) (Inv : Nat → A → Prop) (hl : l.length ≤ maxLen)
    (hs : ∀ i acc x r, i < l.length → l[i]? = some x → l.drop i = x :: r → geti l (i : Int) = some x → decide ((i : Int) < (l.length : Int)) = true → IntKind.wrap .i64 ((i : Int) + 1) = ((i + 1 : Nat) : Int) → Inv i acc →
      ∀ again, (∀ acc', Inv (i + 1) acc' → again (F (i + 1) acc') = G (i + 1) acc' r) → body (F i acc) again ks = G i acc (x :: r))
    (he : ∀ acc, decide ((l.length : Int) < (l.length : Int)) = false → Inv l.length acc → ∀ again, body (F l.length acc) again ks = G l.length acc [])
    (k : Nat) (acc : A) (hk : k ≤ l.length) (h0 : Inv k acc) (hn : l.length < n) : loopG body n (F k acc) ks = G k acc (l.drop k) := by
  have key : ∀ (m i : Nat) (acc : A), i ≤ l.length → Inv i acc → l.length - i < m → loopG body m (F i acc) ks = G i acc (l.drop i) := by
    intro m
    induction m with
    | zero => intro i acc _ _ h; omega
    | succ m ih =>
      intro i acc hi hI hm
      rw [loopG]
      by_cases h : i = l.length
      · subst h
        rw [List.drop_length]
        exact he acc (by simp) hI _
      · have hlt : i < l.length := by omega
        have hd : l.drop i = l[i] :: l.drop (i + 1) := List.drop_eq_getElem_cons hlt
        rw [hd]
        refine hs i acc l[i] (l.drop (i + 1)) hlt (List.getElem?_eq_getElem hlt) hd (by rw [geti_nat, List.getElem?_eq_getElem hlt]) (by simpa using hlt) (by rw [wrap_id] <;> unfold maxLen at hl <;> omega) hI _ fun acc' hI' => ?_
        exact ih (i + 1) acc' (by omega) hI' (by omega)
  exact key n k acc hk h0 (by omega)
end

abbrev Stp := List (Txt × Txt)
abbrev Draft := List Txt × Txt × List Txt × List Stp

def wMarks : Txt := [109, 97, 114, 107, 115]
def wBegin : Txt := [98, 101, 103, 105, 110]
def wClass : Txt := [99, 108, 97, 115, 115]

def stepOf (x : Txt) : Option (Txt × Txt) := match spl 47 x with
  | [a, b] => some (a, b)
  | _ => none
def stepsOf : List Txt → Option Stp
  | [] => some []
  | x :: r => (stepOf x).bind fun s => (stepsOf r).bind fun o => some (s :: o)
def hasE (w : List Txt) : Bool := w.any fun x => ([] : Txt) == x
def lineS (d : Draft) (k : Nat) (w : List Txt) : Option Draft :=
  bif hasE w then none else match k with
  | 0 => bif w.headD [] == wMarks && decide (2 ≤ w.length) then some (w.tail, d.2.1, d.2.2.1, d.2.2.2) else none
  | 1 => bif w.headD [] == wBegin && decide (w.length = 2) then some (d.1, w.getD 1 [], d.2.2.1, d.2.2.2) else none
  | _ + 2 => bif w.headD [] == wClass && decide (w.length = 2 + d.1.length) then
      (stepsOf (w.drop 2)).bind fun o => some (d.1, d.2.1, d.2.2.1 ++ [w.getD 1 []], d.2.2.2 ++ [o]) else none

theorem stepOf_some {x : Txt} {s : Txt × Txt} : stepOf x = some s ↔ spl 47 x = [s.1, s.2] := by
  unfold stepOf
  obtain ⟨s1, s2⟩ := s
  split
  · rename_i a b h
    rw [h]
    simp
  · rename_i h
    constructor
    · intro h'; cases h'
    · intro h'; exact absurd h' (h _ _)

theorem stepOf_none {x : Txt} : stepOf x = none ↔ x.count 47 ≠ 1 := by
  have hl := spl_len 47 x
  unfold stepOf
  split
  · rename_i a b h
    rw [h] at hl
    simp at hl ⊢
    omega
  · rename_i h
    simp only [true_iff]
    intro hc
    rw [hc] at hl
    match hs : spl 47 x, hl with
    | [a, b], _ => exact h a b hs

theorem hasE_eq (n : Nat) (w : List Txt) (hf : Fuel n) (hl : Lt n w) : s57 n w [] = some (hasE w) := v57 n w [] (hf.le hl) hl

theorem v25_steps (n : Nat) (hf : Fuel n) (w0 : List Txt) (d : Draft) (l : List Txt) (hl : Lt n l) (hx : ∀ x ∈ l, x.length ≤ 2147483648)
    (k0 : List Txt × List Txt × Txt × List Txt × List Stp × Stp × Unit → Option (Draft × Bool)) (k1 : Bool × List Txt × Txt × List Txt × List Stp × Unit → Option (Draft × Bool)) :
    loopG (s25_l0 n) n (w0, l, ((l.length : Nat) : Int), 0, d.1, d.2.1, d.2.2.1, d.2.2.2, [], ()) (k0, k1, ()) =
      match stepsOf l with
      | some o => k0 (w0, d.1, d.2.1, d.2.2.1, d.2.2.2, o, ())
      | none => k1 (false, d.1, d.2.1, d.2.2.1, d.2.2.2, ()) := by
  have hhi := hf.hi
  have hlen : l.length ≤ 2147483648 := by unfold Lt at hl; omega
  refine (list_loop (A := Stp) l (fun i own => (w0, l, ((l.length : Nat) : Int), (i : Int), d.1, d.2.1, d.2.2.1, d.2.2.2, own, ()))
    (fun i own r => match stepsOf r with
      | some o => k0 (w0, d.1, d.2.1, d.2.2.1, d.2.2.2, own ++ o, ())
      | none => k1 (false, d.1, d.2.1, d.2.2.1, d.2.2.2, ())) (fun i own => own.length = i) (hf.le hl) ?_ ?_ [] rfl hl).trans ?_
  · intro i own x r hi hxi hd hg hlt hw hinv again ih
    simp only [s25_l0, hlt, cond_true, hg, Option.bind_some, v58]
    cases hs : stepOf x with
    | none =>
      have := stepOf_none.1 hs
      have hne : (((x.count 47 : Nat) : Int) != 1) = true := by simp; omega
      simp only [hne, cond_true, stepsOf, hs, Option.bind_none]
    | some s =>
      have hsp := stepOf_some.1 hs
      have hcl := spl_len 47 x
      rw [hsp] at hcl
      have hne : (((x.count 47 : Nat) : Int) != 1) = false := by simp at hcl ⊢; omega
      simp only [hne, cond_false]
      rw [v59 n x s.1 s.2 47 (hx x (List.mem_of_getElem? hxi)) hsp]
      have hch : chk (own.length + ([(s.1, s.2)] : Stp).length) = some () := chk_ok (by simp; omega)
      simp only [Option.bind_some, hch, hw]
      rw [ih (own ++ [(s.1, s.2)]) (by simp [hinv])]
      simp only [stepsOf, hs, Option.bind_some]
      cases stepsOf r with
      | none => rfl
      | some o => simp
  · intro own hlt hinv again
    simp only [s25_l0, hlt, cond_false, stepsOf, List.append_nil]
  · cases stepsOf l <;> simp

theorem headD_get {w : List Txt} (h : w ≠ []) : geti w (0 : Int) = some (w.headD []) := by
  cases w with
  | nil => exact absurd rfl h
  | cons a t => rfl

theorem get1 {w : List Txt} (h : 2 ≤ w.length) : geti w (1 : Int) = some (w.getD 1 []) := by
  match w, h with
  | _ :: b :: _, _ => rfl

/-- (*draft).line. -/
theorem v25 (n : Nat) (hf : Fuel n) (d : Draft) (k : Nat) (w : List Txt) (hw0 : w ≠ []) (hw : Lt n w) (hx : ∀ x ∈ w, x.length ≤ 2147483648) (hk : k ≤ 2147483648)
    (hd : Lt n d.1 ∧ d.2.2.1.length ≤ 2147483648 ∧ d.2.2.2.length ≤ 2147483648) :
    match lineS d k w with
    | some d' => s25 n d (((k + 1 : Nat)) : Int) w = some (d', true)
    | none => ∃ d', s25 n d (((k + 1 : Nat)) : Int) w = some (d', false) := by
  have hhi := hf.hi
  have hlen : w.length ≤ 2147483648 := by unfold Lt at hw; omega
  have hpos : 0 < w.length := List.length_pos_iff.2 hw0
  obtain ⟨hd1, hd2, hd3⟩ := hd
  unfold s25 lineS
  rw [hasE_eq n w hf hw]
  simp only [Option.bind_some]
  cases hE : hasE w with
  | true =>
    simp only [cond_true]
    exact ⟨_, rfl⟩
  | false =>
    simp only [cond_false]
    match k with
    | 0 =>
      have h1 : (((0 + 1 : Nat) : Int) == 1) = true := rfl
      have hc : cut w (1 : Int) ((w.length : Nat) : Int) = some (w.drop 1) := cut_from w 1 hpos
      simp only [h1, cond_true, hc, Option.bind_some, headD_get hw0]
      have e1 : decide (((List.length (w.drop 1) : Nat) : Int) > 0) = decide (2 ≤ w.length) := by
        rw [decide_eq_decide, List.length_drop]; omega
      rw [e1, List.drop_one]
      cases h2 : (w.headD [] == wMarks && decide (2 ≤ w.length)) with
      | true =>
        simp only [cond_true]
        have h2' : (w.headD [] == [109, 97, 114, 107, 115] && decide (2 ≤ w.length)) = true := h2
        rw [h2']
      | false =>
        simp only [cond_false]
        have h2' : (w.headD [] == [109, 97, 114, 107, 115] && decide (2 ≤ w.length)) = false := h2
        exact ⟨_, by rw [h2']⟩
    | 1 =>
      have h1 : (((1 + 1 : Nat) : Int) == 1) = false := rfl
      have h2 : (((1 + 1 : Nat) : Int) == 2) = true := rfl
      simp only [h1, h2, cond_true, cond_false, headD_get hw0, Option.bind_some]
      have e1 : (((w.headD []) != ([98, 101, 103, 105, 110] : List UInt8)) || (((List.length w : Nat) : Int) != 2)) = !(w.headD [] == wBegin && decide (w.length = 2)) := by
        rw [Bool.not_and]
        congr 1
        rw [bne, Bool.eq_iff_iff]
        simp
        omega
      rw [e1]
      cases h3 : (w.headD [] == wBegin && decide (w.length = 2)) with
      | false =>
        simp only [Bool.not_false, cond_true, cond_false]
        exact ⟨_, rfl⟩
      | true =>
        simp only [Bool.not_true, cond_true, cond_false]
        simp only [Bool.and_eq_true, decide_eq_true_eq] at h3
        rw [get1 (by omega)]
        rfl
    | k + 2 =>
      have h1 : (((k + 2 + 1 : Nat) : Int) == 1) = false := by simp; omega
      have h2 : (((k + 2 + 1 : Nat) : Int) == 2) = false := by simp; omega
      simp only [h1, h2, cond_false, headD_get hw0, Option.bind_some]
      have e0 : IntKind.wrap .i64 (2 + ((List.length d.1 : Nat) : Int)) = ((2 + d.1.length : Nat) : Int) := by
        unfold Lt at hd1
        rw [wrap_id (by omega) (by omega)]; simp
      rw [e0]
      have e1 : (((w.headD []) != ([99, 108, 97, 115, 115] : List UInt8)) || (((List.length w : Nat) : Int) != ((2 + d.1.length : Nat) : Int))) = !(w.headD [] == wClass && decide (w.length = 2 + d.1.length)) := by
        rw [Bool.not_and]
        congr 1
        rw [bne, Bool.eq_iff_iff]
        simp
        omega
      rw [e1]
      cases h3 : (w.headD [] == wClass && decide (w.length = 2 + d.1.length)) with
      | false =>
        simp only [Bool.not_false, cond_true, cond_false]
        exact ⟨_, rfl⟩
      | true =>
        simp only [Bool.not_true, cond_true, cond_false]
        simp only [Bool.and_eq_true, decide_eq_true_eq] at h3
        have hc : cut w (2 : Int) ((w.length : Nat) : Int) = some (w.drop 2) := cut_from w 2 (by omega)
        rw [hc]
        simp only [Option.bind_some]
        rw [v25_steps n hf w d (w.drop 2) (by unfold Lt at *; simp; omega) (fun x hm => hx x (List.mem_of_mem_drop hm))]
        cases hs : stepsOf (w.drop 2) with
        | none => exact ⟨_, rfl⟩
        | some o =>
          simp only [Option.bind_some]
          rw [get1 (by omega)]
          have c1 : chk (d.2.2.1.length + ([w.getD 1 []] : List Txt).length) = some () := chk_ok (by simp; omega)
          have c2 : chk (d.2.2.2.length + ([o] : List Stp).length) = some () := chk_ok (by simp; omega)
          simp only [Option.bind_some, c1, c2]

end Go.Abs

set_option linter.unusedSimpArgs false
set_option linter.unusedVariables false
namespace Go.Abs
open Go

def linesS : Nat → Draft → List Txt → Draft × Option Nat
  | _, d, [] => (d, none)
  | i, d, l :: r => match lineS d i (spl 32 l) with
    | some d' => linesS (i + 1) d' r
    | none => (d, some (i + 1))

theorem spl_mem {c : UInt8} : (s : Txt) → ∀ x ∈ spl c s, x.length ≤ s.length
  | [], x, h => by simp [spl] at h; simp [h]
  | y :: r, x, h => by
    have ih := spl_mem (c := c) r
    unfold spl at h
    cases hy : y == c
    · rw [hy] at h
      simp only [cond_false] at h
      cases hs : spl c r with
      | nil => exact absurd hs (spl_ne c r)
      | cons a t =>
        rw [hs] at h ih
        simp only [consH, List.mem_cons] at h
        rcases h with rfl | h
        · have := ih a (by simp); simpa using this
        · have := ih x (by simp [h]); simp; omega
    · rw [hy] at h
      simp only [cond_true, List.mem_cons] at h
      rcases h with rfl | h
      · simp
      · have := ih x h; simp; omega

theorem stepsOf_fit {N : Nat} : (l : List Txt) → {o : Stp} → (∀ x ∈ l, x.length ≤ N) → stepsOf l = some o → o.length = l.length ∧ ∀ s ∈ o, s.1.length ≤ N ∧ s.2.length ≤ N
  | [], o, _, h => by simp [stepsOf] at h; subst h; simp
  | x :: r, o, hx, h => by
    simp only [stepsOf] at h
    cases hs : stepOf x with
    | none => rw [hs] at h; cases h
    | some s =>
      rw [hs] at h
      simp only [Option.bind_some] at h
      cases hr : stepsOf r with
      | none => rw [hr] at h; cases h
      | some q =>
        rw [hr] at h
        simp only [Option.bind_some, Option.some.injEq] at h
        subst h
        obtain ⟨h1, h2⟩ := stepsOf_fit r (fun y hy => hx y (List.mem_cons_of_mem _ hy)) hr
        refine ⟨by simp [h1], fun t ht => ?_⟩
        rcases List.mem_cons.1 ht with rfl | ht
        · have hm := stepOf_some.1 hs
          have h3 := spl_mem (c := 47) x
          rw [hm] at h3
          have hN := hx x (by simp)
          exact ⟨Nat.le_trans (h3 _ (by simp)) hN, Nat.le_trans (h3 _ (by simp)) hN⟩
        · exact h2 t ht

structure FitD (N : Nat) (d : Draft) (i : Nat) : Prop where
  m : d.1.length ≤ N
  ms : ∀ s ∈ d.1, s.length ≤ N
  be : d.2.1.length ≤ N
  eq : d.2.2.1.length = d.2.2.2.length
  le : d.2.2.1.length ≤ i
  ns : ∀ s ∈ d.2.2.1, s.length ≤ N
  ss : ∀ o ∈ d.2.2.2, o.length ≤ N ∧ ∀ s ∈ o, s.1.length ≤ N ∧ s.2.length ≤ N

theorem getD1_mem {w : List Txt} (h : 2 ≤ w.length) : w.getD 1 [] ∈ w := by
  match w, h with
  | _ :: b :: _, _ => simp

theorem lineS_fit {N : Nat} {d d' : Draft} {i : Nat} {l : Txt} (hN : l.length + 1 ≤ N) (hd : FitD N d i) (h : lineS d i (spl 32 l) = some d') : FitD N d' (i + 1) := by
  have hx : ∀ x ∈ spl 32 l, x.length ≤ N := fun x hx => by have := spl_mem (c := 32) l x hx; omega
  have hlen : (spl 32 l).length ≤ N := by
    have := spl_len 32 l
    have := List.count_le_length (a := 32) (l := l)
    omega
  generalize spl 32 l = w at *
  unfold lineS at h
  cases hE : hasE w with
  | true => rw [hE] at h; cases h
  | false =>
    rw [hE] at h
    simp only [cond_false] at h
    match i with
    | 0 =>
      dsimp only at h
      cases h1 : (w.headD [] == wMarks && decide (2 ≤ w.length)) with
      | false => rw [h1] at h; cases h
      | true =>
        rw [h1] at h
        simp only [cond_true, Option.some.injEq] at h
        subst h
        exact { m := by simp; omega, ms := fun s hs => hx s (List.mem_of_mem_tail hs), be := hd.be, eq := hd.eq, le := by have := hd.le; dsimp only at this ⊢; omega, ns := hd.ns, ss := hd.ss }
    | 1 =>
      dsimp only at h
      cases h1 : (w.headD [] == wBegin && decide (w.length = 2)) with
      | false => rw [h1] at h; cases h
      | true =>
        rw [h1] at h
        simp only [cond_true, Option.some.injEq] at h
        subst h
        simp only [Bool.and_eq_true, decide_eq_true_eq] at h1
        exact { m := hd.m, ms := hd.ms, be := hx _ (getD1_mem (by omega)), eq := hd.eq, le := by have := hd.le; dsimp only at this ⊢; omega, ns := hd.ns, ss := hd.ss }
    | k + 2 =>
      dsimp only at h
      cases h1 : (w.headD [] == wClass && decide (w.length = 2 + d.1.length)) with
      | false => rw [h1] at h; cases h
      | true =>
        rw [h1] at h
        simp only [cond_true] at h
        simp only [Bool.and_eq_true, decide_eq_true_eq] at h1
        cases ho : stepsOf (w.drop 2) with
        | none => rw [ho] at h; cases h
        | some o =>
          rw [ho] at h
          simp only [Option.bind_some, Option.some.injEq] at h
          subst h
          obtain ⟨o1, o2⟩ := stepsOf_fit (w.drop 2) (fun x hm => hx x (List.mem_of_mem_drop hm)) ho
          refine { m := hd.m, ms := hd.ms, be := hd.be, eq := by simp [hd.eq], le := by have := hd.le; simp; omega, ns := fun s hs => ?_, ss := fun q hq => ?_ }
          · rcases List.mem_append.1 hs with hs | hs
            · exact hd.ns s hs
            · rw [List.mem_singleton] at hs; subst hs; exact hx _ (getD1_mem (by omega))
          · rcases List.mem_append.1 hq with hq | hq
            · exact hd.ss q hq
            · rw [List.mem_singleton] at hq; subst hq
              exact ⟨by rw [o1, List.length_drop]; omega, o2⟩

theorem linesS_fit {N : Nat} : (l : List Txt) → {d d' : Draft} → {i : Nat} → (∀ x ∈ l, x.length + 1 ≤ N) → FitD N d i → linesS i d l = (d', none) → FitD N d' (i + l.length)
  | [], d, d', i, _, hd, h => by simp [linesS] at h; subst h; exact hd
  | x :: r, d, d', i, hx, hd, h => by
    simp only [linesS] at h
    cases hs : lineS d i (spl 32 x) with
    | none => rw [hs] at h; simp at h
    | some d1 =>
      rw [hs] at h
      have := linesS_fit r (fun y hy => hx y (List.mem_cons_of_mem _ hy)) (lineS_fit (hx x (by simp)) hd hs) h
      rw [List.length_cons, show i + (r.length + 1) = i + 1 + r.length from by omega]
      exact this

theorem spl_lt {n : Nat} (hf : Fuel n) {c : UInt8} {s : Txt} (h : s.length + 1 < n) : Lt n (spl c s) ∧ ∀ x ∈ spl c s, x.length ≤ 2147483648 := by
  have hhi := hf.hi
  refine ⟨?_, fun x hx => ?_⟩
  · unfold Lt
    rw [spl_len]
    have := List.count_le_length (a := c) (l := s)
    omega
  · have := spl_mem (c := c) s x hx
    omega

def fin8 {R : Type} (k0 : Draft → Option R) (k1 : Nat → Option R) (x : Draft × Option Nat) : Option R := match x.2 with
  | none => k0 x.1
  | some m => k1 m

/-- The lines, as ParseBook reads them. -/
theorem v8_loop (n : Nat) (hf : Fuel n) (L : List Txt) (last : Int) (d : Draft) (N : Nat) (hN : N + 1 < n) (l : List Txt) (hl : Lt n l) (hx : ∀ x ∈ l, x.length + 1 ≤ N) (hd : FitD N d 0)
    (k0 : List Txt × Int × Int × List Txt × Txt × List Txt × List Stp × Unit → Option (Book × Int × Int)) (k1 : Int × Int × Int × Unit → Option (Book × Int × Int)) :
    loopG (s8_l0 n) n (L, last, l, ((l.length : Nat) : Int), 0, 0, d.1, d.2.1, d.2.2.1, d.2.2.2, ()) (k0, k1, ()) =
      fin8 (fun d' => k0 (L, last, 0, d'.1, d'.2.1, d'.2.2.1, d'.2.2.2, ())) (fun m => k1 (((m : Nat) : Int), 7, 0, ())) (linesS 0 d l) := by
  have hhi := hf.hi
  have hlen : l.length ≤ 2147483648 := by unfold Lt at hl; omega
  refine (list_loop (A := Draft) l (fun i d => (L, last, l, ((l.length : Nat) : Int), (i : Int), 0, d.1, d.2.1, d.2.2.1, d.2.2.2, ()))
    (fun i d r => fin8 (fun d' => k0 (L, last, 0, d'.1, d'.2.1, d'.2.2.1, d'.2.2.2, ())) (fun m => k1 (((m : Nat) : Int), 7, 0, ())) (linesS i d r)) (fun i d => FitD N d i) (hf.le hl) ?_ ?_ d hd hl)
  · intro i d x r hi hxi hdr hg hlt hw hinv again ih
    have hxm := hx x (List.mem_of_getElem? hxi)
    obtain ⟨s1, s2⟩ := spl_lt hf (c := 32) (s := x) (by omega)
    have h25 := v25 n hf d i (spl 32 x) (spl_ne 32 x) s1 s2 (by omega) ⟨by have := hinv.m; unfold Lt; omega, by have := hinv.le; omega, by have := hinv.le; have := hinv.eq; omega⟩
    simp only [s8_l0, hlt, cond_true, hg, Option.bind_some, hw]
    rw [v24 n x 32 hf (by unfold Lt; omega)]
    simp only [Option.bind_some]
    cases hs : lineS d i (spl 32 x) with
    | none =>
      rw [hs] at h25
      obtain ⟨d', h25⟩ := h25
      rw [h25]
      simp only [Option.bind_some, Bool.not_false, cond_true, linesS, hs, fin8]
    | some d' =>
      rw [hs] at h25
      rw [h25]
      simp only [Option.bind_some, Bool.not_true, cond_false, linesS, hs]
      exact ih d' (lineS_fit hxm hinv hs)
  · intro d hlt hinv again
    simp only [s8_l0, hlt, cond_false, linesS, fin8]

/-! The other program. -/
theorem v28 (n : Nat) (line head : Txt) (hf : Fuel n) (hl : line.length + 1 < n) :
    s28 n line head 2 = some (spl 32 line, (decide (2 ≤ (spl 32 line).length) && (spl 32 line).headD [] == head) && !hasE (spl 32 line)) := by
  obtain ⟨s1, s2⟩ := spl_lt hf (c := 32) (s := line) hl
  unfold s28
  have h27 : s27 n line 32 = some (spl 32 line) := v27 n line 32 hf (by unfold Lt; omega)
  rw [h27]
  simp only [Option.bind_some]
  have hne := spl_ne 32 line
  generalize spl 32 line = w at *
  have e1 : decide (((List.length w : Nat) : Int) ≥ 2) = decide (2 ≤ w.length) := by rw [decide_eq_decide]; omega
  rw [e1]
  have h62 : s62 n w [] = some (hasE w) := v62 n w [] (hf.le s1) s1
  cases h2 : decide (2 ≤ w.length) with
  | false =>
    simp only [part, cond_false, Option.bind_some, Bool.false_and]
  | true =>
    rw [headD_get hne]
    simp only [part, cond_true, Option.bind_some, Bool.true_and]
    cases h3 : (w.headD [] == head) with
    | false => simp only [cond_false, Option.bind_some, Bool.false_and]
    | true => simp only [cond_true, h62, Option.bind_some, Bool.true_and]

def lineC (m : Nat) (w : List Txt) : Option Stp :=
  bif hasE w then none else bif w.headD [] == wClass && decide (w.length = 2 + m) then stepsOf (w.drop 2) else none

theorem lineS_class (d : Draft) (k : Nat) (w : List Txt) : lineS d (k + 2) w = (lineC d.1.length w).bind fun o => some (d.1, d.2.1, d.2.2.1 ++ [w.getD 1 []], d.2.2.2 ++ [o]) := by
  unfold lineS lineC
  cases hasE w with
  | true => rfl
  | false =>
    simp only [cond_false]
    cases (w.headD [] == wClass && decide (w.length = 2 + d.1.length)) <;> rfl

abbrev ClsN := Txt × Option (List Int) × List Txt

theorem v29_loop (n : Nat) (hf : Fuel n) (w : List Txt) (hw : Lt n w) (h2 : 2 ≤ w.length) (hx : ∀ x ∈ w, Lt n x) (t4 c : Txt)
    (k0 : Txt × Txt × List Txt × List Txt × Unit → Option (ClsN × List Txt × Bool)) (k1 : Bool × Txt × List Txt × Unit → Option (ClsN × List Txt × Bool)) :
    loopG (s29_l0 n) n (w, 2, t4, c, [], [], ()) (k0, k1, ()) =
      match stepsOf (w.drop 2) with
      | some o => k0 (t4, c, o.map (·.2), o.map (·.1), ())
      | none => k1 (false, [], [], ()) := by
  have hhi := hf.hi
  have hlen : w.length ≤ 2147483648 := by unfold Lt at hw; omega
  refine (list_loopK (A := List Txt × List Txt) w (fun i a => (w, (i : Int), t4, c, a.1, a.2, ()))
    (fun i a r => match stepsOf r with
      | some o => k0 (t4, c, a.1 ++ o.map (·.2), a.2 ++ o.map (·.1), ())
      | none => k1 (false, [], [], ())) (fun i a => a.1.length + 2 = i ∧ a.2.length + 2 = i) (hf.le hw) ?_ ?_ 2 ([], []) h2 ⟨rfl, rfl⟩ hw).trans ?_
  · rintro i ⟨rs, to⟩ x r hi hxi hd hg hlt hw' ⟨i1, i2⟩ again ih
    dsimp only at i1 i2
    have hxm := hx x (List.mem_of_getElem? hxi)
    have h27 : s27 n x 47 = some (spl 47 x) := v27 n x 47 hf hxm
    simp only [s29_l0, hlt, cond_true, hg, Option.bind_some, h27]
    cases hs : stepOf x with
    | none =>
      have := stepOf_none.1 hs
      have hsl := spl_len 47 x
      have hne : (((List.length (spl 47 x) : Nat) : Int) != 2) = true := by simp; omega
      simp only [hne, cond_true, stepsOf, hs, Option.bind_none]
    | some s =>
      have hsp := stepOf_some.1 hs
      rw [hsp]
      have hne : (((List.length [s.1, s.2] : Nat) : Int) != 2) = false := rfl
      have g0 : geti [s.1, s.2] (0 : Int) = some s.1 := rfl
      have g1 : geti [s.1, s.2] (1 : Int) = some s.2 := rfl
      have c1 : chk (to.length + ([s.1] : List Txt).length) = some () := chk_ok (by simp; omega)
      have c2 : chk (rs.length + ([s.2] : List Txt).length) = some () := chk_ok (by simp; omega)
      simp only [hne, cond_false, g0, g1, Option.bind_some, c1, c2, hw']
      rw [ih (rs ++ [s.2], to ++ [s.1]) ⟨by simp; omega, by simp; omega⟩]
      simp only [stepsOf, hs, Option.bind_some]
      cases stepsOf r with
      | none => rfl
      | some o => simp
  · rintro ⟨rs, to⟩ hlt hinv again
    simp only [s29_l0, hlt, cond_false, stepsOf, List.map_nil, List.append_nil]
  · cases stepsOf (w.drop 2) <;> simp

theorem v29 (n : Nat) (hf : Fuel n) (line : Txt) (m : Nat) (hl : line.length + 1 < n) (hm : m < n) :
    match lineC m (spl 32 line) with
    | some o => s29 n line ((m : Nat) : Int) = some (((spl 32 line).getD 1 [], none, o.map (·.2)), o.map (·.1), true)
    | none => ∃ y z, s29 n line ((m : Nat) : Int) = some (y, z, false) := by
  have hhi := hf.hi
  obtain ⟨s1, s2⟩ := spl_lt hf (c := 32) (s := line) hl
  have hx : ∀ x ∈ spl 32 line, Lt n x := fun x hx => by have := spl_mem (c := 32) line x hx; unfold Lt; omega
  unfold s29
  have h28 := v28 n line wClass hf hl
  rw [show s28 n line [99, 108, 97, 115, 115] 2 = _ from h28]
  simp only [Option.bind_some]
  generalize spl 32 line = w at *
  rw [show IntKind.wrap .i64 (2 + ((m : Nat) : Int)) = ((2 + m : Nat) : Int) from by rw [wrap_id (by omega) (by omega)]; simp]
  unfold lineC
  have e1 : ((!(decide (2 ≤ w.length) && w.headD [] == wClass && !hasE w)) || (((List.length w : Nat) : Int) != ((2 + m : Nat) : Int))) = !(!hasE w && (w.headD [] == wClass && decide (w.length = 2 + m))) := by
    rw [Bool.eq_iff_iff]
    simp
    constructor
    · rintro ((h | h) | h)
      · rcases h with h | h
        · exact .inr (.inr (by omega))
        · exact .inr (.inl h)
      · exact .inl h
      · exact .inr (.inr (by omega))
    · rintro (h | h | h)
      · exact .inl (.inr h)
      · exact .inl (.inl (.inr h))
      · exact .inr (by omega)
  rw [e1]
  cases hE : hasE w with
  | true => exact ⟨_, _, rfl⟩
  | false =>
    cases h3 : (w.headD [] == wClass && decide (w.length = 2 + m)) with
    | false => exact ⟨_, _, rfl⟩
    | true =>
      simp only [cond_false, cond_true, Bool.not_false, Bool.true_and, Bool.not_true]
      simp only [Bool.and_eq_true, decide_eq_true_eq] at h3
      rw [get1 (by omega)]
      simp only [Option.bind_some]
      have := v29_loop n hf w s1 (by omega) hx [] (w.getD 1 []) (fun x => match x with | (t4_1, c_2, c_3, to_1, _) => some ((c_2, ((none : Option (List Int)), c_3)), to_1, true)) (fun x => match x with | (t6, t4_2, t5, _) => some ((t4_2, ((none : Option (List Int)), ([] : List (List UInt8)))), t5, t6))
      rw [this]
      cases stepsOf (w.drop 2) with
      | none => exact ⟨_, _, rfl⟩
      | some o => rfl

end Go.Abs

set_option linter.unusedSimpArgs false
set_option linter.unusedVariables false
namespace Go.Abs
open Go

def findI (names : List Txt) (nm : Txt) : Int := idxF (fun x => nm == x) 0 names
def clsOf (names : List Txt) (nm : Txt) (o : Stp) : Cls := (nm, o.map (fun s => findI names s.1), o.map (·.2))
def bookD (d : Draft) : Book := (d.1, findI d.2.2.1 d.2.1, List.zipWith (clsOf d.2.2.1) d.2.2.1 d.2.2.2)
def missO (names : List Txt) (o : Stp) : Bool := o.any fun s => decide (findI names s.1 < 0)
def missD (d : Draft) : Bool := decide (findI d.2.2.1 d.2.1 < 0) || d.2.2.2.any (missO d.2.2.1)

theorem v60 (n : Nat) (hf : Fuel n) (m : Bool) (nm : Txt) (d : Draft) (hl : Lt n d.2.2.1) : s60 n m nm d = some (m || decide (findI d.2.2.1 nm < 0), findI d.2.2.1 nm) := by
  unfold s60
  rw [v61 n d.2.2.1 nm (hf.le hl) hl]
  rfl

theorem v26_in (n : Nat) (hf : Fuel n) (d : Draft) (hl : Lt n d.2.2.1) (o : Stp) (ho : Lt n o) (t27 : List Txt) (t28 t29 t2 : Int) (miss : Bool) (b : List Txt) (b1 : Int) (b2 : List Cls) (c : Txt)
    (k0 : Draft × Draft × List Txt × Int × Int × Int × Bool × List Txt × Int × List Cls × Txt × List Int × List Txt × Unit → Option (Book × Bool)) :
    loopG (s26_l0_0 n) n (d, d, t27, t28, t29, o, ((o.length : Nat) : Int), 0, t2, miss, b, b1, b2, c, [], [], ()) (k0, ()) =
      k0 (d, d, t27, t28, t29, t2, miss || missO d.2.2.1 o, b, b1, b2, c, o.map (fun s => findI d.2.2.1 s.1), o.map (·.2), ()) := by
  have hhi := hf.hi
  have hlen : o.length ≤ 2147483648 := by unfold Lt at ho; omega
  refine (list_loop (A := Bool × List Int × List Txt) o (fun i a => (d, d, t27, t28, t29, o, ((o.length : Nat) : Int), (i : Int), t2, a.1, b, b1, b2, c, a.2.1, a.2.2, ()))
    (fun i a r => k0 (d, d, t27, t28, t29, t2, a.1 || missO d.2.2.1 r, b, b1, b2, c, a.2.1 ++ r.map (fun s => findI d.2.2.1 s.1), a.2.2 ++ r.map (·.2), ())) (fun i a => a.2.1.length = i ∧ a.2.2.length = i) (hf.le ho) ?_ ?_ (miss, [], []) ⟨rfl, rfl⟩ ho)
  · rintro i ⟨a, nx, rs⟩ x r hi hxi hdr hg hlt hw ⟨i1, i2⟩ again ih
    dsimp only at i1 i2
    have c1 : chk (nx.length + ([findI d.2.2.1 x.1] : List Int).length) = some () := chk_ok (by simp; omega)
    have c2 : chk (rs.length + ([x.2] : List Txt).length) = some () := chk_ok (by simp; omega)
    simp only [s26_l0_0, hlt, cond_true, hg, Option.bind_some, v60 n hf a x.1 d hl, c1, c2, hw]
    rw [ih (a || decide (findI d.2.2.1 x.1 < 0), nx ++ [findI d.2.2.1 x.1], rs ++ [x.2]) ⟨by simp; omega, by simp; omega⟩]
    simp [missO, Bool.or_assoc]
  · rintro ⟨a, nx, rs⟩ hlt hinv again
    simp only [s26_l0_0, hlt, cond_false, missO, List.any_nil, Bool.or_false, List.map_nil, List.append_nil]

theorem v26 (n : Nat) (hf : Fuel n) (d : Draft) (hl : Lt n d.2.2.1) (heq : d.2.2.1.length = d.2.2.2.length) (ho : ∀ o ∈ d.2.2.2, Lt n o) : s26 n d = some (bookD d, !missD d) := by
  have hhi := hf.hi
  have hlen : d.2.2.1.length ≤ 2147483648 := by unfold Lt at hl; omega
  unfold s26
  rw [v60 n hf false d.2.1 d hl]
  simp only [Option.bind_some, Bool.false_or]
  refine (list_loop (A := Bool × List Cls) d.2.2.1 (fun i a => (d, d, d.2.2.1, ((d.2.2.1.length : Nat) : Int), (i : Int), 0, a.1, d.1, findI d.2.2.1 d.2.1, a.2, ()))
    (fun i a r => some ((d.1, findI d.2.2.1 d.2.1, a.2 ++ List.zipWith (clsOf d.2.2.1) r (d.2.2.2.drop i)), !(a.1 || (d.2.2.2.drop i).any (missO d.2.2.1)))) (fun i a => a.2.length = i) (hf.le hl) ?_ ?_ (decide (findI d.2.2.1 d.2.1 < 0), []) rfl hl).trans ?_
  · rintro i ⟨a, cs⟩ x r hi hxi hdr hg hlt hw i1 again ih
    dsimp only at i1
    have hi2 : i < d.2.2.2.length := by omega
    have hg2 : geti d.2.2.2 (i : Int) = some d.2.2.2[i] := by rw [geti_nat, List.getElem?_eq_getElem hi2]
    have hd2 : d.2.2.2.drop i = d.2.2.2[i] :: d.2.2.2.drop (i + 1) := List.drop_eq_getElem_cons hi2
    have hom : Lt n d.2.2.2[i] := ho _ (List.getElem_mem hi2)
    simp only [s26_l0, hlt, cond_true, hg, hg2, Option.bind_some]
    rw [v26_in n hf d hl d.2.2.2[i] hom]
    have c1 : chk (cs.length + ([(x, ((d.2.2.2[i]).map (fun s => findI d.2.2.1 s.1), (d.2.2.2[i]).map (·.2)))] : List Cls).length) = some () := chk_ok (by simp; omega)
    simp only [c1, Option.bind_some, hw]
    rw [ih (a || missO d.2.2.1 d.2.2.2[i], cs ++ [(x, ((d.2.2.2[i]).map (fun s => findI d.2.2.1 s.1), (d.2.2.2[i]).map (·.2)))]) (by simp; omega), hd2]
    simp only [List.zipWith_cons_cons, List.any_cons, clsOf, List.append_assoc, List.singleton_append, Bool.or_assoc]
  · rintro ⟨a, cs⟩ hlt hinv again
    simp only [s26_l0, hlt, cond_false]
    rw [heq, List.drop_length]
    simp
  · simp [bookD, missD]

/-! The other program. -/
def clsN (names : List Txt) (steps : List Stp) : List ClsN := List.zipWith (fun nm (o : Stp) => (nm, none, o.map (·.2))) names steps
def toN (steps : List Stp) : List (List Txt) := steps.map fun o => o.map (·.1)
def opn (y : ClsN) : Cls := (y.1, (Option.getD y.2.1 [], List.map (fun y => y) y.2.2))

theorem v9_loop (n : Nat) (hf : Fuel n) (z : Txt) (d : Draft) (N : Nat) (hN : N + 1 < n) (l : List Txt) (hl : Lt n l) (hx : ∀ x ∈ l, x.length + 1 ≤ N) (hd : FitD N d 0)
    (k0 : List Txt × Int × Txt × Int × List Txt × Int × List ClsN × List (List Txt) × Unit → Option (Book × Int × Int)) (k1 : Int × Int × Int × Unit → Option (Book × Int × Int)) :
    loopG (s9_l0 n) n (l ++ [z], ((l.length : Nat) : Int), d.2.1, 0, 0, d.1, 0, clsN d.2.2.1 d.2.2.2, toN d.2.2.2, ()) (k0, k1, ()) =
      fin8 (fun d' => k0 (l ++ [z], ((l.length : Nat) : Int), d'.2.1, 0, d'.1, 0, clsN d'.2.2.1 d'.2.2.2, toN d'.2.2.2, ())) (fun m => k1 (((m : Nat) : Int), 7, 0, ())) (linesS 0 d l) := by
  have hhi := hf.hi
  have hlen : l.length ≤ 2147483648 := by unfold Lt at hl; omega
  refine (list_loop (A := Draft) l (fun i d => (l ++ [z], ((l.length : Nat) : Int), d.2.1, (i : Int), 0, d.1, 0, clsN d.2.2.1 d.2.2.2, toN d.2.2.2, ()))
    (fun i d r => fin8 (fun d' => k0 (l ++ [z], ((l.length : Nat) : Int), d'.2.1, 0, d'.1, 0, clsN d'.2.2.1 d'.2.2.2, toN d'.2.2.2, ())) (fun m => k1 (((m : Nat) : Int), 7, 0, ())) (linesS i d r)) (fun i d => FitD N d i) (hf.le hl) ?_ ?_ d hd hl)
  · intro i d x r hi hxi hdr hg hlt hw hinv again ih
    have hxm := hx x (List.mem_of_getElem? hxi)
    have hgL : geti (l ++ [z]) (i : Int) = some x := by rw [geti_nat, List.getElem?_append_left hi]; exact hxi
    have hne := spl_ne 32 x
    match i, hi, hxi, hdr, hg, hlt, hw, hinv, ih, hgL with
    | 0, hi, hxi, hdr, hg, hlt, hw, hinv, ih, hgL =>
      have h0 : (((0 : Nat) : Int) == 0) = true := rfl
      have hgL' : geti (l ++ [z]) (0 : Int) = some x := hgL
      have h28 : s28 n x [109, 97, 114, 107, 115] 2 = _ := v28 n x wMarks hf (by omega)
      simp only [s9_l0, hlt, cond_true, h0, hgL', Option.bind_some, h28, linesS, lineS]
      cases hE : hasE (spl 32 x) with
      | true => simp only [Bool.not_true, Bool.and_false, Bool.not_false, cond_true, fin8]; rfl
      | false =>
        simp only [Bool.not_false, Bool.and_true, cond_false]
        rw [Bool.and_comm]
        cases h1 : ((spl 32 x).headD [] == wMarks && decide (2 ≤ (spl 32 x).length)) with
        | false => simp only [Bool.not_false, cond_true, cond_false, fin8]; rfl
        | true =>
          simp only [Bool.not_true, cond_true, cond_false]
          simp only [Bool.and_eq_true, decide_eq_true_eq] at h1
          have hc : cut (spl 32 x) (1 : Int) (((spl 32 x).length : Nat) : Int) = some ((spl 32 x).drop 1) := cut_from _ 1 (by omega)
          simp only [hc, Option.bind_some, hw, List.drop_one]
          have hls : lineS d 0 (spl 32 x) = some ((spl 32 x).tail, d.2.1, d.2.2.1, d.2.2.2) := by
            unfold lineS
            simp only [hE, cond_false]
            rw [show ((spl 32 x).headD [] == wMarks && decide (2 ≤ (spl 32 x).length)) = true from by simp only [Bool.and_eq_true, decide_eq_true_eq]; exact h1]
            rfl
          exact ih ((spl 32 x).tail, d.2.1, d.2.2.1, d.2.2.2) (lineS_fit hxm hinv hls)
    | 1, hi, hxi, hdr, hg, hlt, hw, hinv, ih, hgL =>
      have h0 : (((1 : Nat) : Int) == 0) = false := rfl
      have h1' : (((1 : Nat) : Int) == 1) = true := rfl
      have hgL' : geti (l ++ [z]) (1 : Int) = some x := hgL
      have h28 : s28 n x [98, 101, 103, 105, 110] 2 = _ := v28 n x wBegin hf (by omega)
      simp only [s9_l0, hlt, cond_true, cond_false, h0, h1', hgL', Option.bind_some, h28, linesS, lineS]
      cases hE : hasE (spl 32 x) with
      | true => simp only [Bool.not_true, Bool.and_false, Bool.not_false, Bool.true_or, cond_true, fin8]; rfl
      | false =>
        simp only [Bool.not_false, Bool.and_true, cond_false]
        have e1 : ((!(decide (2 ≤ (spl 32 x).length) && (spl 32 x).headD [] == wBegin)) || (((List.length (spl 32 x) : Nat) : Int) != 2)) = !((spl 32 x).headD [] == wBegin && decide ((spl 32 x).length = 2)) := by
          cases (spl 32 x).headD [] == wBegin
          · simp
          · by_cases h2 : (spl 32 x).length = 2
            · simp [h2]
            · have : (((List.length (spl 32 x) : Nat) : Int) != 2) = true := by simp; omega
              simp [h2, this]
        rw [e1]
        cases h1 : ((spl 32 x).headD [] == wBegin && decide ((spl 32 x).length = 2)) with
        | false => simp only [Bool.not_false, cond_true, cond_false, fin8]; rfl
        | true =>
          simp only [Bool.not_true, cond_true, cond_false]
          simp only [Bool.and_eq_true, decide_eq_true_eq] at h1
          rw [get1 (by omega)]
          simp only [Option.bind_some, hw]
          have hls : lineS d 1 (spl 32 x) = some (d.1, (spl 32 x).getD 1 [], d.2.2.1, d.2.2.2) := by
            unfold lineS
            simp only [hE, cond_false]
            rw [show ((spl 32 x).headD [] == wBegin && decide ((spl 32 x).length = 2)) = true from by simp only [Bool.and_eq_true, decide_eq_true_eq]; exact h1]
            rfl
          exact ih (d.1, (spl 32 x).getD 1 [], d.2.2.1, d.2.2.2) (lineS_fit hxm hinv hls)
    | k + 2, hi, hxi, hdr, hg, hlt, hw, hinv, ih, hgL =>
      have h0 : (((k + 2 : Nat) : Int) == 0) = false := by simp; omega
      have h1' : (((k + 2 : Nat) : Int) == 1) = false := by simp; omega
      have h29 := v29 n hf x d.1.length (by omega) (by have := hinv.m; omega)
      simp only [s9_l0, hlt, cond_true, cond_false, h0, h1', hgL, Option.bind_some, linesS]
      have hlc := lineS_class d k (spl 32 x)
      cases hc : lineC d.1.length (spl 32 x) with
      | none =>
        rw [hc] at h29 hlc
        obtain ⟨y, w, h29⟩ := h29
        simp only [h29, Option.bind_some, Bool.not_false, cond_true, hlc, Option.bind_none, fin8, hw]
      | some o =>
        rw [hc] at h29 hlc
        simp only [Option.bind_some] at hlc
        have hle := hinv.le
        have heq := hinv.eq
        have c1 : chk ((clsN d.2.2.1 d.2.2.2).length + ([((spl 32 x).getD 1 [], ((none : Option (List Int)), o.map (·.2)))] : List ClsN).length) = some () := chk_ok (by simp [clsN]; omega)
        have c2 : chk ((toN d.2.2.2).length + ([o.map (·.1)] : List (List Txt)).length) = some () := chk_ok (by simp [toN]; omega)
        simp only [h29, Option.bind_some, Bool.not_true, cond_false, c1, c2, hw, hlc]
        have := ih (d.1, d.2.1, d.2.2.1 ++ [(spl 32 x).getD 1 []], d.2.2.2 ++ [o]) (lineS_fit hxm hinv hlc)
        rw [← this]
        congr 1
        simp only [clsN, toN]
        rw [List.zipWith_append hinv.eq]
        simp
  · intro d hlt hinv again
    simp only [s9_l0, hlt, cond_false, linesS, fin8]

end Go.Abs

set_option linter.unusedSimpArgs false
set_option linter.unusedVariables false
namespace Go.Abs
open Go

theorem idxF_map {α β : Type} (p : β → Bool) (f : α → β) : (l : List α) → (i : Nat) → idxF (fun x => p (f x)) i l = idxF p i (l.map f)
  | [], i => rfl
  | x :: r, i => by simp only [idxF, List.map_cons, idxF_map p f r]

theorem v30 (n : Nat) (hf : Fuel n) (b : Book) (name : Txt) (hl : Lt n b.2.2) : s30 n b name = some (findI (b.2.2.map (·.1)) name) := by
  unfold s30 findI
  rw [← idxF_map]
  refine list_loop0 b.2.2 (fun i => (name, (i : Int), b.1, b.2.1, b.2.2, ())) (fun i r => some (idxF (fun x => name == x.1) i r)) (hf.le hl) ?_ ?_ hl
  · intro i x r hi hx hd hg hlt hw again ih
    simp only [s30_l0, hlt, cond_true, hg, Option.bind_some, hw, ih, idxF]
    rw [show (x.1 == name) = (name == x.1) from by rw [Bool.eq_iff_iff, beq_iff_eq, beq_iff_eq]; exact eq_comm]
    cases name == x.1 <;> rfl
  · intro hlt again
    simp only [s30_l0, hlt, cond_false, idxF]

theorem closeL_names {α β γ : Type} (l : List (α × Option β × γ)) (i : Int) (m : β) : (closeL l i m).map (·.1) = l.map (·.1) := by
  unfold closeL
  split
  · split
    · rename_i x hx
      apply List.ext_getElem?
      intro k
      rw [List.getElem?_map, List.getElem?_map, List.getElem?_set]
      by_cases hk : i.toNat = k
      · subst hk
        simp only [if_true, hx]
        rw [if_pos (List.getElem?_eq_some_iff.1 hx).1]
        rfl
      · simp [hk]
    · rfl
  · rfl

theorem v9_in (n : Nat) (hf : Fuel n) (names : List Txt) (cs : List ClsN) (hn : cs.map (·.1) = names) (hcl : Lt n cs) (i : Nat) {e : ClsN} (hi : cs[i]? = some e) (to : List (List Txt)) {ws : List Txt} (hto : to[i]? = some ws) (hw0 : Lt n ws)
    (miss : Bool) (b : List Txt) (b1 : Int) (k0 : Bool × Int × Int × List Txt × Int × List ClsN × Int × List Int × List (List Txt) × Unit → Option (Book × Int × Int)) :
    loopG (s9_l1_0 n) n (miss, (i : Int), 0, 0, b, b1, cs, (i : Int), [], to, ()) (k0, ()) =
      k0 (miss || ws.any (fun s => decide (findI names s < 0)), (i : Int), 0, b, b1, cs, (i : Int), ws.map (findI names), to, ()) := by
  have hhi := hf.hi
  have hlen : ws.length ≤ 2147483648 := by unfold Lt at hw0; omega
  have hgto : geti to (i : Int) = some ws := by rw [geti_nat]; exact hto
  have hgcs : geti cs (i : Int) = some e := by rw [geti_nat]; exact hi
  have heq : eqI (i : Int) (i : Int) = some () := by simp [eqI]
  refine (list_loop (A := Bool × List Int) ws (fun m a => (a.1, (i : Int), (m : Int), 0, b, b1, cs, (i : Int), a.2, to, ()))
    (fun m a r => k0 (a.1 || r.any (fun s => decide (findI names s < 0)), (i : Int), 0, b, b1, cs, (i : Int), a.2 ++ r.map (findI names), to, ())) (fun m a => a.2.length = m) (hf.le hw0) ?_ ?_ (miss, []) rfl hw0)
  · rintro m ⟨a, o⟩ x r hm hxm hdr hg hlt hw i1 again ih
    dsimp only at i1
    have hb30 := v30 n hf (b, b1, List.map opn (closeL cs (i : Int) o)) x (by
      have := congrArg List.length (closeL_names cs (i : Int) o)
      simp only [List.length_map] at this
      unfold Lt at *
      simp only [List.length_map]
      omega)
    have hnm : (List.map opn (closeL cs (i : Int) o)).map (·.1) = names := by
      rw [List.map_map, ← hn, ← closeL_names cs (i : Int) o]
      rfl
    dsimp only at hb30
    rw [hnm] at hb30
    have c1 : chk (o.length + ([findI names x] : List Int).length) = some () := chk_ok (by simp; omega)
    have hb30' : s30 n (b, (b1, (List.map (fun (y : ClsN) => (y.1, ((Option.getD y.2.1 []), (List.map (fun y => y) y.2.2)))) (closeL cs (i : Int) o)))) x = some (findI names x) := hb30
    simp only [s9_l1_0, hgto, Option.bind_some, hlt, cond_true, hg, hb30', hgcs, heq, c1, hw]
    rw [ih (a || decide (findI names x < 0), o ++ [findI names x]) (by simp; omega)]
    simp [Bool.or_assoc]
  · rintro ⟨a, o⟩ hlt hinv again
    simp only [s9_l1_0, hgto, Option.bind_some, hlt, cond_false, List.any_nil, Bool.or_false, List.map_nil, List.append_nil]

def clo (names : List Txt) (nm : Txt) (o : Stp) : ClsN := (nm, some (o.map fun s => findI names s.1), o.map (·.2))
def clsP (names : List Txt) (steps : List Stp) (i : Nat) : List ClsN := List.zipWith (clo names) (names.take i) (steps.take i) ++ clsN (names.drop i) (steps.drop i)

theorem clsP_at {names : List Txt} {steps : List Stp} {i : Nat} (heq : names.length = steps.length) (hi : i < steps.length) : ∃ l r, clsP names steps i = l ++ (names[i], none, (steps[i]).map (·.2)) :: r ∧ clsP names steps (i + 1) = l ++ clo names names[i] steps[i] :: r ∧ l.length = i := by
  have hi' : i < names.length := by omega
  refine ⟨List.zipWith (clo names) (names.take i) (steps.take i), clsN (names.drop (i + 1)) (steps.drop (i + 1)), ?_, ?_, by simp; omega⟩
  · unfold clsP
    rw [List.drop_eq_getElem_cons hi', List.drop_eq_getElem_cons hi]
    rfl
  · unfold clsP
    rw [List.take_succ_eq_append_getElem hi', List.take_succ_eq_append_getElem hi, List.zipWith_append (by simp; omega)]
    simp

theorem clsP_len {names : List Txt} {steps : List Stp} {i : Nat} (heq : names.length = steps.length) : (clsP names steps i).length = names.length := by
  unfold clsP clsN
  simp only [List.length_append, List.length_zipWith, List.length_take, List.length_drop]
  omega

theorem clsP_names {names : List Txt} {steps : List Stp} {i : Nat} (heq : names.length = steps.length) : (clsP names steps i).map (·.1) = names := by
  have h1 : (names.take i).length = (steps.take i).length := by simp; omega
  have h2 : (names.drop i).length = (steps.drop i).length := by simp; omega
  unfold clsP clsN
  rw [List.map_append]
  have e1 : ∀ (l : List Txt) (m : List Stp), l.length = m.length → (List.zipWith (clo names) l m).map (·.1) = l := by
    intro l
    induction l with
    | nil => intro m _; rfl
    | cons x l ih =>
      intro m hm
      cases m with
      | nil => simp at hm
      | cons o m =>
        have := ih m (by simpa using hm)
        simp only [List.zipWith_cons_cons, List.map_cons, this]
        rfl
  have e2 : ∀ (l : List Txt) (m : List Stp), l.length = m.length → (List.zipWith (fun nm (o : Stp) => ((nm, none, o.map (·.2)) : ClsN)) l m).map (·.1) = l := by
    intro l
    induction l with
    | nil => intro m _; rfl
    | cons x l ih =>
      intro m hm
      cases m with
      | nil => simp at hm
      | cons o m =>
        have := ih m (by simpa using hm)
        simp only [List.zipWith_cons_cons, List.map_cons, this]
  rw [e1 _ _ h1, e2 _ _ h2, List.take_append_drop]
theorem clsP_end (names : List Txt) (steps : List Stp) (heq : names.length = steps.length) : (clsP names steps steps.length).map opn = List.zipWith (clsOf names) names steps := by
  unfold clsP
  rw [List.take_of_length_le (by omega), List.take_length, List.drop_of_length_le (by omega), List.drop_length]
  simp only [clsN, List.zipWith_nil_right, List.append_nil]
  rw [List.map_zipWith]
  congr 1
  funext nm o
  simp [opn, clo, clsOf]

theorem v9_book (n : Nat) (hf : Fuel n) (names : List Txt) (steps : List Stp) (heq : names.length = steps.length) (hl : Lt n names) (hs : ∀ o ∈ steps, Lt n o) (miss : Bool) (b : List Txt) (b1 : Int)
    (k0 : Bool × Int × List Txt × Int × List ClsN × Unit → Option (Book × Int × Int)) :
    loopG (s9_l1 n) n (miss, 0, 0, b, b1, clsN names steps, toN steps, ()) (k0, ()) = k0 (miss || steps.any (missO names), 0, b, b1, clsP names steps steps.length, ()) := by
  have hhi := hf.hi
  have htl : (toN steps).length = steps.length := by simp [toN]
  have hlt' : Lt n (toN steps) := by unfold Lt at *; omega
  refine (list_loop (A := Bool) (toN steps) (fun i a => (a, (i : Int), 0, b, b1, clsP names steps i, toN steps, ()))
    (fun i a r => k0 (a || (steps.drop i).any (missO names), 0, b, b1, clsP names steps steps.length, ())) (fun _ _ => True) (hf.le hlt') ?_ ?_ miss trivial hlt')
  · intro i a x r hi hxi hdr hg hlt hw _ again ih
    have hi2 : i < steps.length := by omega
    obtain ⟨l, r', e1, e2, e3⟩ := clsP_at heq hi2
    have hx : x = (steps[i]).map (·.1) := by
      have := hxi
      simp only [toN, List.getElem?_map, List.getElem?_eq_getElem hi2, Option.map_some, Option.some.injEq] at this
      exact this.symm
    have hat : (clsP names steps i)[i]? = some (names[i]'(by omega), none, (steps[i]).map (·.2)) := by
      rw [e1, List.getElem?_append_right (by omega), e3, Nat.sub_self]; rfl
    have hnil : nilAt (clsP names steps i) (i : Int) = some () := by
      unfold nilAt
      rw [geti_nat, hat]
    simp only [s9_l1, hlt, cond_true, hnil, Option.bind_some]
    rw [v9_in n hf names (clsP names steps i) (clsP_names heq) (by unfold Lt at *; rw [clsP_len heq]; exact hl) i hat (toN steps) hxi (by have := hs _ (List.getElem_mem hi2); unfold Lt at *; rw [hx]; simpa using this)]
    have hcl : closeL (clsP names steps i) (i : Int) (x.map (findI names)) = clsP names steps (i + 1) := by
      unfold closeL
      rw [if_pos (by omega), Int.toNat_natCast, hat]
      dsimp only
      rw [e1, e2, List.set_append_right _ _ (by omega), e3, Nat.sub_self, List.set_cons_zero, hx]
      simp [clo]
    dsimp only
    rw [hcl, hw, ih _ trivial]
    have hany : x.any (fun s => decide (findI names s < 0)) = missO names steps[i] := by
      rw [hx, List.any_map]; rfl
    rw [hany, List.drop_eq_getElem_cons hi2, List.any_cons, Bool.or_assoc]
  · intro a hlt hinv again
    simp only [s9_l1, hlt, cond_false]
    rw [htl, List.drop_length, List.any_nil, Bool.or_false]

/-! The whole text. -/
def d00 : Draft := ([], [], [], [])
def finS (z : Txt) (last : Nat) (d : Draft) : Book × Int × Int :=
  bif (z != []) || decide (last < 3) then (([], 0, []), ((last + 1 : Nat) : Int), 7) else
  bif missD d then (([], 0, []), 0, 6) else
  bif (bookErr (bookD d)).2 != 0 then (([], 0, []), 0, (bookErr (bookD d)).2) else (bookD d, 0, 0)
def parseS (t : Txt) : Book × Int × Int :=
  bif decide (2000 < t.length) then (([], 0, []), 0, 8) else
  match (linesS 0 d00 (spl 10 t).dropLast) with
  | (_, some m) => (([], 0, []), ((m : Nat) : Int), 7)
  | (d, none) => finS ((spl 10 t).getLastD []) (spl 10 t).dropLast.length d

theorem fitD0 (N : Nat) : FitD N d00 0 := { m := by simp [d00], ms := by simp [d00], be := by simp [d00], eq := rfl, le := by simp [d00], ns := by simp [d00], ss := by simp [d00] }

theorem zip_mem {α β γ : Type} (f : α → β → γ) : (l : List α) → (m : List β) → ∀ x ∈ List.zipWith f l m, ∃ a ∈ l, ∃ b ∈ m, x = f a b
  | [], _, x, h => by simp at h
  | _ :: _, [], x, h => by simp at h
  | a :: l, b :: m, x, h => by
    simp only [List.zipWith_cons_cons, List.mem_cons] at h
    rcases h with rfl | h
    · exact ⟨a, by simp, b, by simp, rfl⟩
    · obtain ⟨a', ha, b', hb, e⟩ := zip_mem f l m x h
      exact ⟨a', by simp [ha], b', by simp [hb], e⟩

theorem bookD_fit {n N i : Nat} {d : Draft} (h : FitD N d i) (hN : N < n) (hi : i < n) : fitB n (bookD d) := by
  refine ⟨?_, ?_, ?_, ?_⟩
  · have := h.m; unfold Lt bookD; dsimp only; omega
  · intro s hs; have := h.ms s hs; unfold Lt; omega
  · have := h.le; have := h.eq; unfold Lt bookD; simp only [List.length_zipWith]; omega
  · intro c hc
    obtain ⟨a, ha, o, ho, rfl⟩ := zip_mem _ _ _ c hc
    have h1 := h.ns a ha
    obtain ⟨h2, h3⟩ := h.ss o ho
    refine ⟨?_, ?_, ?_, ?_⟩
    · show a.length < n; omega
    · show (o.map _).length < n; rw [List.length_map]; omega
    · show (o.map _).length < n; rw [List.length_map]; omega
    · intro s hs
      obtain ⟨q, hq, rfl⟩ := List.mem_map.1 hs
      have := (h3 q hq).2
      show q.2.length < n; omega

theorem last_split (c : UInt8) (t : Txt) : (spl c t).dropLast ++ [(spl c t).getLastD []] = spl c t := by
  rw [List.getLastD_eq_getLast?, List.getLast?_eq_some_getLast (spl_ne c t)]
  exact List.dropLast_concat_getLast _

theorem lines_facts {n : Nat} (hf : Fuel n) {t : Txt} (ht : t.length + 3 < n) : Lt n (spl 10 t).dropLast ∧ (spl 10 t).dropLast.length ≤ t.length ∧ ∀ x ∈ (spl 10 t).dropLast, x.length + 1 ≤ t.length + 1 := by
  have h1 := spl_len 10 t
  have h2 := List.count_le_length (a := 10) (l := t)
  refine ⟨by unfold Lt; rw [List.length_dropLast]; omega, by rw [List.length_dropLast]; omega, fun x hx => ?_⟩
  have := spl_mem (c := 10) t x (List.dropLast_subset _ hx)
  omega

theorem v8 (n : Nat) (hf : Fuel n) (t : Txt) (ht : t.length ≤ 2000 → t.length + 3 < n) : s8 n t = some (parseS t) := by
  have hhi := hf.hi
  unfold s8 parseS
  rw [show decide (((List.length t : Nat) : Int) > 2000) = decide (2000 < t.length) from by rw [decide_eq_decide]; omega]
  cases hbig : decide (2000 < t.length) with
  | true => rfl
  | false =>
    simp only [cond_false]
    have ht := ht (by simpa using hbig)
    have h24 : s24 n t [10] = some (spl 10 t) := v24 n t 10 hf (by unfold Lt; omega)
    rw [h24]
    simp only [Option.bind_some]
    have hls := last_split 10 t
    obtain ⟨f1, f2, f3⟩ := lines_facts hf ht
    generalize hl : (spl 10 t).dropLast = l at *
    generalize hz : (spl 10 t).getLastD [] = z at *
    rw [← hls]
    have hlen : l.length ≤ 2147483648 := by unfold Lt at f1; omega
    have hpred : IntKind.wrap .i64 (((List.length (l ++ [z]) : Nat) : Int) - 1) = ((l.length : Nat) : Int) := by
      rw [List.length_append, List.length_singleton, wrap_id (by omega) (by omega)]; simp
    rw [hpred, cut_zero (l ++ [z]) l.length (by simp)]
    simp only [Option.bind_some]
    rw [show (l ++ [z]).take l.length = l from by simp]
    have := v8_loop n hf (l ++ [z]) ((l.length : Nat) : Int) d00 (t.length + 1) (by omega) l f1 f3 (fitD0 _)
    rw [show (d00.1) = [] from rfl, show (d00.2.1) = [] from rfl, show (d00.2.2.1) = [] from rfl, show (d00.2.2.2) = [] from rfl] at this
    rw [this]
    unfold fin8
    cases hL : linesS 0 d00 l with
    | mk d r =>
      cases r with
      | some m => rfl
      | none =>
        dsimp only
        have hfit := linesS_fit l f3 (fitD0 (t.length + 1)) hL
        rw [Nat.zero_add] at hfit
        have hg : geti (l ++ [z]) ((l.length : Nat) : Int) = some z := by rw [geti_nat]; simp
        rw [hg]
        simp only [Option.bind_some]
        unfold finS
        rw [show decide (((l.length : Nat) : Int) < 3) = decide (l.length < 3) from by rw [decide_eq_decide]; omega]
        cases h1 : ((z != []) || decide (l.length < 3)) with
        | true =>
          simp only [cond_true]
          rw [wrap_id (by omega) (by omega)]
          rfl
        | false =>
          simp only [cond_false]
          have hle := hfit.le
          have h26 := v26 n hf d (by unfold Lt; omega) hfit.eq (fun o ho => by have := (hfit.ss o ho).1; unfold Lt; omega)
          have h26' : s26 n (d.1, (d.2.1, (d.2.2.1, d.2.2.2))) = _ := h26
          rw [h26']
          simp only [Option.bind_some, Bool.not_not]
          cases hm : missD d with
          | true => rfl
          | false =>
            simp only [cond_false]
            have h20 : s20 n ((bookD d).1, ((bookD d).2.1, (bookD d).2.2)) = _ := v20 n (bookD d) hf (bookD_fit hfit (by omega) (by omega))
            rw [h20]
            simp only [Option.bind_some]
            cases (bookErr (bookD d)).2 != 0 <;> rfl

theorem v9 (n : Nat) (hf : Fuel n) (t : Txt) (ht : t.length ≤ 2000 → t.length + 3 < n) : s9 n t = some (parseS t) := by
  have hhi := hf.hi
  unfold s9 parseS
  rw [show decide (((List.length t : Nat) : Int) > 2000) = decide (2000 < t.length) from by rw [decide_eq_decide]; omega]
  cases hbig : decide (2000 < t.length) with
  | true => rfl
  | false =>
    simp only [cond_false]
    have ht := ht (by simpa using hbig)
    have h27 : s27 n t 10 = some (spl 10 t) := v27 n t 10 hf (by unfold Lt; omega)
    rw [h27]
    simp only [Option.bind_some]
    have hls := last_split 10 t
    obtain ⟨f1, f2, f3⟩ := lines_facts hf ht
    generalize hl : (spl 10 t).dropLast = l at *
    generalize hz : (spl 10 t).getLastD [] = z at *
    rw [← hls]
    have hlen : l.length ≤ 2147483648 := by unfold Lt at f1; omega
    have hpred : IntKind.wrap .i64 (((List.length (l ++ [z]) : Nat) : Int) - 1) = ((l.length : Nat) : Int) := by
      rw [List.length_append, List.length_singleton, wrap_id (by omega) (by omega)]; simp
    rw [hpred]
    have := v9_loop n hf z d00 (t.length + 1) (by omega) l f1 f3 (fitD0 _)
    rw [show (d00.1) = [] from rfl, show (d00.2.1) = [] from rfl, show clsN (d00.2.2.1) (d00.2.2.2) = [] from rfl, show toN (d00.2.2.2) = [] from rfl] at this
    rw [this]
    unfold fin8
    cases hL : linesS 0 d00 l with
    | mk d r =>
      cases r with
      | some m => rfl
      | none =>
        dsimp only
        have hfit := linesS_fit l f3 (fitD0 (t.length + 1)) hL
        rw [Nat.zero_add] at hfit
        have hg : geti (l ++ [z]) ((l.length : Nat) : Int) = some z := by rw [geti_nat]; simp
        rw [hg]
        simp only [Option.bind_some]
        unfold finS
        rw [show decide (((l.length : Nat) : Int) < 3) = decide (l.length < 3) from by rw [decide_eq_decide]; omega]
        cases h1 : ((z != []) || decide (l.length < 3)) with
        | true =>
          simp only [cond_true]
          rw [wrap_id (by omega) (by omega)]
          rfl
        | false =>
          simp only [cond_false]
          have hle := hfit.le
          have hcl : (List.map opn (clsN d.2.2.1 d.2.2.2)).map (·.1) = d.2.2.1 := by
            have := clsP_names (i := 0) hfit.eq
            unfold clsP at this
            simp only [List.take_zero, List.zipWith_nil_left, List.nil_append, List.drop_zero] at this
            rw [List.map_map]
            exact this
          have hcll : (clsN d.2.2.1 d.2.2.2).length = d.2.2.1.length := by have := congrArg List.length hcl; simpa using this
          have h30 := v30 n hf (d.1, 0, List.map opn (clsN d.2.2.1 d.2.2.2)) d.2.1 (by unfold Lt; rw [List.length_map, hcll]; omega)
          dsimp only at h30
          rw [hcl] at h30
          have h30' : s30 n (d.1, (0, (List.map (fun (y : ClsN) => (y.1, ((Option.getD y.2.1 []), (List.map (fun y => y) y.2.2)))) (clsN d.2.2.1 d.2.2.2)))) d.2.1 = some (findI d.2.2.1 d.2.1) := h30
          rw [h30']
          simp only [Option.bind_some]
          rw [v9_book n hf d.2.2.1 d.2.2.2 hfit.eq (by unfold Lt; omega) (fun o ho => by have := (hfit.ss o ho).1; unfold Lt; omega)]
          dsimp only
          have hend := clsP_end d.2.2.1 d.2.2.2 hfit.eq
          have hbk : (d.1, (findI d.2.2.1 d.2.1, (List.map (fun (y : ClsN) => (y.1, ((Option.getD y.2.1 []), (List.map (fun y => y) y.2.2)))) (clsP d.2.2.1 d.2.2.2 d.2.2.2.length)))) = bookD d := by
            unfold bookD
            rw [← hend]
            rfl
          rw [hbk]
          have hmd : (decide (findI d.2.2.1 d.2.1 < 0) || d.2.2.2.any (missO d.2.2.1)) = missD d := rfl
          rw [hmd]
          cases hm : missD d with
          | true => rfl
          | false =>
            simp only [cond_false]
            rw [v11 n (bookD d) hf (bookD_fit hfit (by omega) (by omega))]
            simp only [Option.bind_some]
            cases (bookErr (bookD d)).2 != 0 <;> rfl

end Go.Abs

set_option linter.unusedSimpArgs false
set_option linter.unusedVariables false
namespace Go.Abs
open Go

/-! What is known of a right rule book. -/
theorem charsOk_no {c : UInt8} (h1 : chOk true c = false) (h2 : chOk false c = false) : (s : Txt) → (i : Nat) → charsOk i s = true → s.count c = 0
  | [], _, _ => rfl
  | x :: r, i, h => by
    simp only [charsOk, Bool.and_eq_true] at h
    rw [List.count_cons, charsOk_no h1 h2 r _ h.2]
    cases hx : x == c
    · rfl
    · have : x = c := by simpa using hx
      subst this
      cases hi : (i == 0) <;> rw [hi] at h <;> simp [h1, h2] at h

structure NameF (s : Txt) : Prop where
  ne : s ≠ []
  len : s.length ≤ 12
  c10 : s.count 10 = 0
  c32 : s.count 32 = 0
  c47 : s.count 47 = 0

theorem nameOk_facts {s : Txt} (h : nameOk s = true) : NameF s := by
  unfold nameOk at h
  simp only [Bool.and_eq_true, decide_eq_true_eq, bne_iff_ne] at h
  exact ⟨h.1.2, h.2, charsOk_no (by decide) (by decide) s 0 h.1.1, charsOk_no (by decide) (by decide) s 0 h.1.1, charsOk_no (by decide) (by decide) s 0 h.1.1⟩

structure RightB (b : Book) : Prop extends GoodB b where
  ms : ∀ s ∈ b.1, NameF s
  ns : ∀ c ∈ b.2.2, NameF c.1
  rs : ∀ c ∈ b.2.2, ∀ r ∈ c.2.2, NameF r
  nd : (b.2.2.map (·.1)).Nodup

theorem nameErr_zero {nm : Txt} {l : List Txt} (h : nameErrS nm l = 0) : nameOk nm = true ∧ nm ∉ l := by
  have := firstErr_zero.1 h
  simp only [List.mem_cons, List.not_mem_nil, or_false, forall_eq_or_imp, forall_eq, unl_zero (show (4 : Int) ≠ 0 by decide), unl_zero (show (5 : Int) ≠ 0 by decide)] at this
  refine ⟨this.1, fun hm => ?_⟩
  have h2 := this.2
  rw [Bool.not_eq_true', List.any_eq_false] at h2
  exact h2 nm hm (by simp)

theorem marksGo_zero : {l pre : List Txt} → marksGo pre l = 0 → ∀ s ∈ l, nameOk s = true
  | [], _, _ => by simp
  | m :: r, pre, h => by
    simp only [marksGo] at h
    cases hm : (nameErrS m pre == 0)
    · rw [hm] at h
      simp only [cond_false] at h
      rw [h] at hm; cases hm
    · rw [hm] at h
      simp only [cond_true] at h
      intro s hs
      rcases List.mem_cons.1 hs with rfl | hs
      · exact (nameErr_zero (by simpa using hm)).1
      · exact marksGo_zero h s hs

theorem clsGo_names {nm nc : Int} : {l : List Cls} → {i : Nat} → {pre : List Txt} → (clsGo nm nc i pre l).2 = 0 → pre.Nodup → (∀ c ∈ l, nameOk c.1 = true ∧ ∀ r ∈ c.2.2, nameOk r = true) ∧ (pre ++ l.map (·.1)).Nodup
  | [], _, pre, _, hp => ⟨by simp, by simpa using hp⟩
  | c :: r, i, pre, h, hp => by
    simp only [clsGo] at h
    cases hc : (clsErr nm nc pre c == 0)
    · rw [hc] at h
      simp only [cond_false] at h
      rw [h] at hc; cases hc
    · rw [hc] at h
      simp only [cond_true] at h
      have hz : clsErr nm nc pre c = 0 := by simpa using hc
      have := firstErr_zero.1 hz
      simp only [List.mem_cons, List.not_mem_nil, or_false, forall_eq_or_imp, forall_eq, unl_zero (show (10 : Int) ≠ 0 by decide), unl_zero (show (6 : Int) ≠ 0 by decide), unl_zero (show (4 : Int) ≠ 0 by decide)] at this
      obtain ⟨h1, _, _, h4⟩ := this
      obtain ⟨n1, n2⟩ := nameErr_zero h1
      rw [Bool.not_eq_true', List.any_eq_false] at h4
      obtain ⟨g1, g2⟩ := clsGo_names h (by rw [List.nodup_append]; exact ⟨hp, by simp, fun x hx y hy => by rw [List.mem_singleton] at hy; subst hy; intro e; subst e; exact n2 hx⟩)
      refine ⟨fun d hd => ?_, by simpa using g2⟩
      rcases List.mem_cons.1 hd with rfl | hd
      · exact ⟨n1, fun r hr => by have := h4 r hr; simpa using this⟩
      · exact g1 d hd

theorem bookErr_right {b : Book} (h : (bookErr b).2 = 0) : RightB b := by
  have hg := bookErr_good h
  unfold bookErr at h
  cases h1 : (sizeErr b == 0)
  · rw [h1] at h
    simp only [cond_false] at h
    rw [h] at h1; cases h1
  · rw [h1] at h
    simp only [cond_true] at h
    cases h2 : (marksGo [] b.1 == 0)
    · rw [h2] at h
      simp only [cond_false] at h
      rw [h] at h2; cases h2
    · rw [h2] at h
      simp only [cond_true] at h
      cases h3 : inR b.2.1 0 ((b.2.2.length : Int) - 1)
      · rw [h3] at h
        simp at h
      · rw [h3] at h
        simp only [cond_true] at h
        obtain ⟨g1, g2⟩ := clsGo_names h List.nodup_nil
        exact { toGoodB := hg, ms := fun s hs => nameOk_facts (marksGo_zero (by simpa using h2) s hs), ns := fun c hc => nameOk_facts (g1 c hc).1, rs := fun c hc r hr => nameOk_facts ((g1 c hc).2 r hr), nd := by simpa using g2 }

/-! The text. -/
def nmAt (cs : List Cls) (k : Int) : Txt := (cs.getD k.toNat ([], [], [])).1
def stepW (cs : List Cls) (k : Int) (r : Txt) : Txt := (nmAt cs k ++ [47]) ++ r
def glue (l : List Txt) : Txt := (l.map fun x => (32 : UInt8) :: x).flatten
def clsLine (cs : List Cls) (c : Cls) : Txt := wClass ++ glue (c.1 :: List.zipWith (stepW cs) c.2.1 c.2.2)
def linesB (b : Book) : List Txt := (wMarks ++ glue b.1) :: (wBegin ++ 32 :: nmAt b.2.2 b.2.1) :: b.2.2.map (clsLine b.2.2)
def ln (l : Txt) : Txt := l ++ [10]
def fm (b : Book) : Txt := ((linesB b).map ln).flatten

theorem flat_len {K : Nat} : (l : List Txt) → (∀ x ∈ l, x.length ≤ K) → l.flatten.length ≤ l.length * K
  | [], _ => by simp
  | x :: r, h => by
    have := flat_len r fun y hy => h y (List.mem_cons_of_mem _ hy)
    have := h x (by simp)
    simp only [List.flatten_cons, List.length_append, List.length_cons, Nat.succ_mul]
    omega

theorem glue_len {K : Nat} (l : List Txt) (h : ∀ x ∈ l, x.length ≤ K) : (glue l).length ≤ l.length * (K + 1) := by
  have := flat_len (K := K + 1) (l.map fun x => (32 : UInt8) :: x) (fun x hx => by
    obtain ⟨y, hy, rfl⟩ := List.mem_map.1 hx
    have := h y hy
    simp; omega)
  simpa [glue] using this

theorem join_glue (x : Txt) (r : List Txt) : Lib.join (x :: r) [32] = x ++ glue r := by
  rw [Lib.join_cons]; rfl

theorem nmAt_get {cs : List Cls} {k : Int} (h : 0 ≤ k ∧ k < (cs.length : Int)) : ∃ c ∈ cs, geti cs k = some c ∧ nmAt cs k = c.1 := by
  have hk : k.toNat < cs.length := by omega
  refine ⟨cs[k.toNat], List.getElem_mem hk, ?_, ?_⟩
  · rw [geti_of h.1 h.2]
  · unfold nmAt
    rw [List.getD_eq_getElem?_getD, List.getElem?_eq_getElem hk]
    rfl

theorem stepW_len {cs : List Cls} (hns : ∀ c ∈ cs, NameF c.1) {k : Int} (h : 0 ≤ k ∧ k < (cs.length : Int)) {r : Txt} (hr : r.length ≤ 12) : (stepW cs k r).length ≤ 25 := by
  obtain ⟨c, hc, _, e⟩ := nmAt_get h
  have := (hns c hc).len
  unfold stepW
  rw [e]
  simp
  omega

theorem steps_len {cs : List Cls} (hns : ∀ c ∈ cs, NameF c.1) : (ks : List Int) → (rs : List Txt) → (∀ k ∈ ks, 0 ≤ k ∧ k < (cs.length : Int)) → (∀ r ∈ rs, r.length ≤ 12) → ∀ x ∈ List.zipWith (stepW cs) ks rs, x.length ≤ 25 := by
  intro ks rs hk hr x hx
  obtain ⟨k, hk', r, hr', rfl⟩ := zip_mem _ _ _ x hx
  exact stepW_len hns (hk k hk') (hr r hr')

theorem clsLine_len {b : Book} (h : RightB b) {c : Cls} (hc : c ∈ b.2.2) : (clsLine b.2.2 c).length ≤ 174 := by
  obtain ⟨n1, n2, n3⟩ := h.next c hc
  have hs := steps_len h.ns c.2.1 c.2.2 n3 (fun r hr => (h.rs c hc r hr).len)
  have h1 := glue_len (K := 25) _ hs
  have h2 := (h.ns c hc).len
  have h3 : (List.zipWith (stepW b.2.2) c.2.1 c.2.2).length = b.1.length := by rw [List.length_zipWith, n1, n2, Nat.min_self]
  have h4 := h.marks.2
  have : glue (c.1 :: List.zipWith (stepW b.2.2) c.2.1 c.2.2) = (32 :: c.1) ++ glue (List.zipWith (stepW b.2.2) c.2.1 c.2.2) := rfl
  unfold clsLine
  rw [this]
  simp only [List.length_append, List.length_cons]
  rw [h3] at h1
  have : wClass.length = 5 := rfl
  omega

theorem fm_len {b : Book} (h : RightB b) : (fm b).length ≤ 1700 := by
  have hm := glue_len (K := 12) b.1 fun s hs => (h.ms s hs).len
  have h4 := h.marks.2
  have h5 := h.classes.2
  obtain ⟨c, hc, _, e⟩ := nmAt_get h.begin'
  have hb := (h.ns c hc).len
  have hcl := flat_len (K := 175) ((b.2.2.map (clsLine b.2.2)).map ln) (fun x hx => by
    obtain ⟨y, hy, rfl⟩ := List.mem_map.1 hx
    obtain ⟨c, hc, rfl⟩ := List.mem_map.1 hy
    have := clsLine_len h hc
    simp [ln]; omega)
  simp only [List.length_map] at hcl
  unfold fm linesB
  simp only [List.map_cons, List.flatten_cons, List.length_append, ln, List.length_cons, List.length_nil, e]
  have h1 : wMarks.length = 5 := rfl
  have h2 : wBegin.length = 5 := rfl
  omega

/-! How FormatBook writes it. -/
theorem v6_in (n : Nat) (hf : Fuel n) (b : Book) (h : RightB b) (c : Cls) (hc : c ∈ b.2.2) (t33 : List Cls) (t34 t35 : Int) (lines : List Txt)
    (k0 : List Cls × Int × Int × List Txt × Int × List Cls × List Txt × List Txt × Unit → Option Txt) :
    loopG (s6_l0_0 n) n (t33, t34, t35, c.2.1, ((c.2.1.length : Nat) : Int), 0, b.1, b.2.1, b.2.2, lines, c.1, c.2.1, c.2.2, [wClass, c.1], ()) (k0, ()) =
      k0 (t33, t34, t35, b.1, b.2.1, b.2.2, lines, [wClass, c.1] ++ List.zipWith (stepW b.2.2) c.2.1 c.2.2, ()) := by
  have hlo := hf.lo
  obtain ⟨n1, n2, n3⟩ := h.next c hc
  have h4 := h.marks.2
  have hl : Lt n c.2.1 := by unfold Lt; omega
  refine (list_loop (A := List Txt) c.2.1 (fun i w => (t33, t34, t35, c.2.1, ((c.2.1.length : Nat) : Int), (i : Int), b.1, b.2.1, b.2.2, lines, c.1, c.2.1, c.2.2, w, ()))
    (fun i w r => k0 (t33, t34, t35, b.1, b.2.1, b.2.2, lines, w ++ List.zipWith (stepW b.2.2) r (c.2.2.drop i), ())) (fun i w => w.length = i + 2) (hf.le hl) ?_ ?_ [wClass, c.1] rfl hl)
  · intro i w x r hi hxi hdr hg hlt hw i1 again ih
    have hi2 : i < c.2.2.length := by omega
    have hx := n3 x (List.mem_of_getElem? hxi)
    obtain ⟨cx, hcx, gx, ex⟩ := nmAt_get hx
    have hcl := (h.ns cx hcx).len
    have hr := (h.rs c hc _ (List.getElem_mem hi2)).len
    have g2 : geti c.2.2 (i : Int) = some c.2.2[i] := by rw [geti_nat, List.getElem?_eq_getElem hi2]
    have c1 : chk (cx.1.length + ([47] : Txt).length) = some () := chk_ok (by simp; omega)
    have c2 : chk ((cx.1 ++ [47]).length + (c.2.2[i]).length) = some () := chk_ok (by simp; omega)
    have c3 : chk (w.length + ([((cx.1 ++ [47]) ++ c.2.2[i])] : List Txt).length) = some () := chk_ok (by simp; omega)
    simp only [s6_l0_0, hlt, cond_true, hg, gx, g2, Option.bind_some, c1, c2, c3, hw]
    rw [ih (w ++ [((cx.1 ++ [47]) ++ c.2.2[i])]) (by simp; omega), List.drop_eq_getElem_cons hi2]
    simp only [List.zipWith_cons_cons, stepW, ex, List.append_assoc, List.singleton_append]
    show (chk (List.length (α := UInt8) cx.1 + List.length (α := UInt8) [47])).bind _ = _
    rw [c1]
    rfl
  · intro w hlt hinv again
    simp only [s6_l0_0, hlt, cond_false]
    simp

theorem cat_lines : (ls : List Txt) → (ls.map ([10] ++ ·)).flatten ++ [10] = [10] ++ (ls.map ln).flatten
  | [] => rfl
  | x :: r => by
    have := cat_lines r
    simp only [List.map_cons, List.flatten_cons, List.append_assoc, ln] at this ⊢
    rw [this]

theorem join_lines (x : Txt) (r : List Txt) : Lib.join (x :: r) [10] ++ [10] = ((x :: r).map ln).flatten := by
  rw [Lib.join_cons]
  show (x ++ (r.map ([10] ++ ·)).flatten) ++ [10] = _
  rw [List.append_assoc, cat_lines]
  simp [ln]

theorem v6_bad (n : Nat) (b : Book) (hf : Fuel n) (hb : fitB n b) (h : (bookErr b).2 ≠ 0) : s6 n b = some [] := by
  unfold s6
  have h20 : s20 n (b.1, (b.2.1, b.2.2)) = _ := v20 n b hf hb
  rw [h20]
  simp only [Option.bind_some]
  rw [show ((bookErr b).2 != 0) = true from by simpa using h]
  rfl

theorem v6 (n : Nat) (b : Book) (hf : Fuel n) (hb : fitB n b) (h : (bookErr b).2 = 0) : s6 n b = some (fm b) := by
  have hR := bookErr_right h
  have hlo := hf.lo
  have h4 := hR.marks.2
  have h5 := hR.classes.2
  unfold s6
  have h20 : s20 n (b.1, (b.2.1, b.2.2)) = _ := v20 n b hf hb
  rw [h20]
  simp only [Option.bind_some]
  rw [show ((bookErr b).2 != 0) = false from by simpa using h]
  simp only [cond_false]
  have c1 : chk (([[109, 97, 114, 107, 115]] : List Txt).length + b.1.length) = some () := chk_ok (by simp; omega)
  rw [c1]
  simp only [Option.bind_some]
  have hm := glue_len (K := 12) b.1 fun s hs => (hR.ms s hs).len
  have hj : s21 n (([[109, 97, 114, 107, 115]] : List Txt) ++ b.1) [32] = some (wMarks ++ glue b.1) := by
    unfold s21
    rw [show (([[109, 97, 114, 107, 115]] : List Txt) ++ b.1) = wMarks :: b.1 from rfl, chk_ok (by simp; omega), Option.bind_some, join_glue, chk_ok (by rw [List.length_append]; have : wMarks.length = 5 := rfl; omega)]
    rfl
  rw [hj]
  simp only [Option.bind_some]
  obtain ⟨cb, hcb, gb, eb⟩ := nmAt_get hR.begin'
  have hcbl := (hR.ns cb hcb).len
  rw [gb]
  simp only [Option.bind_some]
  rw [chk_ok (by simp; omega)]
  simp only [Option.bind_some]
  have hlc : Lt n b.2.2 := hb.2.2.1
  refine (list_loop (A := List Txt) b.2.2 (fun i a => (b.2.2, ((b.2.2.length : Nat) : Int), (i : Int), b.1, b.2.1, b.2.2, a, ()))
    (fun i a r => (s21 n (a ++ r.map (clsLine b.2.2)) [10]).bind fun x => (chk (x.length + 1)).bind fun _ => some (x ++ [10])) (fun i a => a.length = i + 2) (hf.le hlc) ?_ ?_ [wMarks ++ glue b.1, [98, 101, 103, 105, 110, 32] ++ cb.1] rfl hlc).trans ?_
  · intro i a x r hi hxi hdr hg hlt hw i1 again ih
    have hxm := List.mem_of_getElem? hxi
    simp only [s6_l0, hlt, cond_true, hg, Option.bind_some]
    have := v6_in n hf b hR x hxm b.2.2 ((b.2.2.length : Nat) : Int) (i : Int) a
    rw [show ([[99, 108, 97, 115, 115], x.1] : List Txt) = [wClass, x.1] from rfl, this]
    dsimp only
    have hcl := clsLine_len hR hxm
    have hz : (List.zipWith (stepW b.2.2) x.2.1 x.2.2).length ≤ 6 := by rw [List.length_zipWith]; have := (hR.next x hxm).1; omega
    have hjc : s21 n ([wClass, x.1] ++ List.zipWith (stepW b.2.2) x.2.1 x.2.2) [32] = some (clsLine b.2.2 x) := by
      unfold s21
      rw [chk_ok (by simp only [List.length_append, List.length_cons, List.length_nil]; omega), Option.bind_some]
      rw [show ([wClass, x.1] ++ List.zipWith (stepW b.2.2) x.2.1 x.2.2) = wClass :: (x.1 :: List.zipWith (stepW b.2.2) x.2.1 x.2.2) from rfl, join_glue]
      rw [show wClass ++ glue (x.1 :: List.zipWith (stepW b.2.2) x.2.1 x.2.2) = clsLine b.2.2 x from rfl, chk_ok (by omega)]
      rfl
    rw [hjc]
    simp only [Option.bind_some]
    rw [chk_ok (by simp; omega)]
    simp only [Option.bind_some]
    rw [hw, ih (a ++ [clsLine b.2.2 x]) (by simp; omega)]
    simp
  · intro a hlt hinv again
    simp only [s6_l0, hlt, cond_false, List.map_nil, List.append_nil]
    rfl
  · have hlines : ([wMarks ++ glue b.1, [98, 101, 103, 105, 110, 32] ++ cb.1] : List Txt) ++ b.2.2.map (clsLine b.2.2) = linesB b := by
      unfold linesB
      rw [eb]
      rfl
    have hfl := fm_len hR
    have hjl : Lib.join (linesB b) [10] ++ [10] = fm b := join_lines _ _
    have hjn : (Lib.join (linesB b) [10]).length + 1 ≤ 1700 := by
      have := congrArg List.length hjl
      rw [List.length_append] at this
      simp at this
      omega
    rw [hlines]
    unfold s21
    rw [chk_ok (by unfold linesB; simp; omega), Option.bind_some, chk_ok (by omega)]
    simp only [Option.bind_some]
    rw [chk_ok (by omega)]
    simp only [Option.bind_some]
    rw [hjl]

end Go.Abs

set_option linter.unusedSimpArgs false
set_option linter.unusedVariables false
set_option linter.unusedSectionVars false
namespace Go.Abs
open Go

theorem glue_cons (x : Txt) (l : List Txt) : glue (x :: l) = (32 :: x) ++ glue l := rfl

theorem v12_marks (n : Nat) (hf : Fuel n) (b : Book) (h : RightB b) (k0 : Txt × List Txt × Int × List Cls × Unit → Option Txt) :
    loopG (s12_l0 n) n ([109, 97, 114, 107, 115], 0, b.1, b.2.1, b.2.2, ()) (k0, ()) = k0 (wMarks ++ glue b.1, b.1, b.2.1, b.2.2, ()) := by
  have hlo := hf.lo
  have h4 := h.marks.2
  have hl : Lt n b.1 := by unfold Lt; omega
  refine (list_loop (A := Txt) b.1 (fun i t => (t, (i : Int), b.1, b.2.1, b.2.2, ())) (fun i t r => k0 (t ++ glue r, b.1, b.2.1, b.2.2, ())) (fun i t => t.length ≤ 5 + 13 * i) (hf.le hl) ?_ ?_ wMarks (by decide) hl)
  · intro i t x r hi hxi hdr hg hlt hw hinv again ih
    have hx := (h.ms x (List.mem_of_getElem? hxi)).len
    simp only [s12_l0, hlt, cond_true]
    rw [chk_ok (by simp; omega)]
    simp only [Option.bind_some, hg]
    rw [chk_ok (by simp; omega)]
    simp only [Option.bind_some, hw]
    rw [ih ((t ++ [32]) ++ x) (by simp; omega), glue_cons]
    simp
  · intro t hlt hinv again
    simp only [s12_l0, hlt, cond_false]
    simp [glue]

theorem v12_in (n : Nat) (hf : Fuel n) (b : Book) (h : RightB b) (c : Cls) (hc : c ∈ b.2.2) (i : Int) (T : Txt) (hT : T.length ≤ 100000)
    (k0 : Txt × Int × List Txt × Int × List Cls × Unit → Option Txt) :
    loopG (s12_l1_0 n) n (T, i, 0, b.1, b.2.1, b.2.2, c.1, c.2.1, c.2.2, ()) (k0, ()) = k0 (T ++ glue (List.zipWith (stepW b.2.2) c.2.1 c.2.2), i, b.1, b.2.1, b.2.2, ()) := by
  have hlo := hf.lo
  obtain ⟨n1, n2, n3⟩ := h.next c hc
  have h4 := h.marks.2
  have hl : Lt n c.2.1 := by unfold Lt; omega
  refine (list_loop (A := Txt) c.2.1 (fun m t => (t, i, (m : Int), b.1, b.2.1, b.2.2, c.1, c.2.1, c.2.2, ())) (fun m t r => k0 (t ++ glue (List.zipWith (stepW b.2.2) r (c.2.2.drop m)), i, b.1, b.2.1, b.2.2, ())) (fun m t => t.length ≤ T.length + 26 * m) (hf.le hl) ?_ ?_ T (by omega) hl)
  · intro m t x r hi hxi hdr hg hlt hw hinv again ih
    have hi2 : m < c.2.2.length := by omega
    have hx := n3 x (List.mem_of_getElem? hxi)
    obtain ⟨cx, hcx, gx, ex⟩ := nmAt_get hx
    have hcl := (h.ns cx hcx).len
    have hr := (h.rs c hc _ (List.getElem_mem hi2)).len
    have g2 : geti c.2.2 (m : Int) = some c.2.2[m] := by rw [geti_nat, List.getElem?_eq_getElem hi2]
    simp only [s12_l1_0, hlt, cond_true]
    rw [chk_ok (by simp; omega)]
    simp only [Option.bind_some, hg, gx]
    rw [chk_ok (by simp; omega)]
    simp only [Option.bind_some]
    rw [chk_ok (by simp; omega)]
    simp only [Option.bind_some, g2]
    rw [chk_ok (by simp; omega)]
    simp only [Option.bind_some, hw]
    rw [ih ((((t ++ [32]) ++ cx.1) ++ [47]) ++ c.2.2[m]) (by simp; omega), List.drop_eq_getElem_cons hi2]
    simp only [List.zipWith_cons_cons, glue_cons, stepW, ex]
    simp
  · intro t hlt hinv again
    simp only [s12_l1_0, hlt, cond_false]
    simp [glue]

theorem v12 (n : Nat) (hf : Fuel n) (b : Book) (h : RightB b) : s12 n b = some (fm b) := by
  have hlo := hf.lo
  have h4 := h.marks.2
  have h5 := h.classes.2
  unfold s12
  rw [v12_marks n hf b h]
  dsimp only
  have hm := glue_len (K := 12) b.1 fun s hs => (h.ms s hs).len
  have hwm : wMarks.length = 5 := rfl
  obtain ⟨cb, hcb, gb, eb⟩ := nmAt_get h.begin'
  have hcbl := (h.ns cb hcb).len
  rw [chk_ok (by simp; omega)]
  simp only [Option.bind_some]
  rw [gb]
  simp only [Option.bind_some]
  rw [chk_ok (by simp; omega)]
  simp only [Option.bind_some]
  rw [chk_ok (by simp; omega)]
  simp only [Option.bind_some]
  have hlc : Lt n b.2.2 := by unfold Lt; omega
  have hstart : ((((wMarks ++ glue b.1) ++ [10, 98, 101, 103, 105, 110, 32]) ++ cb.1) ++ [10]).length ≤ 200 := by simp; omega
  refine (list_loop (A := Txt) b.2.2 (fun i t => (t, (i : Int), b.1, b.2.1, b.2.2, ())) (fun i t r => some (t ++ ((r.map (clsLine b.2.2)).map ln).flatten)) (fun i t => t.length ≤ 200 + 175 * i) (hf.le hlc) ?_ ?_ _ (by simpa using hstart) hlc).trans ?_
  · intro i t x r hi hxi hdr hg hlt hw hinv again ih
    have hxm := List.mem_of_getElem? hxi
    have hxl := (h.ns x hxm).len
    simp only [s12_l1, hlt, cond_true, hg, Option.bind_some]
    rw [chk_ok (by simp; omega)]
    simp only [Option.bind_some]
    rw [chk_ok (by simp; omega)]
    simp only [Option.bind_some]
    rw [v12_in n hf b h x hxm (i : Int) ((t ++ [99, 108, 97, 115, 115, 32]) ++ x.1) (by simp; omega)]
    dsimp only
    have hcl := clsLine_len h hxm
    have hT : ((t ++ [99, 108, 97, 115, 115, 32]) ++ x.1) ++ glue (List.zipWith (stepW b.2.2) x.2.1 x.2.2) = t ++ clsLine b.2.2 x := by
      unfold clsLine
      rw [glue_cons]
      simp [wClass]
    rw [hT, chk_ok (by simp; omega)]
    simp only [Option.bind_some]
    rw [hw, ih ((t ++ clsLine b.2.2 x) ++ [10]) (by simp; omega)]
    simp [ln]
  · intro t hlt hinv again
    simp only [s12_l1, hlt, cond_false]
    simp
  · unfold fm linesB
    rw [eb]
    simp [ln, wBegin]

/-! It is read back. -/
theorem spl_line {c : UInt8} : (x s : Txt) → x.count c = 0 → spl c (x ++ c :: s) = x :: spl c s
  | [], s, _ => by simp [spl]
  | y :: r, s, h => by
    rw [List.count_cons] at h
    have hy : (y == c) = false := by cases hy : y == c <;> simp [hy] at h ⊢
    have := spl_line (c := c) r s (by omega)
    simp only [List.cons_append, spl, hy, cond_false, this, consH]

theorem spl_flat : (ls : List Txt) → (∀ l ∈ ls, l.count 10 = 0) → spl 10 (ls.map ln).flatten = ls ++ [[]]
  | [], _ => rfl
  | x :: r, h => by
    have := spl_flat r fun l hl => h l (List.mem_cons_of_mem _ hl)
    simp only [List.map_cons, List.flatten_cons, ln, List.append_assoc, List.singleton_append] at this ⊢
    rw [spl_line x _ (h x (by simp)), this]
    rfl

theorem spl_glue : (l : List Txt) → (x : Txt) → x.count 32 = 0 → (∀ y ∈ l, y.count 32 = 0) → spl 32 (x ++ glue l) = x :: l
  | [], x, h, _ => by
    simp only [glue, List.map_nil, List.flatten_nil, List.append_nil]
    exact (spl_none x h).2
  | y :: l, x, h, hl => by
    rw [glue_cons, List.cons_append, spl_line x _ h, spl_glue l y (hl y (by simp)) fun z hz => hl z (List.mem_cons_of_mem _ hz)]

theorem glue_count {c : UInt8} (hc : c ≠ 32) : (l : List Txt) → (∀ y ∈ l, y.count c = 0) → (glue l).count c = 0
  | [], _ => rfl
  | y :: l, h => by
    rw [glue_cons, List.count_append, glue_count hc l fun z hz => h z (List.mem_cons_of_mem _ hz), List.count_cons, h y (by simp)]
    simp [hc.symm]

def stepsC (cs : List Cls) (c : Cls) : Stp := List.zipWith (fun k r => (nmAt cs k, r)) c.2.1 c.2.2

theorem nm_fact {b : Book} (h : RightB b) {k : Int} (hk : 0 ≤ k ∧ k < (b.2.2.length : Int)) : NameF (nmAt b.2.2 k) := by
  obtain ⟨c, hc, _, e⟩ := nmAt_get hk
  rw [e]
  exact h.ns c hc

theorem word_count {b : Book} (h : RightB b) {c : Cls} (hc : c ∈ b.2.2) {d : UInt8} (hd : d ≠ 47) (hn : ∀ s, NameF s → s.count d = 0) : ∀ x ∈ List.zipWith (stepW b.2.2) c.2.1 c.2.2, x.count d = 0 := by
  intro x hx
  obtain ⟨k, hk, r, hr, rfl⟩ := zip_mem _ _ _ x hx
  unfold stepW
  rw [List.count_append, List.count_append, hn _ (nm_fact h ((h.next c hc).2.2 k hk)), hn _ (h.rs c hc r hr), List.count_singleton]
  simp [hd.symm]

theorem lines_count {b : Book} (h : RightB b) : ∀ l ∈ linesB b, l.count 10 = 0 := by
  intro l hl
  simp only [linesB, List.mem_cons, List.mem_map] at hl
  rcases hl with rfl | rfl | ⟨c, hc, rfl⟩
  · rw [List.count_append, glue_count (by decide) _ fun s hs => (h.ms s hs).c10]
    decide
  · rw [List.count_append, List.count_cons, (nm_fact h h.begin').c10]
    decide
  · unfold clsLine
    rw [List.count_append, glue_count (by decide) _ fun s hs => ?_]
    · decide
    · rcases List.mem_cons.1 hs with rfl | hs
      · exact (h.ns c hc).c10
      · exact word_count h hc (by decide) (fun s hs => hs.c10) s hs

theorem stepsOf_steps {b : Book} (h : RightB b) : (ks : List Int) → (rs : List Txt) → (∀ k ∈ ks, 0 ≤ k ∧ k < (b.2.2.length : Int)) → (∀ r ∈ rs, NameF r) → stepsOf (List.zipWith (stepW b.2.2) ks rs) = some (List.zipWith (fun k r => (nmAt b.2.2 k, r)) ks rs)
  | [], _, _, _ => rfl
  | _ :: _, [], _, _ => rfl
  | k :: ks, r :: rs, hk, hr => by
    have ih := stepsOf_steps h ks rs (fun x hx => hk x (List.mem_cons_of_mem _ hx)) (fun x hx => hr x (List.mem_cons_of_mem _ hx))
    have hs : stepOf (stepW b.2.2 k r) = some (nmAt b.2.2 k, r) := by
      rw [stepOf_some]
      unfold stepW
      rw [List.append_assoc, List.singleton_append, spl_line _ _ (nm_fact h (hk k (by simp))).c47, (spl_none r (hr r (by simp)).c47).2]
    simp only [List.zipWith_cons_cons, stepsOf, hs, ih, Option.bind_some]

theorem words_ne {b : Book} (h : RightB b) {c : Cls} (hc : c ∈ b.2.2) : ∀ x ∈ List.zipWith (stepW b.2.2) c.2.1 c.2.2, x ≠ [] := by
  intro x hx
  obtain ⟨k, hk, r, hr, rfl⟩ := zip_mem _ _ _ x hx
  unfold stepW
  simp

theorem lineS_cls {b : Book} (h : RightB b) (nm : Txt) (ns : List Txt) (ss : List Stp) (k : Nat) {c : Cls} (hc : c ∈ b.2.2) :
    lineS (b.1, nm, ns, ss) (k + 2) (spl 32 (clsLine b.2.2 c)) = some (b.1, nm, ns ++ [c.1], ss ++ [stepsC b.2.2 c]) := by
  obtain ⟨n1, n2, n3⟩ := h.next c hc
  have hsp : spl 32 (clsLine b.2.2 c) = wClass :: c.1 :: List.zipWith (stepW b.2.2) c.2.1 c.2.2 := by
    unfold clsLine
    refine spl_glue _ wClass (by decide) fun y hy => ?_
    rcases List.mem_cons.1 hy with rfl | hy
    · exact (h.ns c hc).c32
    · exact word_count h hc (by decide) (fun s hs => hs.c32) y hy
  rw [hsp, lineS_class]
  have hE : hasE (wClass :: c.1 :: List.zipWith (stepW b.2.2) c.2.1 c.2.2) = false := by
    unfold hasE
    rw [List.any_eq_false]
    intro x hx
    simp only [List.mem_cons] at hx
    have : x ≠ [] := by
      rcases hx with rfl | rfl | hx
      · decide
      · exact (h.ns c hc).ne
      · exact words_ne h hc x hx
    exact fun e => this (beq_iff_eq.1 e).symm
  unfold lineC
  rw [hE]
  have hlen : (wClass :: c.1 :: List.zipWith (stepW b.2.2) c.2.1 c.2.2).length = 2 + b.1.length := by
    simp only [List.length_cons, List.length_zipWith, n1, n2, Nat.min_self]; omega
  simp only [cond_false, List.headD_cons, beq_self_eq_true, Bool.true_and, hlen, decide_true, cond_true, List.drop_succ_cons, List.drop_zero]
  rw [stepsOf_steps h _ _ n3 (fun r hr => h.rs c hc r hr)]
  rfl

theorem linesS_cls {b : Book} (h : RightB b) (nm : Txt) : (cs : List Cls) → (∀ c ∈ cs, c ∈ b.2.2) → (k : Nat) → (ns : List Txt) → (ss : List Stp) →
    linesS (k + 2) (b.1, nm, ns, ss) (cs.map (clsLine b.2.2)) = ((b.1, nm, ns ++ cs.map (·.1), ss ++ cs.map (stepsC b.2.2)), none)
  | [], _, k, ns, ss => by simp [linesS]
  | c :: cs, hm, k, ns, ss => by
    have ih := linesS_cls h nm cs (fun x hx => hm x (List.mem_cons_of_mem _ hx)) (k + 1) (ns ++ [c.1]) (ss ++ [stepsC b.2.2 c])
    simp only [List.map_cons, linesS]
    rw [lineS_cls h nm ns ss k (hm c (by simp))]
    dsimp only
    rw [show k + 2 + 1 = k + 1 + 2 from by omega, ih]
    simp

theorem linesS_all {b : Book} (h : RightB b) : linesS 0 d00 (linesB b) = ((b.1, nmAt b.2.2 b.2.1, b.2.2.map (·.1), b.2.2.map (stepsC b.2.2)), none) := by
  have h4 := h.marks
  have hnm := nm_fact h h.begin'
  have hs0 : spl 32 (wMarks ++ glue b.1) = wMarks :: b.1 := spl_glue _ _ (by decide) fun y hy => (h.ms y hy).c32
  have hs1 : spl 32 (wBegin ++ 32 :: nmAt b.2.2 b.2.1) = [wBegin, nmAt b.2.2 b.2.1] := by
    rw [spl_line _ _ (by decide), (spl_none _ hnm.c32).2]
  have hE0 : hasE (wMarks :: b.1) = false := by
    unfold hasE
    rw [List.any_eq_false]
    intro x hx
    have : x ≠ [] := by
      rcases List.mem_cons.1 hx with rfl | hx
      · decide
      · exact (h.ms x hx).ne
    exact fun e => this (beq_iff_eq.1 e).symm
  have hE1 : hasE [wBegin, nmAt b.2.2 b.2.1] = false := by
    unfold hasE
    rw [List.any_eq_false]
    intro x hx
    have : x ≠ [] := by
      simp only [List.mem_cons, List.not_mem_nil, or_false] at hx
      rcases hx with rfl | rfl
      · decide
      · exact hnm.ne
    exact fun e => this (beq_iff_eq.1 e).symm
  have hl0 : lineS d00 0 (wMarks :: b.1) = some (b.1, [], [], []) := by
    unfold lineS
    rw [hE0]
    have : decide (2 ≤ (wMarks :: b.1).length) = true := by simp; omega
    simp only [cond_false, List.headD_cons, beq_self_eq_true, Bool.true_and, this, cond_true, List.tail_cons]
    rfl
  have hl1 : lineS (b.1, [], [], []) 1 [wBegin, nmAt b.2.2 b.2.1] = some (b.1, nmAt b.2.2 b.2.1, [], []) := by
    unfold lineS
    rw [hE1]
    rfl
  unfold linesB
  simp only [linesS, hs0, hl0, hs1, hl1]
  have := linesS_cls h (nmAt b.2.2 b.2.1) b.2.2 (fun c hc => hc) 0 [] []
  simpa using this

theorem findI_go {b : Book} (h : RightB b) (y : Txt) : (l : List Txt) → (off i : Nat) → l.Nodup → l[i]? = some y → idxF (fun x => y == x) off l = ((off + i : Nat) : Int)
  | [], off, i, _, hi => by simp at hi
  | x :: r, off, 0, _, hi => by
    simp at hi
    subst hi
    simp [idxF]
  | x :: r, off, i + 1, hn, hi => by
    have hi' : r[i]? = some y := by simpa using hi
    have hne : (y == x) = false := by
      rw [List.nodup_cons] at hn
      have := List.mem_of_getElem? hi'
      cases hyx : y == x
      · rfl
      · have e : y = x := by simpa using hyx
        subst e
        exact absurd this hn.1
    simp only [idxF, hne, cond_false]
    rw [findI_go h y r (off + 1) i (List.nodup_cons.1 hn).2 hi']
    congr 1
    omega

theorem findI_at {b : Book} (h : RightB b) {k : Int} (hk : 0 ≤ k ∧ k < (b.2.2.length : Int)) : findI (b.2.2.map (·.1)) (nmAt b.2.2 k) = k := by
  have hlt : k.toNat < b.2.2.length := by omega
  unfold findI
  rw [findI_go h (nmAt b.2.2 k) _ 0 k.toNat h.nd (by
    rw [List.getElem?_map, List.getElem?_eq_getElem hlt]
    unfold nmAt
    rw [List.getD_eq_getElem?_getD, List.getElem?_eq_getElem hlt]
    rfl)]
  omega

theorem steps_next {b : Book} (h : RightB b) : (ks : List Int) → (rs : List Txt) → ks.length = rs.length → (∀ k ∈ ks, 0 ≤ k ∧ k < (b.2.2.length : Int)) →
    (List.zipWith (fun k (r : Txt) => (nmAt b.2.2 k, r)) ks rs).map (fun s => findI (b.2.2.map (·.1)) s.1) = ks ∧ (List.zipWith (fun k (r : Txt) => (nmAt b.2.2 k, r)) ks rs).map (·.2) = rs
  | [], [], _, _ => ⟨rfl, rfl⟩
  | [], _ :: _, hl, _ => by simp at hl
  | _ :: _, [], hl, _ => by simp at hl
  | k :: ks, r :: rs, hl, hk => by
    obtain ⟨i1, i2⟩ := steps_next h ks rs (by simpa using hl) fun x hx => hk x (List.mem_cons_of_mem _ hx)
    simp only [List.zipWith_cons_cons, List.map_cons]
    rw [i1, i2, findI_at h (hk k (by simp))]
    exact ⟨rfl, rfl⟩

theorem zip_maps {b : Book} (h : RightB b) {α : Type} (f : Txt → Stp → Cls) (g : α → Txt) (p : α → Stp) (l : List α) : List.zipWith f (l.map g) (l.map p) = l.map fun c => f (g c) (p c) := by
  induction l with
  | nil => rfl
  | cons x r ih => simp [ih]

theorem read_back {b : Book} (h : RightB b) (h0 : (bookErr b).2 = 0) : parseS (fm b) = (b, 0, 0) := by
  have hl := fm_len h
  have hsp : spl 10 (fm b) = linesB b ++ [[]] := spl_flat _ (lines_count h)
  have hcl := h.classes
  unfold parseS
  rw [show decide (2000 < (fm b).length) = false from by simp; omega, hsp]
  simp only [cond_false, List.dropLast_concat]
  rw [linesS_all h]
  dsimp only
  rw [show (linesB b ++ [([] : Txt)]).getLastD ([] : Txt) = ([] : Txt) from by simp]
  unfold finS
  have h3 : decide ((linesB b).length < 3) = false := by unfold linesB; simp; omega
  rw [h3]
  have hbd : bookD (b.1, nmAt b.2.2 b.2.1, b.2.2.map (·.1), b.2.2.map (stepsC b.2.2)) = b := by
    unfold bookD
    dsimp only
    rw [findI_at h h.begin', zip_maps h]
    have : (b.2.2.map fun c => clsOf (b.2.2.map (·.1)) c.1 (stepsC b.2.2 c)) = b.2.2 := by
      conv => rhs; rw [← List.map_id b.2.2]
      refine List.map_congr_left fun c hc => ?_
      obtain ⟨n1, n2, n3⟩ := h.next c hc
      obtain ⟨i1, i2⟩ := steps_next h c.2.1 c.2.2 (by omega) n3
      unfold clsOf stepsC
      rw [i1, i2]
      rfl
    rw [this]
  have hmd : missD (b.1, nmAt b.2.2 b.2.1, b.2.2.map (·.1), b.2.2.map (stepsC b.2.2)) = false := by
    unfold missD
    dsimp only
    rw [findI_at h h.begin']
    have hb := h.begin'
    rw [show decide (b.2.1 < 0) = false from by simp; omega, Bool.false_or, List.any_eq_false]
    intro o ho
    obtain ⟨c, hc, rfl⟩ := List.mem_map.1 ho
    rw [Bool.not_eq_true]
    unfold missO stepsC
    rw [List.any_eq_false]
    intro s hs
    obtain ⟨k, hk, r, hr, rfl⟩ := zip_mem _ _ _ s hs
    have hk' := (h.next c hc).2.2 k hk
    dsimp only
    rw [findI_at h hk']
    simp; omega
  rw [hbd, hmd, h0]
  rfl

end Go.Abs

set_option linter.unusedSimpArgs false
set_option linter.unusedVariables false
namespace Go.Abs
open Go

theorem v10_self (n : Nat) (hf : Fuel n) (b : Book) (hb : fitB n b) : s10 n b b = some true := by
  obtain ⟨h1, h2, h3, h4⟩ := hb
  unfold s10 s31
  have h32 : s32 n (b.1, (b.2.1, b.2.2)).1 (b.1, (b.2.1, b.2.2)).1 = some (b.1 == b.1) := v32 n b.1 b.1 hf h1
  rw [h32]
  simp only [Option.bind_some, beq_self_eq_true, Bool.not_true, bne_self_eq_false, Bool.or_self, cond_false]
  refine (list_loop0 b.2.2 (fun i => ((i : Int), b.1, b.2.1, b.2.2, b.1, b.2.1, b.2.2, ())) (fun _ _ => some true) (hf.le h3) ?_ ?_ h3)
  · intro i x r hi hxi hdr hg hlt hw again ih
    obtain ⟨g1, g2, g3, g4⟩ := h4 x (List.mem_of_getElem? hxi)
    simp only [s10_l0, hlt, cond_true, hg, Option.bind_some, bne_self_eq_false, Bool.not_false, part, v19 n x.2.1 x.2.1 hf g2, v32 n x.2.2 x.2.2 hf g3, beq_self_eq_true, Bool.not_true, Bool.or_self, cond_false, hw, ih]
  · intro hlt again
    simp only [s10_l0, hlt, cond_false]

theorem parse_fit {n : Nat} (hf : Fuel n) (t : Txt) (ht : t.length ≤ 2000 → t.length + 3 < n) : fitB n (parseS t).1 := by
  have h0 : fitB n (([], 0, []) : Book) := by
    have := hf.lo
    refine ⟨by unfold Lt; simp; omega, by simp, by unfold Lt; simp; omega, by simp⟩
  unfold parseS
  cases hbig : decide (2000 < t.length) with
  | true => exact h0
  | false =>
    have ht := ht (by simpa using hbig)
    obtain ⟨f1, f2, f3⟩ := lines_facts hf ht
    simp only [cond_false]
    cases hL : linesS 0 d00 (spl 10 t).dropLast with
    | mk d r =>
      cases r with
      | some m => exact h0
      | none =>
        have hfit := linesS_fit _ f3 (fitD0 (t.length + 1)) hL
        rw [Nat.zero_add] at hfit
        dsimp only
        unfold finS
        cases ((spl 10 t).getLastD [] != []) || decide ((spl 10 t).dropLast.length < 3)
        · simp only [cond_false]
          cases missD d
          · simp only [cond_false]
            cases (bookErr (bookD d)).2 != 0
            · exact bookD_fit hfit (by omega) (by omega)
            · exact h0
          · exact h0
        · exact h0

theorem texts_key (n : Nat) (hf : Fuel n) (ha : s4 n = some true) (b : Book) (t : Txt) (h303 : 303 < n) (h1703 : 1703 < n) : s3 n b t = some true := by
  have hlo := hf.lo
  unfold s3
  rw [ha]
  simp only [Option.bind_some, Bool.not_true, cond_false]
  have h5 : s5 n (b.1, (b.2.1, b.2.2)) = some (fewB b) := v5 n b hf
  rw [h5]
  simp only [Option.bind_some]
  cases hfew : fewB b with
  | false => simp only [Bool.not_false, Bool.true_or, cond_true]
  | true =>
    simp only [Bool.not_true, Bool.false_or]
    cases hlim : ((decide (((List.length t : Nat) : Int) > 300) && decide (((List.length t : Nat) : Int) ≤ 2000)) || decide (((List.length t : Nat) : Int) > 2050)) with
    | true => rfl
    | false =>
      simp only [cond_false]
      have htl : t.length ≤ 2000 → t.length + 3 < n := by
        intro hle
        simp only [Bool.or_eq_false_iff, Bool.and_eq_false_iff, decide_eq_false_iff_not] at hlim
        omega
      obtain ⟨hb, _, _⟩ := few_fit hfew hf
      have h7 : s7 n (b.1, (b.2.1, b.2.2)) = some b := v7 n b hf hb
      rw [h7]
      simp only [Option.bind_some]
      have hpf := parse_fit hf t htl
      have h11 : s11 n (b.1, (b.2.1, b.2.2)) = some (bookErr b).2 := v11 n b hf hb
      have h12 : ∀ h : RightB b, s12 n (b.1, (b.2.1, b.2.2)) = some (fm b) := fun h => v12 n hf b h
      have h10 : s10 n ((parseS t).1.1, ((parseS t).1.2.1, (parseS t).1.2.2)) ((parseS t).1.1, ((parseS t).1.2.1, (parseS t).1.2.2)) = some true := v10_self n hf _ hpf
      by_cases he : (bookErr b).2 = 0
      · have hR := bookErr_right he
        rw [v6 n b hf hb he]
        simp only [Option.bind_some, v8 n hf t htl, v9 n hf t htl, bne_self_eq_false, Bool.or_self, Bool.not_false, part, cond_true, h10, Bool.not_true, cond_false, h11, he]
        have hfl := fm_len hR
        rw [v8 n hf (fm b) (fun _ => by omega), read_back hR he]
        simp only [Option.bind_some]
        rw [h12 hR]
        simp only [Option.bind_some]
        have h10b : s10 n (b.1, (b.2.1, b.2.2)) (b.1, (b.2.1, b.2.2)) = some true := v10_self n hf b hb
        simp only [beq_self_eq_true, Bool.and_self, cond_true, h10b, Option.bind_some]
      · rw [v6_bad n b hf hb he]
        simp only [Option.bind_some, v8 n hf t htl, v9 n hf t htl, bne_self_eq_false, Bool.or_self, Bool.not_false, part, cond_true, h10, Bool.not_true, cond_false, h11]
        rw [show ((bookErr b).2 != 0) = true from by simpa using he]
        rfl

theorem taste_texts (b : Book) (t : Txt) : ∃ n, s3 n b t = some true :=
  ⟨0 + 2000, texts_key (0 + 2000) ⟨by decide, by decide⟩ (awake_ok 0) b t (by decide) (by decide)⟩

end Go.Abs
