/- Parts of one proof, joined: The other functions of the program as plain Lean functions, and that each call does what its function says. Printed by a program of ours. No condition but those that each theorem names. What the small functions compute. Rule books: which are right; walks; classes. Rule books, on: the reference's test, walks, copies. Rule books, on: small ones, copies, the functions of the program. Panels: which are right; counts, marks. Panels: counts, marks, steadiness. Panels: steady tasters; what a panel marks. awake; the reference's test of marks, and its walk; TasteBooks. What a walk's classes say; TasteSheets. How far two tasters agree; TasteAgrees. TasteAgrees, in plain words. Shares: the two tests of a share say the same. -/
import Derived.Test.YtbcbiemjokpghaaM3
set_option linter.unusedVariables false
namespace Go.Abs
open Go


/-- criadera/criaderalaw07.TasteShortest -/
def s3 (n : Nat) (b : (List (List UInt8)) × Int × (List ((List UInt8) × (List Int) × (List (List UInt8))))) (v_class : Int) (marks : List Int) : Option (Bool) :=
  (s15 n).bind fun x =>
  bif (!x) then
    some (false)
  else
    (s16 n (b.1, (b.2.1, b.2.2))).bind fun x_1 =>
    (part (!((!x_1) || (decide (((List.length marks : Nat) : Int) > (12 : Int))))) (s17 n (b.1, (b.2.1, b.2.2))) (0 : Int)).bind fun x_2 =>
    (part (!(((!x_1) || (decide (((List.length marks : Nat) : Int) > (12 : Int)))) || (x_2 != (0 : Int)))) (s18 n (b.1, (b.2.1, b.2.2)) marks) (0 : Int)).bind fun x_3 =>
    (part (!((((!x_1) || (decide (((List.length marks : Nat) : Int) > (12 : Int)))) || (x_2 != (0 : Int))) || (x_3 != (0 : Int)))) (s19 n v_class (0 : Int) (IntKind.wrap .i64 (((List.length b.2.2 : Nat) : Int) - (1 : Int)))) false).bind fun x_4 =>
    bif (((((!x_1) || (decide (((List.length marks : Nat) : Int) > (12 : Int)))) || (x_2 != (0 : Int))) || (x_3 != (0 : Int))) || (!x_4)) then
      some (true)
    else
      (s21 n (b.1, (b.2.1, b.2.2))).bind fun x_5 =>
      (s20 n x_5 v_class).bind fun x_6 =>
      (s22 n (b.1, (b.2.1, b.2.2)) marks).bind fun x_7 =>
      bif (x_6.2 != (0 : Int)) then
        some (((x_6.2 == (12 : Int)) && (!(x_7 == v_class))))
      else
        (s18 n (b.1, (b.2.1, b.2.2)) x_6.1).bind fun x_8 =>
        (part (x_8 == (0 : Int)) (s22 n (b.1, (b.2.1, b.2.2)) x_6.1) (0 : Int)).bind fun x_9 =>
        (part (((x_8 == (0 : Int)) && (x_9 == v_class)) && (x_7 == v_class)) (s23 n marks x_6.1) false).bind fun x_10 =>
        some ((((x_8 == (0 : Int)) && (x_9 == v_class)) && (!((x_7 == v_class) && x_10))))

def s3_c (n : Nat) : Con := ⟨[(.pair (.slice .str) (.pair (.int .i64) (.slice (.pair .str (.pair (.slice (.int .i64)) (.slice .str)))))), (.int .i64), (.slice (.int .i64))], [], [.bool], fun x y => s3 n x.1 x.2.1 x.2.2, false⟩
theorem s3_eq (n : Nat) (x : denL [(.pair (.slice .str) (.pair (.int .i64) (.slice (.pair .str (.pair (.slice (.int .i64)) (.slice .str)))))), (.int .i64), (.slice (.int .i64))]) (y : denL []) : funR (e62 n) Go.Proofs.Try.f3 [(.pair (.slice .str) (.pair (.int .i64) (.slice (.pair .str (.pair (.slice (.int .i64)) (.slice .str)))))), (.int .i64), (.slice (.int .i64))] [] [.bool] false [] x y = (s3_c n).fn x y := by kernel_rfl
theorem s3_ok (n : Nat) : ConOK Go.Proofs.Try.prog 3 (s3_c n) := func_ok (h62 n) hP Go.Proofs.Try.func3 (by kernel_rfl) (by kernel_rfl) (O := []) trivial (s3_eq n)
def e63 (n : Nat) : Env := ⟨gT, (3, s3_c n) :: (e62 n).C, gQ, (e62 n).I⟩
theorem h63 (n : Nat) : EnvOK Go.Proofs.Try.prog (e63 n) := env_add (h62 n) (s3_ok n)

def s24_l0 (n : Nat) (d : Int × Int × Int × (List Int) × (List (List Int)) × Unit) (again : (Int × Int × Int × (List Int) × (List (List Int)) × Unit) → Option (Bool)) (ks : (Unit → Option (Bool)) × (Bool × Unit → Option (Bool)) × Unit) : Option (Bool) :=
  match d, ks with
  | (i, p, p_1, p_2, p_3, _), (k0, k1, _) =>
  bif (decide (i < ((List.length p_3 : Nat) : Int))) then
    (geti p_3 i).bind fun e =>
    bif (decide (((List.length e : Nat) : Int) > (32 : Int))) then
      k1 (false, ())
    else
      again ((IntKind.wrap .i64 (i + (1 : Int))), p, p_1, p_2, p_3, ())
  else
    k0 (())

/-- criadera/criaderalaw07.panel -/
def s24 (n : Nat) (p : Int × Int × (List Int) × (List (List Int))) : Option (Bool) :=
  bif ((decide (((List.length p.2.2.1 : Nat) : Int) > (32 : Int))) || (decide (((List.length p.2.2.2 : Nat) : Int) > (10 : Int)))) then
    some (false)
  else
    loopG (s24_l0 n) n ((0 : Int), p.1, p.2.1, p.2.2.1, p.2.2.2, ())
      (fun (_) =>
        some (true),
      fun (t2, _) =>
        some (t2), ())

def s24_t0 : Templ := ⟨28, [(.int .i64), (.int .i64), (.int .i64), (.slice (.int .i64)), (.slice (.slice (.int .i64)))], [(1, .v (.bptr 28 0)), (3, .v (.hole (.int .i64)))], [(28, .box (.pair (.int .i64) (.pair (.int .i64) (.pair (.slice (.int .i64)) (.slice (.slice (.int .i64)))))) [.hole (.int .i64), .hole (.int .i64), .hole (.slice (.int .i64)), .hole (.slice (.slice (.int .i64)))])], []⟩
def s24_x0 : List (Way × Templ) := [(.exit 0, ⟨28, [], [], [], []⟩), (.ret, ⟨28, [.bool], [(2, .v (.hole .bool))], [], []⟩)]
def s24_o0 (n : Nat) : Ev (denL [.bool]) := loopO n (e63 n) s24_t0 s24_x0 (s24_l0 n)
theorem s24_b0 (n : Nat) (d) (again) (ks) : codeR (R := (denL [.bool])) (e63 n) (Hdl.no (R := (denL [.bool]))) (inn (lp (bd Go.Proofs.Try.f24) 0)) [] (mk s24_t0 d) (turnR (e63 n) s24_t0 s24_x0 again ks) = s24_l0 n d again ks := by kernel_rfl
theorem s24_s0 (n : Nat) : Sound Go.Proofs.Try.prog (Hdl.no (R := (denL [.bool]))) false (lp (bd Go.Proofs.Try.f24) 0) (s24_o0 n) := loop_ok (h63 n) hP (by kernel_rfl) (O := []) trivial (s24_b0 n)
def s24_c (n : Nat) : Con := ⟨[(.pair (.int .i64) (.pair (.int .i64) (.pair (.slice (.int .i64)) (.slice (.slice (.int .i64))))))], [], [.bool], fun x y => s24 n x, false⟩
theorem s24_eq (n : Nat) (x : denL [(.pair (.int .i64) (.pair (.int .i64) (.pair (.slice (.int .i64)) (.slice (.slice (.int .i64))))))]) (y : denL []) : funR (e63 n) Go.Proofs.Try.f24 [(.pair (.int .i64) (.pair (.int .i64) (.pair (.slice (.int .i64)) (.slice (.slice (.int .i64))))))] [] [.bool] false [s24_o0 n] x y = (s24_c n).fn x y := by kernel_rfl
theorem s24_ok (n : Nat) : ConOK Go.Proofs.Try.prog 24 (s24_c n) := func_ok (h63 n) hP Go.Proofs.Try.func24 (by kernel_rfl) (by kernel_rfl) (O := [s24_o0 n]) ⟨s24_s0 n, trivial⟩ (s24_eq n)
def e64 (n : Nat) : Env := ⟨gT, (24, s24_c n) :: (e63 n).C, gQ, (e63 n).I⟩
theorem h64 (n : Nat) : EnvOK Go.Proofs.Try.prog (e64 n) := env_add (h63 n) (s24_ok n)

def s72_l0 (n : Nat) (d : (List (List Int)) × Int × (List (List Int)) × Unit) (again : ((List (List Int)) × Int × (List (List Int)) × Unit) → Option ((List (List Int)))) (ks : ((List (List Int)) × Unit → Option ((List (List Int)))) × Unit) : Option ((List (List Int))) :=
  match d, ks with
  | (l, i, out, _), (k0, _) =>
  bif (decide (i < ((List.length l : Nat) : Int))) then
    (geti l i).bind fun e =>
    (s27 n e).bind fun x =>
    (chk (List.length out + List.length ([x] : List (List Int)))).bind fun u =>
    again (l, (IntKind.wrap .i64 (i + (1 : Int))), (out ++ ([x] : List (List Int))), ())
  else
    k0 (out, ())

/-- criadera/criaderabase.CopyLists -/
def s72 (n : Nat) (l : List (List Int)) : Option ((List (List Int))) :=
  loopG (s72_l0 n) n (l, (0 : Int), ([] : List (List Int)), ())
    (fun (out_1, _) =>
      some out_1, ())

def s72_t0 : Templ := ⟨20, [(.slice (.slice (.int .i64))), (.int .i64), (.slice (.slice (.int .i64)))], [(0, .v (.hole (.slice (.slice (.int .i64))))), (3, .v (.hand 20)), (4, .v (.hole (.int .i64)))], [(20, .buf (.slice (.int .i64)))], []⟩
def s72_x0 : List (Way × Templ) := [(.exit 0, ⟨20, [(.slice (.slice (.int .i64)))], [(3, .v (.hand 20))], [(20, .buf (.slice (.int .i64)))], []⟩)]
def s72_o0 (n : Nat) : Ev (denL [(.slice (.slice (.int .i64)))]) := loopO n (e64 n) s72_t0 s72_x0 (s72_l0 n)
theorem s72_b0 (n : Nat) (d) (again) (ks) : codeR (R := (denL [(.slice (.slice (.int .i64)))])) (e64 n) (Hdl.no (R := (denL [(.slice (.slice (.int .i64)))]))) (inn (lp (bd Go.Proofs.Try.f72) 0)) [] (mk s72_t0 d) (turnR (e64 n) s72_t0 s72_x0 again ks) = s72_l0 n d again ks := by kernel_rfl
theorem s72_s0 (n : Nat) : Sound Go.Proofs.Try.prog (Hdl.no (R := (denL [(.slice (.slice (.int .i64)))]))) false (lp (bd Go.Proofs.Try.f72) 0) (s72_o0 n) := loop_ok (h64 n) hP (by kernel_rfl) (O := []) trivial (s72_b0 n)
def s72_c (n : Nat) : Con := ⟨[(.slice (.slice (.int .i64)))], [], [(.slice (.slice (.int .i64)))], fun x y => s72 n x, true⟩
theorem s72_eq (n : Nat) (x : denL [(.slice (.slice (.int .i64)))]) (y : denL []) : funR (e64 n) Go.Proofs.Try.f72 [(.slice (.slice (.int .i64)))] [] [(.slice (.slice (.int .i64)))] true [s72_o0 n] x y = (s72_c n).fn x y := by kernel_rfl
theorem s72_ok (n : Nat) : ConOK Go.Proofs.Try.prog 72 (s72_c n) := func_ok (h64 n) hP Go.Proofs.Try.func72 (by kernel_rfl) (by kernel_rfl) (O := [s72_o0 n]) ⟨s72_s0 n, trivial⟩ (s72_eq n)
def e65 (n : Nat) : Env := ⟨gT, (72, s72_c n) :: (e64 n).C, gQ, (e64 n).I⟩
theorem h65 (n : Nat) : EnvOK Go.Proofs.Try.prog (e65 n) := env_add (h64 n) (s72_ok n)

/-- criadera/criaderaref07.CopyPanel -/
def s26 (n : Nat) (p : Int × Int × (List Int) × (List (List Int))) : Option ((Int × Int × (List Int) × (List (List Int)))) :=
  (s27 n p.2.2.1).bind fun x =>
  (s72 n p.2.2.2).bind fun x_1 =>
  some (p.1, (p.2.1, (x, x_1)))

def s26_c (n : Nat) : Con := ⟨[(.pair (.int .i64) (.pair (.int .i64) (.pair (.slice (.int .i64)) (.slice (.slice (.int .i64))))))], [], [(.pair (.int .i64) (.pair (.int .i64) (.pair (.slice (.int .i64)) (.slice (.slice (.int .i64))))))], fun x y => s26 n x, true⟩
theorem s26_eq (n : Nat) (x : denL [(.pair (.int .i64) (.pair (.int .i64) (.pair (.slice (.int .i64)) (.slice (.slice (.int .i64))))))]) (y : denL []) : funR (e65 n) Go.Proofs.Try.f26 [(.pair (.int .i64) (.pair (.int .i64) (.pair (.slice (.int .i64)) (.slice (.slice (.int .i64))))))] [] [(.pair (.int .i64) (.pair (.int .i64) (.pair (.slice (.int .i64)) (.slice (.slice (.int .i64))))))] true [] x y = (s26_c n).fn x y := by kernel_rfl
theorem s26_ok (n : Nat) : ConOK Go.Proofs.Try.prog 26 (s26_c n) := func_ok (h65 n) hP Go.Proofs.Try.func26 (by kernel_rfl) (by kernel_rfl) (O := []) trivial (s26_eq n)
def e66 (n : Nat) : Env := ⟨gT, (26, s26_c n) :: (e65 n).C, gQ, (e65 n).I⟩
theorem h66 (n : Nat) : EnvOK Go.Proofs.Try.prog (e66 n) := env_add (h65 n) (s26_ok n)

/-- criadera/taste.CountsOf -/
def s25 (n : Nat) (p : Int × Int × (List Int) × (List (List Int))) (cask : Int) (tasters : List Int) : Option ((List Int) × Int) :=
  (s86 n (p.1, (p.2.1, (p.2.2.1, p.2.2.2))) cask tasters).bind fun x =>
  bif (x.2 != (0 : Int)) then
    some (([] : List Int), x.2)
  else
    (s87 n (x.1.1, (x.1.2.1, (x.1.2.2.1, x.1.2.2.2))) cask tasters).bind fun x_1 =>
    some (x_1, (0 : Int))

def s25_c (n : Nat) : Con := ⟨[(.pair (.int .i64) (.pair (.int .i64) (.pair (.slice (.int .i64)) (.slice (.slice (.int .i64)))))), (.int .i64), (.slice (.int .i64))], [], [(.slice (.int .i64)), (.int .i64)], fun x y => s25 n x.1 x.2.1 x.2.2, false⟩
theorem s25_eq (n : Nat) (x : denL [(.pair (.int .i64) (.pair (.int .i64) (.pair (.slice (.int .i64)) (.slice (.slice (.int .i64)))))), (.int .i64), (.slice (.int .i64))]) (y : denL []) : funR (e66 n) Go.Proofs.Try.f25 [(.pair (.int .i64) (.pair (.int .i64) (.pair (.slice (.int .i64)) (.slice (.slice (.int .i64)))))), (.int .i64), (.slice (.int .i64))] [] [(.slice (.int .i64)), (.int .i64)] false [] x y = (s25_c n).fn x y := by kernel_rfl
theorem s25_ok (n : Nat) : ConOK Go.Proofs.Try.prog 25 (s25_c n) := func_ok (h66 n) hP Go.Proofs.Try.func25 (by kernel_rfl) (by kernel_rfl) (O := []) trivial (s25_eq n)
def e67 (n : Nat) : Env := ⟨gT, (25, s25_c n) :: (e66 n).C, gQ, (e66 n).I⟩
theorem h67 (n : Nat) : EnvOK Go.Proofs.Try.prog (e67 n) := env_add (h66 n) (s25_ok n)

def s52_l0 (n : Nat) (d : Int × Int × Int × (List Int) × (List (List Int)) × Unit) (again : (Int × Int × Int × (List Int) × (List (List Int)) × Unit) → Option (Int × Int)) (ks : (Int × Int × (List Int) × (List (List Int)) × Unit → Option (Int × Int)) × (Int × Int × Unit → Option (Int × Int)) × Unit) : Option (Int × Int) :=
  match d, ks with
  | (i, p, p_1, p_2, p_3, _), (k0, k1, _) =>
  bif (decide (i < ((List.length p_2 : Nat) : Int))) then
    (geti p_2 i).bind fun e =>
    (s19 n e (0 : Int) (IntKind.wrap .i64 (p - (1 : Int)))).bind fun x =>
    bif (!x) then
      k1 ((0 : Int), (6 : Int), ())
    else
      again ((IntKind.wrap .i64 (i + (1 : Int))), p, p_1, p_2, p_3, ())
  else
    k0 (p, p_1, p_2, p_3, ())

def s52_l1_0 (n : Nat) (d : Int × Int × Int × Int × (List Int) × (List (List Int)) × Unit) (again : (Int × Int × Int × Int × (List Int) × (List (List Int)) × Unit) → Option (Int × Int)) (ks : (Int × Int × Int × (List Int) × (List (List Int)) × Unit → Option (Int × Int)) × (Int × Int × Unit → Option (Int × Int)) × Unit) : Option (Int × Int) :=
  match d, ks with
  | (i, v_k, p, p_1, p_2, p_3, _), (k0, k1, _) =>
  (geti p_3 i).bind fun e =>
  bif (decide (v_k < ((List.length e : Nat) : Int))) then
    (geti p_3 i).bind fun e_1 =>
    (geti e_1 v_k).bind fun e_2 =>
    (s19 n e_2 (0 : Int) (IntKind.wrap .i64 (p_1 - (1 : Int)))).bind fun x =>
    bif (!x) then
      k1 (i, (6 : Int), ())
    else
      again (i, (IntKind.wrap .i64 (v_k + (1 : Int))), p, p_1, p_2, p_3, ())
  else
    k0 (i, p, p_1, p_2, p_3, ())

def s52_l1 (n : Nat) (d : Int × Int × Int × (List Int) × (List (List Int)) × Unit) (again : (Int × Int × Int × (List Int) × (List (List Int)) × Unit) → Option (Int × Int)) (ks : (Unit → Option (Int × Int)) × (Int × Int × Unit → Option (Int × Int)) × Unit) : Option (Int × Int) :=
  match d, ks with
  | (i, p, p_1, p_2, p_3, _), (k0, k1, _) =>
  bif (decide (i < ((List.length p_3 : Nat) : Int))) then
    (geti p_3 i).bind fun e =>
    bif (((List.length e : Nat) : Int) != ((List.length p_2 : Nat) : Int)) then
      k1 (i, (10 : Int), ())
    else
      loopG (s52_l1_0 n) n (i, (0 : Int), p, p_1, p_2, p_3, ())
        (fun (i_2, p_8, p_9, p_10, p_11, _) =>
          again ((IntKind.wrap .i64 (i_2 + (1 : Int))), p_8, p_9, p_10, p_11, ()),
        fun (t2, t3, _) =>
          k1 (t2, t3, ()), ())
  else
    k0 (())

/-- criadera/criaderaref07.CheckPanel -/
def s52 (n : Nat) (p : Int × Int × (List Int) × (List (List Int))) : Option (Int × Int) :=
  (s19 n p.1 (1 : Int) (30 : Int)).bind fun x =>
  (part (!(!x)) (s19 n p.2.1 (1 : Int) (6 : Int)) false).bind fun x_1 =>
  bif ((!x) || (!x_1)) then
    some ((0 : Int), (2 : Int))
  else
    bif ((((List.length p.2.2.1 : Nat) : Int) == (0 : Int)) || (((List.length p.2.2.2 : Nat) : Int) == (0 : Int))) then
      some ((0 : Int), (10 : Int))
    else
      bif ((decide (((List.length p.2.2.1 : Nat) : Int) > (30 : Int))) || (decide (((List.length p.2.2.2 : Nat) : Int) > (8 : Int)))) then
        some ((0 : Int), (8 : Int))
      else
        loopG (s52_l0 n) n ((0 : Int), p.1, p.2.1, p.2.2.1, p.2.2.2, ())
          (fun (p_5, p_6, p_7, p_8, _) =>
            loopG (s52_l1 n) n ((0 : Int), p_5, p_6, p_7, p_8, ())
              (fun (_) =>
                some ((0 : Int), (0 : Int)),
              fun (t2_1, t3_1, _) =>
                some (t2_1, t3_1), ()),
          fun (t2_2, t3_2, _) =>
            some (t2_2, t3_2), ())

def s52_t1_0 : Templ := ⟨96, [(.int .i64), (.int .i64), (.int .i64), (.int .i64), (.slice (.int .i64)), (.slice (.slice (.int .i64)))], [(1, .v (.bptr 96 0)), (5, .v (.hole (.int .i64))), (6, .v (.hole (.int .i64)))], [(96, .box (.pair (.int .i64) (.pair (.int .i64) (.pair (.slice (.int .i64)) (.slice (.slice (.int .i64)))))) [.hole (.int .i64), .hole (.int .i64), .hole (.slice (.int .i64)), .hole (.slice (.slice (.int .i64)))])], []⟩
def s52_x1_0 : List (Way × Templ) := [(.exit 4, ⟨96, [(.int .i64), (.int .i64), (.int .i64), (.slice (.int .i64)), (.slice (.slice (.int .i64)))], [(1, .v (.bptr 96 0)), (5, .v (.hole (.int .i64)))], [(96, .box (.pair (.int .i64) (.pair (.int .i64) (.pair (.slice (.int .i64)) (.slice (.slice (.int .i64)))))) [.hole (.int .i64), .hole (.int .i64), .hole (.slice (.int .i64)), .hole (.slice (.slice (.int .i64)))])], []⟩), (.ret, ⟨96, [(.int .i64), (.int .i64)], [(2, .v (.hole (.int .i64))), (3, .v (.hole (.int .i64)))], [], []⟩)]
def s52_o1_0 (n : Nat) : Ev (denL [(.int .i64), (.int .i64)]) := loopO n (e67 n) s52_t1_0 s52_x1_0 (s52_l1_0 n)
theorem s52_b1_0 (n : Nat) (d) (again) (ks) : codeR (R := (denL [(.int .i64), (.int .i64)])) (e67 n) (Hdl.no (R := (denL [(.int .i64), (.int .i64)]))) (inn (lp (inn (lp (bd Go.Proofs.Try.f52) 1)) 0)) [] (mk s52_t1_0 d) (turnR (e67 n) s52_t1_0 s52_x1_0 again ks) = s52_l1_0 n d again ks := by kernel_rfl
theorem s52_s1_0 (n : Nat) : Sound Go.Proofs.Try.prog (Hdl.no (R := (denL [(.int .i64), (.int .i64)]))) false (lp (inn (lp (bd Go.Proofs.Try.f52) 1)) 0) (s52_o1_0 n) := loop_ok (h67 n) hP (by kernel_rfl) (O := []) trivial (s52_b1_0 n)
def s52_t0 : Templ := ⟨96, [(.int .i64), (.int .i64), (.int .i64), (.slice (.int .i64)), (.slice (.slice (.int .i64)))], [(1, .v (.bptr 96 0)), (4, .v (.hole (.int .i64)))], [(96, .box (.pair (.int .i64) (.pair (.int .i64) (.pair (.slice (.int .i64)) (.slice (.slice (.int .i64)))))) [.hole (.int .i64), .hole (.int .i64), .hole (.slice (.int .i64)), .hole (.slice (.slice (.int .i64)))])], []⟩
def s52_x0 : List (Way × Templ) := [(.exit 0, ⟨96, [(.int .i64), (.int .i64), (.slice (.int .i64)), (.slice (.slice (.int .i64)))], [(1, .v (.bptr 96 0))], [(96, .box (.pair (.int .i64) (.pair (.int .i64) (.pair (.slice (.int .i64)) (.slice (.slice (.int .i64)))))) [.hole (.int .i64), .hole (.int .i64), .hole (.slice (.int .i64)), .hole (.slice (.slice (.int .i64)))])], []⟩), (.ret, ⟨96, [(.int .i64), (.int .i64)], [(2, .v (.hole (.int .i64))), (3, .v (.hole (.int .i64)))], [], []⟩)]
def s52_o0 (n : Nat) : Ev (denL [(.int .i64), (.int .i64)]) := loopO n (e67 n) s52_t0 s52_x0 (s52_l0 n)
theorem s52_b0 (n : Nat) (d) (again) (ks) : codeR (R := (denL [(.int .i64), (.int .i64)])) (e67 n) (Hdl.no (R := (denL [(.int .i64), (.int .i64)]))) (inn (lp (bd Go.Proofs.Try.f52) 0)) [] (mk s52_t0 d) (turnR (e67 n) s52_t0 s52_x0 again ks) = s52_l0 n d again ks := by kernel_rfl
theorem s52_s0 (n : Nat) : Sound Go.Proofs.Try.prog (Hdl.no (R := (denL [(.int .i64), (.int .i64)]))) false (lp (bd Go.Proofs.Try.f52) 0) (s52_o0 n) := loop_ok (h67 n) hP (by kernel_rfl) (O := []) trivial (s52_b0 n)
def s52_t1 : Templ := ⟨96, [(.int .i64), (.int .i64), (.int .i64), (.slice (.int .i64)), (.slice (.slice (.int .i64)))], [(1, .v (.bptr 96 0)), (5, .v (.hole (.int .i64)))], [(96, .box (.pair (.int .i64) (.pair (.int .i64) (.pair (.slice (.int .i64)) (.slice (.slice (.int .i64)))))) [.hole (.int .i64), .hole (.int .i64), .hole (.slice (.int .i64)), .hole (.slice (.slice (.int .i64)))])], []⟩
def s52_x1 : List (Way × Templ) := [(.exit 2, ⟨96, [], [], [], []⟩), (.ret, ⟨96, [(.int .i64), (.int .i64)], [(2, .v (.hole (.int .i64))), (3, .v (.hole (.int .i64)))], [], []⟩)]
def s52_o1 (n : Nat) : Ev (denL [(.int .i64), (.int .i64)]) := loopO n (e67 n) s52_t1 s52_x1 (s52_l1 n)
theorem s52_b1 (n : Nat) (d) (again) (ks) : codeR (R := (denL [(.int .i64), (.int .i64)])) (e67 n) (Hdl.no (R := (denL [(.int .i64), (.int .i64)]))) (inn (lp (bd Go.Proofs.Try.f52) 1)) [s52_o1_0 n] (mk s52_t1 d) (turnR (e67 n) s52_t1 s52_x1 again ks) = s52_l1 n d again ks := by kernel_rfl
theorem s52_s1 (n : Nat) : Sound Go.Proofs.Try.prog (Hdl.no (R := (denL [(.int .i64), (.int .i64)]))) false (lp (bd Go.Proofs.Try.f52) 1) (s52_o1 n) := loop_ok (h67 n) hP (by kernel_rfl) (O := [s52_o1_0 n]) ⟨s52_s1_0 n, trivial⟩ (s52_b1 n)
def s52_c (n : Nat) : Con := ⟨[(.pair (.int .i64) (.pair (.int .i64) (.pair (.slice (.int .i64)) (.slice (.slice (.int .i64))))))], [], [(.int .i64), (.int .i64)], fun x y => s52 n x, false⟩
theorem s52_eq (n : Nat) (x : denL [(.pair (.int .i64) (.pair (.int .i64) (.pair (.slice (.int .i64)) (.slice (.slice (.int .i64))))))]) (y : denL []) : funR (e67 n) Go.Proofs.Try.f52 [(.pair (.int .i64) (.pair (.int .i64) (.pair (.slice (.int .i64)) (.slice (.slice (.int .i64))))))] [] [(.int .i64), (.int .i64)] false [s52_o0 n, s52_o1 n] x y = (s52_c n).fn x y := by kernel_rfl
theorem s52_ok (n : Nat) : ConOK Go.Proofs.Try.prog 52 (s52_c n) := func_ok (h67 n) hP Go.Proofs.Try.func52 (by kernel_rfl) (by kernel_rfl) (O := [s52_o0 n, s52_o1 n]) ⟨s52_s0 n, s52_s1 n, trivial⟩ (s52_eq n)
def e68 (n : Nat) : Env := ⟨gT, (52, s52_c n) :: (e67 n).C, gQ, (e67 n).I⟩
theorem h68 (n : Nat) : EnvOK Go.Proofs.Try.prog (e68 n) := env_add (h67 n) (s52_ok n)

/-- criadera/criaderaref07.PanelErr -/
def s29 (n : Nat) (p : Int × Int × (List Int) × (List (List Int))) : Option (Int) :=
  (s52 n (p.1, (p.2.1, (p.2.2.1, p.2.2.2)))).bind fun x =>
  some (x.2)

def s29_c (n : Nat) : Con := ⟨[(.pair (.int .i64) (.pair (.int .i64) (.pair (.slice (.int .i64)) (.slice (.slice (.int .i64))))))], [], [(.int .i64)], fun x y => s29 n x, false⟩
theorem s29_eq (n : Nat) (x : denL [(.pair (.int .i64) (.pair (.int .i64) (.pair (.slice (.int .i64)) (.slice (.slice (.int .i64))))))]) (y : denL []) : funR (e68 n) Go.Proofs.Try.f29 [(.pair (.int .i64) (.pair (.int .i64) (.pair (.slice (.int .i64)) (.slice (.slice (.int .i64))))))] [] [(.int .i64)] false [] x y = (s29_c n).fn x y := by kernel_rfl
theorem s29_ok (n : Nat) : ConOK Go.Proofs.Try.prog 29 (s29_c n) := func_ok (h68 n) hP Go.Proofs.Try.func29 (by kernel_rfl) (by kernel_rfl) (O := []) trivial (s29_eq n)
def e69 (n : Nat) : Env := ⟨gT, (29, s29_c n) :: (e68 n).C, gQ, (e68 n).I⟩
theorem h69 (n : Nat) : EnvOK Go.Proofs.Try.prog (e69 n) := env_add (h68 n) (s29_ok n)

/-- criadera/criaderaref07.NumberErr -/
def s30 (n : Nat) (i : Int) (v_n : Int) : Option (Int) :=
  (s19 n i (0 : Int) (IntKind.wrap .i64 (v_n - (1 : Int)))).bind fun x =>
  bif (!x) then
    some ((6 : Int))
  else
    some ((0 : Int))

def s30_c (n : Nat) : Con := ⟨[(.int .i64), (.int .i64)], [], [(.int .i64)], fun x y => s30 n x.1 x.2, false⟩
theorem s30_eq (n : Nat) (x : denL [(.int .i64), (.int .i64)]) (y : denL []) : funR (e69 n) Go.Proofs.Try.f30 [(.int .i64), (.int .i64)] [] [(.int .i64)] false [] x y = (s30_c n).fn x y := by kernel_rfl
theorem s30_ok (n : Nat) : ConOK Go.Proofs.Try.prog 30 (s30_c n) := func_ok (h69 n) hP Go.Proofs.Try.func30 (by kernel_rfl) (by kernel_rfl) (O := []) trivial (s30_eq n)
def e70 (n : Nat) : Env := ⟨gT, (30, s30_c n) :: (e69 n).C, gQ, (e69 n).I⟩
theorem h70 (n : Nat) : EnvOK Go.Proofs.Try.prog (e70 n) := env_add (h69 n) (s30_ok n)

def s31_l0 (n : Nat) (d : (List Int) × Int × Int × Int × (List Int) × (List (List Int)) × Unit) (again : ((List Int) × Int × Int × Int × (List Int) × (List (List Int)) × Unit) → Option (Int)) (ks : (Unit → Option (Int)) × (Int × Unit → Option (Int)) × Unit) : Option (Int) :=
  match d, ks with
  | (l, i, p, p_1, p_2, p_3, _), (k0, k1, _) =>
  bif (decide (i < ((List.length l : Nat) : Int))) then
    (geti l i).bind fun e =>
    (s30 n e ((List.length p_3 : Nat) : Int)).bind fun x =>
    bif (x != (0 : Int)) then
      k1 (x, ())
    else
      (part (decide (i > (0 : Int))) (geti l i) (0 : Int)).bind fun e_1 =>
      (part (decide (i > (0 : Int))) (geti l (IntKind.wrap .i64 (i - (1 : Int)))) (0 : Int)).bind fun e_2 =>
      bif ((decide (i > (0 : Int))) && (decide (e_1 ≤ e_2))) then
        k1 ((9 : Int), ())
      else
        again (l, (IntKind.wrap .i64 (i + (1 : Int))), p, p_1, p_2, p_3, ())
  else
    k0 (())

/-- criadera/criaderaref07.TastersErr -/
def s31 (n : Nat) (p : Int × Int × (List Int) × (List (List Int))) (l : List Int) : Option (Int) :=
  loopG (s31_l0 n) n (l, (0 : Int), p.1, p.2.1, p.2.2.1, p.2.2.2, ())
    (fun (_) =>
      some ((0 : Int)),
    fun (t4, _) =>
      some (t4), ())

def s31_t0 : Templ := ⟨38, [(.slice (.int .i64)), (.int .i64), (.int .i64), (.int .i64), (.slice (.int .i64)), (.slice (.slice (.int .i64)))], [(1, .v (.hole (.slice (.int .i64)))), (2, .v (.bptr 38 0)), (5, .v (.hole (.int .i64)))], [(38, .box (.pair (.int .i64) (.pair (.int .i64) (.pair (.slice (.int .i64)) (.slice (.slice (.int .i64)))))) [.hole (.int .i64), .hole (.int .i64), .hole (.slice (.int .i64)), .hole (.slice (.slice (.int .i64)))])], []⟩
def s31_x0 : List (Way × Templ) := [(.exit 0, ⟨38, [], [], [], []⟩), (.ret, ⟨38, [(.int .i64)], [(4, .v (.hole (.int .i64)))], [], []⟩)]
def s31_o0 (n : Nat) : Ev (denL [(.int .i64)]) := loopO n (e70 n) s31_t0 s31_x0 (s31_l0 n)
theorem s31_b0 (n : Nat) (d) (again) (ks) : codeR (R := (denL [(.int .i64)])) (e70 n) (Hdl.no (R := (denL [(.int .i64)]))) (inn (lp (bd Go.Proofs.Try.f31) 0)) [] (mk s31_t0 d) (turnR (e70 n) s31_t0 s31_x0 again ks) = s31_l0 n d again ks := by kernel_rfl
theorem s31_s0 (n : Nat) : Sound Go.Proofs.Try.prog (Hdl.no (R := (denL [(.int .i64)]))) false (lp (bd Go.Proofs.Try.f31) 0) (s31_o0 n) := loop_ok (h70 n) hP (by kernel_rfl) (O := []) trivial (s31_b0 n)
def s31_c (n : Nat) : Con := ⟨[(.pair (.int .i64) (.pair (.int .i64) (.pair (.slice (.int .i64)) (.slice (.slice (.int .i64)))))), (.slice (.int .i64))], [], [(.int .i64)], fun x y => s31 n x.1 x.2, false⟩
theorem s31_eq (n : Nat) (x : denL [(.pair (.int .i64) (.pair (.int .i64) (.pair (.slice (.int .i64)) (.slice (.slice (.int .i64)))))), (.slice (.int .i64))]) (y : denL []) : funR (e70 n) Go.Proofs.Try.f31 [(.pair (.int .i64) (.pair (.int .i64) (.pair (.slice (.int .i64)) (.slice (.slice (.int .i64)))))), (.slice (.int .i64))] [] [(.int .i64)] false [s31_o0 n] x y = (s31_c n).fn x y := by kernel_rfl
theorem s31_ok (n : Nat) : ConOK Go.Proofs.Try.prog 31 (s31_c n) := func_ok (h70 n) hP Go.Proofs.Try.func31 (by kernel_rfl) (by kernel_rfl) (O := [s31_o0 n]) ⟨s31_s0 n, trivial⟩ (s31_eq n)
def e71 (n : Nat) : Env := ⟨gT, (31, s31_c n) :: (e70 n).C, gQ, (e70 n).I⟩
theorem h71 (n : Nat) : EnvOK Go.Proofs.Try.prog (e71 n) := env_add (h70 n) (s31_ok n)

def s33_l0_0 (n : Nat) (d : Int × (List Int) × Int × Int × Int × Int × (List Int) × (List (List Int)) × (List Int) × Unit) (again : (Int × (List Int) × Int × Int × Int × Int × (List Int) × (List (List Int)) × (List Int) × Unit) → Option ((List Int))) (ks : (Int × (List Int) × Int × Int × Int × (List Int) × (List (List Int)) × (List Int) × Unit → Option ((List Int))) × Unit) : Option ((List Int)) :=
  match d, ks with
  | (cask, tasters, i, v_k, p, p_1, p_2, p_3, out, _), (k0, _) =>
  (part (decide (v_k < ((List.length tasters : Nat) : Int))) (geti p_2 i) (0 : Int)).bind fun e =>
  bif ((decide (v_k < ((List.length tasters : Nat) : Int))) && (e == cask)) then
    (geti tasters v_k).bind fun e_1 =>
    (geti p_3 e_1).bind fun e_2 =>
    (geti e_2 i).bind fun e_3 =>
    (geti out e_3).bind fun e_4 =>
    (geti out e_3).bind fun x =>
    (geti out e_3).bind fun e_5 =>
    (seti out e_3 (IntKind.wrap .i64 (x + (1 : Int)))).bind fun l =>
    again (cask, tasters, i, (IntKind.wrap .i64 (v_k + (1 : Int))), p, p_1, p_2, p_3, l, ())
  else
    k0 (cask, tasters, i, p, p_1, p_2, p_3, out, ())

def s33_l0 (n : Nat) (d : Int × (List Int) × Int × Int × Int × (List Int) × (List (List Int)) × (List Int) × Unit) (again : (Int × (List Int) × Int × Int × Int × (List Int) × (List (List Int)) × (List Int) × Unit) → Option ((List Int))) (ks : ((List Int) × Unit → Option ((List Int))) × Unit) : Option ((List Int)) :=
  match d, ks with
  | (cask, tasters, i, p, p_1, p_2, p_3, out, _), (k0, _) =>
  bif (decide (i < ((List.length p_2 : Nat) : Int))) then
    loopG (s33_l0_0 n) n (cask, tasters, i, (0 : Int), p, p_1, p_2, p_3, out, ())
      (fun (cask_2, tasters_2, i_2, p_8, p_9, p_10, p_11, out_2, _) =>
        again (cask_2, tasters_2, (IntKind.wrap .i64 (i_2 + (1 : Int))), p_8, p_9, p_10, p_11, out_2, ()), ())
  else
    k0 (out, ())

/-- criadera/criaderaref07.CountsOf -/
def s33 (n : Nat) (p : Int × Int × (List Int) × (List (List Int))) (cask : Int) (tasters : List Int) : Option ((List Int)) :=
  (chki p.2.1).bind fun u =>
  loopG (s33_l0 n) n (cask, tasters, (0 : Int), p.1, p.2.1, p.2.2.1, p.2.2.2, (List.replicate (Int.toNat p.2.1) (0 : Int)), ())
    (fun (out_3, _) =>
      some (out_3), ())

def s33_t0_0 : Templ := ⟨56, [(.int .i64), (.slice (.int .i64)), (.int .i64), (.int .i64), (.int .i64), (.int .i64), (.slice (.int .i64)), (.slice (.slice (.int .i64))), (.slice (.int .i64))], [(1, .v (.hole (.int .i64))), (2, .v (.hole (.slice (.int .i64)))), (3, .v (.bptr 56 0)), (7, .v (.hand 57)), (8, .v (.hole (.int .i64))), (9, .v (.hole (.int .i64)))], [(56, .box (.pair (.int .i64) (.pair (.int .i64) (.pair (.slice (.int .i64)) (.slice (.slice (.int .i64)))))) [.hole (.int .i64), .hole (.int .i64), .hole (.slice (.int .i64)), .hole (.slice (.slice (.int .i64)))]), (57, .buf (.int .i64))], []⟩
def s33_x0_0 : List (Way × Templ) := [(.exit 2, ⟨56, [(.int .i64), (.slice (.int .i64)), (.int .i64), (.int .i64), (.int .i64), (.slice (.int .i64)), (.slice (.slice (.int .i64))), (.slice (.int .i64))], [(1, .v (.hole (.int .i64))), (2, .v (.hole (.slice (.int .i64)))), (3, .v (.bptr 56 0)), (7, .v (.hand 57)), (8, .v (.hole (.int .i64)))], [(56, .box (.pair (.int .i64) (.pair (.int .i64) (.pair (.slice (.int .i64)) (.slice (.slice (.int .i64)))))) [.hole (.int .i64), .hole (.int .i64), .hole (.slice (.int .i64)), .hole (.slice (.slice (.int .i64)))]), (57, .buf (.int .i64))], []⟩)]
def s33_o0_0 (n : Nat) : Ev (denL [(.slice (.int .i64))]) := loopO n (e71 n) s33_t0_0 s33_x0_0 (s33_l0_0 n)
theorem s33_b0_0 (n : Nat) (d) (again) (ks) : codeR (R := (denL [(.slice (.int .i64))])) (e71 n) (Hdl.no (R := (denL [(.slice (.int .i64))]))) (inn (lp (inn (lp (bd Go.Proofs.Try.f33) 0)) 0)) [] (mk s33_t0_0 d) (turnR (e71 n) s33_t0_0 s33_x0_0 again ks) = s33_l0_0 n d again ks := by kernel_rfl
theorem s33_s0_0 (n : Nat) : Sound Go.Proofs.Try.prog (Hdl.no (R := (denL [(.slice (.int .i64))]))) false (lp (inn (lp (bd Go.Proofs.Try.f33) 0)) 0) (s33_o0_0 n) := loop_ok (h71 n) hP (by kernel_rfl) (O := []) trivial (s33_b0_0 n)
def s33_t0 : Templ := ⟨56, [(.int .i64), (.slice (.int .i64)), (.int .i64), (.int .i64), (.int .i64), (.slice (.int .i64)), (.slice (.slice (.int .i64))), (.slice (.int .i64))], [(1, .v (.hole (.int .i64))), (2, .v (.hole (.slice (.int .i64)))), (3, .v (.bptr 56 0)), (7, .v (.hand 57)), (8, .v (.hole (.int .i64)))], [(56, .box (.pair (.int .i64) (.pair (.int .i64) (.pair (.slice (.int .i64)) (.slice (.slice (.int .i64)))))) [.hole (.int .i64), .hole (.int .i64), .hole (.slice (.int .i64)), .hole (.slice (.slice (.int .i64)))]), (57, .buf (.int .i64))], []⟩
def s33_x0 : List (Way × Templ) := [(.exit 0, ⟨56, [(.slice (.int .i64))], [(7, .v (.hand 56))], [(56, .buf (.int .i64))], []⟩)]
def s33_o0 (n : Nat) : Ev (denL [(.slice (.int .i64))]) := loopO n (e71 n) s33_t0 s33_x0 (s33_l0 n)
theorem s33_b0 (n : Nat) (d) (again) (ks) : codeR (R := (denL [(.slice (.int .i64))])) (e71 n) (Hdl.no (R := (denL [(.slice (.int .i64))]))) (inn (lp (bd Go.Proofs.Try.f33) 0)) [s33_o0_0 n] (mk s33_t0 d) (turnR (e71 n) s33_t0 s33_x0 again ks) = s33_l0 n d again ks := by kernel_rfl
theorem s33_s0 (n : Nat) : Sound Go.Proofs.Try.prog (Hdl.no (R := (denL [(.slice (.int .i64))]))) false (lp (bd Go.Proofs.Try.f33) 0) (s33_o0 n) := loop_ok (h71 n) hP (by kernel_rfl) (O := [s33_o0_0 n]) ⟨s33_s0_0 n, trivial⟩ (s33_b0 n)
def s33_c (n : Nat) : Con := ⟨[(.pair (.int .i64) (.pair (.int .i64) (.pair (.slice (.int .i64)) (.slice (.slice (.int .i64)))))), (.int .i64), (.slice (.int .i64))], [], [(.slice (.int .i64))], fun x y => s33 n x.1 x.2.1 x.2.2, false⟩
theorem s33_eq (n : Nat) (x : denL [(.pair (.int .i64) (.pair (.int .i64) (.pair (.slice (.int .i64)) (.slice (.slice (.int .i64)))))), (.int .i64), (.slice (.int .i64))]) (y : denL []) : funR (e71 n) Go.Proofs.Try.f33 [(.pair (.int .i64) (.pair (.int .i64) (.pair (.slice (.int .i64)) (.slice (.slice (.int .i64)))))), (.int .i64), (.slice (.int .i64))] [] [(.slice (.int .i64))] false [s33_o0 n] x y = (s33_c n).fn x y := by kernel_rfl
theorem s33_ok (n : Nat) : ConOK Go.Proofs.Try.prog 33 (s33_c n) := func_ok (h71 n) hP Go.Proofs.Try.func33 (by kernel_rfl) (by kernel_rfl) (O := [s33_o0 n]) ⟨s33_s0 n, trivial⟩ (s33_eq n)
def e72 (n : Nat) : Env := ⟨gT, (33, s33_c n) :: (e71 n).C, gQ, (e71 n).I⟩
theorem h72 (n : Nat) : EnvOK Go.Proofs.Try.prog (e72 n) := env_add (h71 n) (s33_ok n)

def s34_l0 (n : Nat) (d : (List Int) × Int × Bool × Int × Unit) (again : ((List Int) × Int × Bool × Int × Unit) → Option (Int)) (ks : ((List Int) × Int × Bool × Unit → Option (Int)) × Unit) : Option (Int) :=
  match d, ks with
  | (l, best, twice, m, _), (k0, _) =>
  bif (decide (m < ((List.length l : Nat) : Int))) then
    (geti l m).bind fun e =>
    (geti l best).bind fun e_1 =>
    bif (e == e_1) then
      (geti l m).bind fun e_2 =>
      (geti l best).bind fun e_3 =>
      bif (decide (e_2 > e_3)) then
        again (l, m, false, (IntKind.wrap .i64 (m + (1 : Int))), ())
      else
        again (l, best, true, (IntKind.wrap .i64 (m + (1 : Int))), ())
    else
      (geti l m).bind fun e_4 =>
      (geti l best).bind fun e_5 =>
      bif (decide (e_4 > e_5)) then
        again (l, m, false, (IntKind.wrap .i64 (m + (1 : Int))), ())
      else
        again (l, best, twice, (IntKind.wrap .i64 (m + (1 : Int))), ())
  else
    k0 (l, best, twice, ())

/-- criadera/criaderaref07.MarkOf -/
def s34 (n : Nat) (p : Int × Int × (List Int) × (List (List Int))) (cask : Int) (tasters : List Int) : Option (Int) :=
  (s33 n (p.1, (p.2.1, (p.2.2.1, p.2.2.2))) cask tasters).bind fun x =>
  loopG (s34_l0 n) n (x, (0 : Int), false, (1 : Int), ())
    (fun (l_1, best_1, twice_1, _) =>
      (part (!twice_1) (geti l_1 best_1) (0 : Int)).bind fun e_6 =>
      bif (twice_1 || (e_6 == (0 : Int))) then
        some ((-1 : Int))
      else
        some (best_1), ())

def s34_t0 : Templ := ⟨49, [(.slice (.int .i64)), (.int .i64), .bool, (.int .i64)], [(7, .v (.hole (.slice (.int .i64)))), (8, .v (.hole (.int .i64))), (9, .v (.hole .bool)), (10, .v (.hole (.int .i64)))], [], []⟩
def s34_x0 : List (Way × Templ) := [(.exit 0, ⟨49, [(.slice (.int .i64)), (.int .i64), .bool], [(7, .v (.hole (.slice (.int .i64)))), (8, .v (.hole (.int .i64))), (9, .v (.hole .bool))], [], []⟩)]
def s34_o0 (n : Nat) : Ev (denL [(.int .i64)]) := loopO n (e72 n) s34_t0 s34_x0 (s34_l0 n)
theorem s34_b0 (n : Nat) (d) (again) (ks) : codeR (R := (denL [(.int .i64)])) (e72 n) (Hdl.no (R := (denL [(.int .i64)]))) (inn (lp (bd Go.Proofs.Try.f34) 0)) [] (mk s34_t0 d) (turnR (e72 n) s34_t0 s34_x0 again ks) = s34_l0 n d again ks := by kernel_rfl
theorem s34_s0 (n : Nat) : Sound Go.Proofs.Try.prog (Hdl.no (R := (denL [(.int .i64)]))) false (lp (bd Go.Proofs.Try.f34) 0) (s34_o0 n) := loop_ok (h72 n) hP (by kernel_rfl) (O := []) trivial (s34_b0 n)
def s34_c (n : Nat) : Con := ⟨[(.pair (.int .i64) (.pair (.int .i64) (.pair (.slice (.int .i64)) (.slice (.slice (.int .i64)))))), (.int .i64), (.slice (.int .i64))], [], [(.int .i64)], fun x y => s34 n x.1 x.2.1 x.2.2, false⟩
theorem s34_eq (n : Nat) (x : denL [(.pair (.int .i64) (.pair (.int .i64) (.pair (.slice (.int .i64)) (.slice (.slice (.int .i64)))))), (.int .i64), (.slice (.int .i64))]) (y : denL []) : funR (e72 n) Go.Proofs.Try.f34 [(.pair (.int .i64) (.pair (.int .i64) (.pair (.slice (.int .i64)) (.slice (.slice (.int .i64)))))), (.int .i64), (.slice (.int .i64))] [] [(.int .i64)] false [s34_o0 n] x y = (s34_c n).fn x y := by kernel_rfl
theorem s34_ok (n : Nat) : ConOK Go.Proofs.Try.prog 34 (s34_c n) := func_ok (h72 n) hP Go.Proofs.Try.func34 (by kernel_rfl) (by kernel_rfl) (O := [s34_o0 n]) ⟨s34_s0 n, trivial⟩ (s34_eq n)
def e73 (n : Nat) : Env := ⟨gT, (34, s34_c n) :: (e72 n).C, gQ, (e72 n).I⟩
theorem h73 (n : Nat) : EnvOK Go.Proofs.Try.prog (e73 n) := env_add (h72 n) (s34_ok n)

/-- criadera/criaderalaw07.TasteMarks -/
def s4 (n : Nat) (p : Int × Int × (List Int) × (List (List Int))) (cask : Int) (tasters : List Int) : Option (Bool) :=
  (s15 n).bind fun x =>
  bif (!x) then
    some (false)
  else
    (s24 n (p.1, (p.2.1, (p.2.2.1, p.2.2.2)))).bind fun x_1 =>
    bif ((!x_1) || (decide (((List.length tasters : Nat) : Int) > (10 : Int)))) then
      some (true)
    else
      (s26 n (p.1, (p.2.1, (p.2.2.1, p.2.2.2)))).bind fun x_2 =>
      (s27 n tasters).bind fun x_3 =>
      (s25 n (x_2.1, (x_2.2.1, (x_2.2.2.1, x_2.2.2.2))) cask x_3).bind fun x_4 =>
      (s26 n (p.1, (p.2.1, (p.2.2.1, p.2.2.2)))).bind fun x_5 =>
      (s27 n tasters).bind fun x_6 =>
      (s28 n (x_5.1, (x_5.2.1, (x_5.2.2.1, x_5.2.2.2))) cask x_6).bind fun x_7 =>
      (s29 n (p.1, (p.2.1, (p.2.2.1, p.2.2.2)))).bind fun x_8 =>
      bif (x_8 == (0 : Int)) then
        (s30 n cask p.1).bind fun x_9 =>
        bif (x_9 == (0 : Int)) then
          (s31 n (p.1, (p.2.1, (p.2.2.1, p.2.2.2))) tasters).bind fun x_10 =>
          bif (x_10 != (0 : Int)) then
            some (((((x_4.2 == x_10) && (x_7.2 == x_10)) && (((List.length x_4.1 : Nat) : Int) == (0 : Int))) && (x_7.1 == (0 : Int))))
          else
            (part (!(x_4.2 != (0 : Int))) (s33 n (p.1, (p.2.1, (p.2.2.1, p.2.2.2))) cask tasters) []).bind fun x_11 =>
            (part (!(x_4.2 != (0 : Int))) (s32 n x_4.1 x_11) false).bind fun x_12 =>
            bif ((x_4.2 != (0 : Int)) || (!x_12)) then
              some (false)
            else
              (s34 n (p.1, (p.2.1, (p.2.2.1, p.2.2.2))) cask tasters).bind fun x_13 =>
              some (((((decide (x_13 ≥ (0 : Int))) && (x_7.2 == (0 : Int))) && (x_7.1 == x_13)) || (((decide (x_13 < (0 : Int))) && (x_7.2 == (12 : Int))) && (x_7.1 == (0 : Int)))))
        else
          bif (x_9 != (0 : Int)) then
            some (((((x_4.2 == x_9) && (x_7.2 == x_9)) && (((List.length x_4.1 : Nat) : Int) == (0 : Int))) && (x_7.1 == (0 : Int))))
          else
            (part (!(x_4.2 != (0 : Int))) (s33 n (p.1, (p.2.1, (p.2.2.1, p.2.2.2))) cask tasters) []).bind fun x_14 =>
            (part (!(x_4.2 != (0 : Int))) (s32 n x_4.1 x_14) false).bind fun x_15 =>
            bif ((x_4.2 != (0 : Int)) || (!x_15)) then
              some (false)
            else
              (s34 n (p.1, (p.2.1, (p.2.2.1, p.2.2.2))) cask tasters).bind fun x_16 =>
              some (((((decide (x_16 ≥ (0 : Int))) && (x_7.2 == (0 : Int))) && (x_7.1 == x_16)) || (((decide (x_16 < (0 : Int))) && (x_7.2 == (12 : Int))) && (x_7.1 == (0 : Int)))))
      else
        bif (x_8 == (0 : Int)) then
          (s31 n (p.1, (p.2.1, (p.2.2.1, p.2.2.2))) tasters).bind fun x_17 =>
          bif (x_17 != (0 : Int)) then
            some (((((x_4.2 == x_17) && (x_7.2 == x_17)) && (((List.length x_4.1 : Nat) : Int) == (0 : Int))) && (x_7.1 == (0 : Int))))
          else
            (part (!(x_4.2 != (0 : Int))) (s33 n (p.1, (p.2.1, (p.2.2.1, p.2.2.2))) cask tasters) []).bind fun x_18 =>
            (part (!(x_4.2 != (0 : Int))) (s32 n x_4.1 x_18) false).bind fun x_19 =>
            bif ((x_4.2 != (0 : Int)) || (!x_19)) then
              some (false)
            else
              (s34 n (p.1, (p.2.1, (p.2.2.1, p.2.2.2))) cask tasters).bind fun x_20 =>
              some (((((decide (x_20 ≥ (0 : Int))) && (x_7.2 == (0 : Int))) && (x_7.1 == x_20)) || (((decide (x_20 < (0 : Int))) && (x_7.2 == (12 : Int))) && (x_7.1 == (0 : Int)))))
        else
          bif (x_8 != (0 : Int)) then
            some (((((x_4.2 == x_8) && (x_7.2 == x_8)) && (((List.length x_4.1 : Nat) : Int) == (0 : Int))) && (x_7.1 == (0 : Int))))
          else
            (part (!(x_4.2 != (0 : Int))) (s33 n (p.1, (p.2.1, (p.2.2.1, p.2.2.2))) cask tasters) []).bind fun x_21 =>
            (part (!(x_4.2 != (0 : Int))) (s32 n x_4.1 x_21) false).bind fun x_22 =>
            bif ((x_4.2 != (0 : Int)) || (!x_22)) then
              some (false)
            else
              (s34 n (p.1, (p.2.1, (p.2.2.1, p.2.2.2))) cask tasters).bind fun x_23 =>
              some (((((decide (x_23 ≥ (0 : Int))) && (x_7.2 == (0 : Int))) && (x_7.1 == x_23)) || (((decide (x_23 < (0 : Int))) && (x_7.2 == (12 : Int))) && (x_7.1 == (0 : Int)))))

def s4_c (n : Nat) : Con := ⟨[(.pair (.int .i64) (.pair (.int .i64) (.pair (.slice (.int .i64)) (.slice (.slice (.int .i64)))))), (.int .i64), (.slice (.int .i64))], [], [.bool], fun x y => s4 n x.1 x.2.1 x.2.2, false⟩
theorem s4_eq (n : Nat) (x : denL [(.pair (.int .i64) (.pair (.int .i64) (.pair (.slice (.int .i64)) (.slice (.slice (.int .i64)))))), (.int .i64), (.slice (.int .i64))]) (y : denL []) : funR (e73 n) Go.Proofs.Try.f4 [(.pair (.int .i64) (.pair (.int .i64) (.pair (.slice (.int .i64)) (.slice (.slice (.int .i64)))))), (.int .i64), (.slice (.int .i64))] [] [.bool] false [] x y = (s4_c n).fn x y := by kernel_rfl
theorem s4_ok (n : Nat) : ConOK Go.Proofs.Try.prog 4 (s4_c n) := func_ok (h73 n) hP Go.Proofs.Try.func4 (by kernel_rfl) (by kernel_rfl) (O := []) trivial (s4_eq n)
def e74 (n : Nat) : Env := ⟨gT, (4, s4_c n) :: (e73 n).C, gQ, (e73 n).I⟩
theorem h74 (n : Nat) : EnvOK Go.Proofs.Try.prog (e74 n) := env_add (h73 n) (s4_ok n)

def s5_l0 (n : Nat) (d : Int × Int × Int × Int × Int × (List Int) × (List (List Int)) × Int × Int × (List Int) × Unit) (again : (Int × Int × Int × Int × Int × (List Int) × (List (List Int)) × Int × Int × (List Int) × Unit) → Option (Bool)) (ks : (Int × Int × Int × Int × (List Int) × (List (List Int)) × Int × Int × (List Int) × Unit → Option (Bool)) × Unit) : Option (Bool) :=
  match d, ks with
  | (cask, glasses, i, p, p_1, p_2, p_3, back, back_1, back_2, _), (k0, _) =>
  bif (decide (i ≥ (0 : Int))) then
    (geti p_2 i).bind fun e =>
    (chk (List.length back_2 + List.length ([e] : List Int))).bind fun u =>
    (geti p_2 i).bind fun e_1 =>
    bif (e_1 == cask) then
      again (cask, (IntKind.wrap .i64 (glasses + (1 : Int))), (IntKind.wrap .i64 (i - (1 : Int))), p, p_1, p_2, p_3, back, back_1, (back_2 ++ ([e] : List Int)), ())
    else
      again (cask, glasses, (IntKind.wrap .i64 (i - (1 : Int))), p, p_1, p_2, p_3, back, back_1, (back_2 ++ ([e] : List Int)), ())
  else
    k0 (cask, glasses, p, p_1, p_2, p_3, back, back_1, back_2, ())

def s5_l1_0 (n : Nat) (d : Int × Int × Int × Int × Int × Int × (List Int) × (List (List Int)) × Int × Int × (List Int) × (List (List Int)) × (List Int) × (List Int) × (List Int) × Unit) (again : (Int × Int × Int × Int × Int × Int × (List Int) × (List (List Int)) × Int × Int × (List Int) × (List (List Int)) × (List Int) × (List Int) × (List Int) × Unit) → Option (Bool)) (ks : (Int × Int × Int × Int × Int × (List Int) × (List (List Int)) × Int × Int × (List Int) × (List (List Int)) × (List Int) × (List Int) × (List Int) × Unit → Option (Bool)) × Unit) : Option (Bool) :=
  match d, ks with
  | (cask, glasses, i, v_k, p, p_1, p_2, p_3, back, back_1, back_2, back_3, all, sums, turned, _), (k0, _) =>
  bif (decide (v_k ≥ (0 : Int))) then
    (geti p_3 i).bind fun e =>
    (geti e v_k).bind fun e_1 =>
    (chk (List.length turned + List.length ([e_1] : List Int))).bind fun u =>
    again (cask, glasses, i, (IntKind.wrap .i64 (v_k - (1 : Int))), p, p_1, p_2, p_3, back, back_1, back_2, back_3, all, sums, (turned ++ ([e_1] : List Int)), ())
  else
    k0 (cask, glasses, i, p, p_1, p_2, p_3, back, back_1, back_2, back_3, all, sums, turned, ())

def s5_l1_1 (n : Nat) (d : Int × Int × Int × (List Int) × Int × Int × Int × (List Int) × (List (List Int)) × Int × Int × (List Int) × (List (List Int)) × (List Int) × (List Int) × Unit) (again : (Int × Int × Int × (List Int) × Int × Int × Int × (List Int) × (List (List Int)) × Int × Int × (List Int) × (List (List Int)) × (List Int) × (List Int) × Unit) → Option (Bool)) (ks : (Int × Int × Int × Int × Int × (List Int) × (List (List Int)) × Int × Int × (List Int) × (List (List Int)) × (List Int) × (List Int) × Unit → Option (Bool)) × Unit) : Option (Bool) :=
  match d, ks with
  | (cask, glasses, i, l, m, p, p_1, p_2, p_3, back, back_1, back_2, back_3, all, sums, _), (k0, _) =>
  bif (decide (m < p_1)) then
    (geti sums m).bind fun e =>
    (geti sums m).bind fun x =>
    (geti l m).bind fun e_1 =>
    (geti sums m).bind fun e_2 =>
    (seti sums m (IntKind.wrap .i64 (x + e_1))).bind fun l_1 =>
    again (cask, glasses, i, l, (IntKind.wrap .i64 (m + (1 : Int))), p, p_1, p_2, p_3, back, back_1, back_2, back_3, all, l_1, ())
  else
    k0 (cask, glasses, i, p, p_1, p_2, p_3, back, back_1, back_2, back_3, all, sums, ())

def s5_l1 (n : Nat) (d : Int × Int × Int × Int × Int × (List Int) × (List (List Int)) × Int × Int × (List Int) × (List (List Int)) × (List Int) × (List Int) × Unit) (again : (Int × Int × Int × Int × Int × (List Int) × (List (List Int)) × Int × Int × (List Int) × (List (List Int)) × (List Int) × (List Int) × Unit) → Option (Bool)) (ks : (Int × Int × Int × Int × (List Int) × (List (List Int)) × Int × Int × (List Int) × (List (List Int)) × (List Int) × (List Int) × Unit → Option (Bool)) × (Bool × Unit → Option (Bool)) × Unit) : Option (Bool) :=
  match d, ks with
  | (cask, glasses, i, p, p_1, p_2, p_3, back, back_1, back_2, back_3, all, sums, _), (k0, k1, _) =>
  bif (decide (i < ((List.length p_3 : Nat) : Int))) then
    loopG (s5_l1_0 n) n (cask, glasses, i, (IntKind.wrap .i64 (((List.length p_2 : Nat) : Int) - (1 : Int))), p, p_1, p_2, p_3, back, back_1, back_2, back_3, all, sums, ([] : List Int), ())
      (fun (cask_2, glasses_2, i_2, p_8, p_9, p_10, p_11, back_8, back_9, back_10, back_11, all_2, sums_2, turned_1, _) =>
        (chk (List.length back_11 + List.length ([turned_1] : List (List Int)))).bind fun u_1 =>
        (chk (List.length all_2 + List.length ([i_2] : List Int))).bind fun u_2 =>
        (s26 n (p_8, (p_9, (p_10, p_11)))).bind fun x =>
        (s25 n (x.1, (x.2.1, (x.2.2.1, x.2.2.2))) cask_2 ([i_2] : List Int)).bind fun x_1 =>
        bif ((x_1.2 != (0 : Int)) || (((List.length x_1.1 : Nat) : Int) != p_9)) then
          k1 (false, ())
        else
          loopG (s5_l1_1 n) n (cask_2, glasses_2, i_2, x_1.1, (0 : Int), p_8, p_9, p_10, p_11, back_8, back_9, back_10, (back_11 ++ ([turned_1] : List (List Int))), (all_2 ++ ([i_2] : List Int)), sums_2, ())
            (fun (cask_4, glasses_4, i_4, p_16, p_17, p_18, p_19, back_16, back_17, back_18, back_19, all_4, sums_4, _) =>
              again (cask_4, glasses_4, (IntKind.wrap .i64 (i_4 + (1 : Int))), p_16, p_17, p_18, p_19, back_16, back_17, back_18, back_19, all_4, sums_4, ()), ()), ())
  else
    k0 (cask, glasses, p, p_1, p_2, p_3, back, back_1, back_2, back_3, all, sums, ())

def s5_l2 (n : Nat) (d : Int × (List Int) × Int × Int × Int × Int × (List Int) × (List (List Int)) × Int × Int × (List Int) × (List (List Int)) × Unit) (again : (Int × (List Int) × Int × Int × Int × Int × (List Int) × (List (List Int)) × Int × Int × (List Int) × (List (List Int)) × Unit) → Option (Bool)) (ks : (Int × Int × Int × Int × (List Int) × (List (List Int)) × Int × Int × (List Int) × (List (List Int)) × Unit → Option (Bool)) × Unit) : Option (Bool) :=
  match d, ks with
  | (glasses, l, total, m, p, p_1, p_2, p_3, back, back_1, back_2, back_3, _), (k0, _) =>
  bif (decide (m < p_1)) then
    (geti l m).bind fun e =>
    again (glasses, l, (IntKind.wrap .i64 (total + e)), (IntKind.wrap .i64 (m + (1 : Int))), p, p_1, p_2, p_3, back, back_1, back_2, back_3, ())
  else
    k0 (glasses, total, p, p_1, p_2, p_3, back, back_1, back_2, back_3, ())

/-- criadera/criaderalaw07.TasteCounts -/
def s5 (n : Nat) (p : Int × Int × (List Int) × (List (List Int))) (cask : Int) : Option (Bool) :=
  (s15 n).bind fun x =>
  bif (!x) then
    some (false)
  else
    (s24 n (p.1, (p.2.1, (p.2.2.1, p.2.2.2)))).bind fun x_1 =>
    (part (!(!x_1)) (s29 n (p.1, (p.2.1, (p.2.2.1, p.2.2.2)))) (0 : Int)).bind fun x_2 =>
    (part (!((!x_1) || (x_2 != (0 : Int)))) (s19 n cask (0 : Int) (IntKind.wrap .i64 (p.1 - (1 : Int)))) false).bind fun x_3 =>
    bif (((!x_1) || (x_2 != (0 : Int))) || (!x_3)) then
      some (true)
    else
      loopG (s5_l0 n) n (cask, (0 : Int), (IntKind.wrap .i64 (((List.length p.2.2.1 : Nat) : Int) - (1 : Int))), p.1, p.2.1, p.2.2.1, p.2.2.2, p.1, p.2.1, ([] : List Int), ())
        (fun (cask_2, glasses_1, p_5, p_6, p_7, p_8, back_3, back_4, back_5, _) =>
          (chki p_6).bind fun u_1 =>
          loopG (s5_l1 n) n (cask_2, glasses_1, (0 : Int), p_5, p_6, p_7, p_8, back_3, back_4, back_5, ([] : List (List Int)), ([] : List Int), (List.replicate (Int.toNat p_6) (0 : Int)), ())
            (fun (cask_8, glasses_7, p_29, p_30, p_31, p_32, back_26, back_27, back_28, back_29, all_5, sums_5, _) =>
              (s26 n (p_29, (p_30, (p_31, p_32)))).bind fun x_7 =>
              (s27 n all_5).bind fun x_8 =>
              (s25 n (x_7.1, (x_7.2.1, (x_7.2.2.1, x_7.2.2.2))) cask_8 x_8).bind fun x_9 =>
              (s26 n (back_26, (back_27, (back_28, back_29)))).bind fun x_10 =>
              (s27 n all_5).bind fun x_11 =>
              (s25 n (x_10.1, (x_10.2.1, (x_10.2.2.1, x_10.2.2.2))) cask_8 x_11).bind fun x_12 =>
              (part (!(x_9.2 != (0 : Int))) (s32 n x_9.1 sums_5) false).bind fun x_13 =>
              (part (!(((x_9.2 != (0 : Int)) || (!x_13)) || (x_12.2 != (0 : Int)))) (s32 n x_9.1 x_12.1) false).bind fun x_14 =>
              bif ((((x_9.2 != (0 : Int)) || (!x_13)) || (x_12.2 != (0 : Int))) || (!x_14)) then
                some (false)
              else
                loopG (s5_l2 n) n (glasses_7, x_9.1, (0 : Int), (0 : Int), p_29, p_30, p_31, p_32, back_26, back_27, back_28, back_29, ())
                  (fun (glasses_9, total_1, p_37, p_38, p_39, p_40, back_34, back_35, back_36, back_37, _) =>
                    (s26 n (p_37, (p_38, (p_39, p_40)))).bind fun x_15 =>
                    (s35 n (x_15.1, (x_15.2.1, (x_15.2.2.1, x_15.2.2.2))) (0 : Int)).bind fun x_16 =>
                    (s26 n (back_34, (back_35, (back_36, back_37)))).bind fun x_17 =>
                    (s35 n (x_17.1, (x_17.2.1, (x_17.2.2.1, x_17.2.2.2))) (0 : Int)).bind fun x_18 =>
                    some (((((total_1 == (IntKind.wrap .i64 (glasses_9 * ((List.length p_40 : Nat) : Int)))) && (x_16.2 == (0 : Int))) && (x_18.2 == (0 : Int))) && ((x_16.1.1 == x_18.1.1) && (x_16.1.2 == x_18.1.2)))), ()),
            fun (t4, _) =>
              some (t4), ()), ())

def s5_t1_0 : Templ := ⟨231, [(.int .i64), (.int .i64), (.int .i64), (.int .i64), (.int .i64), (.int .i64), (.slice (.int .i64)), (.slice (.slice (.int .i64))), (.int .i64), (.int .i64), (.slice (.int .i64)), (.slice (.slice (.int .i64))), (.slice (.int .i64)), (.slice (.int .i64)), (.slice (.int .i64))], [(1, .v (.hole (.int .i64))), (2, .v (.bptr 231 0)), (5, .v (.bptr 232 0)), (6, .v (.hole (.int .i64))), (8, .v (.hand 235)), (9, .v (.hand 236)), (10, .v (.hole (.int .i64))), (11, .v (.hand 237)), (12, .v (.hole (.int .i64)))], [(231, .box (.pair (.int .i64) (.pair (.int .i64) (.pair (.slice (.int .i64)) (.slice (.slice (.int .i64)))))) [.hole (.int .i64), .hole (.int .i64), .hole (.slice (.int .i64)), .hole (.slice (.slice (.int .i64)))]), (232, .box (.pair (.int .i64) (.pair (.int .i64) (.pair (.slice (.int .i64)) (.slice (.slice (.int .i64)))))) [.hole (.int .i64), .hole (.int .i64), .hand 233, .hand 234]), (233, .buf (.int .i64)), (234, .buf (.slice (.int .i64))), (235, .buf (.int .i64)), (236, .buf (.int .i64)), (237, .buf (.int .i64))], []⟩
def s5_x1_0 : List (Way × Templ) := [(.exit 4, ⟨231, [(.int .i64), (.int .i64), (.int .i64), (.int .i64), (.int .i64), (.slice (.int .i64)), (.slice (.slice (.int .i64))), (.int .i64), (.int .i64), (.slice (.int .i64)), (.slice (.slice (.int .i64))), (.slice (.int .i64)), (.slice (.int .i64)), (.slice (.int .i64))], [(1, .v (.hole (.int .i64))), (2, .v (.bptr 231 0)), (5, .v (.bptr 232 0)), (6, .v (.hole (.int .i64))), (8, .v (.hand 235)), (9, .v (.hand 236)), (10, .v (.hole (.int .i64))), (11, .v (.hand 237))], [(231, .box (.pair (.int .i64) (.pair (.int .i64) (.pair (.slice (.int .i64)) (.slice (.slice (.int .i64)))))) [.hole (.int .i64), .hole (.int .i64), .hole (.slice (.int .i64)), .hole (.slice (.slice (.int .i64)))]), (232, .box (.pair (.int .i64) (.pair (.int .i64) (.pair (.slice (.int .i64)) (.slice (.slice (.int .i64)))))) [.hole (.int .i64), .hole (.int .i64), .hand 233, .hand 234]), (233, .buf (.int .i64)), (234, .buf (.slice (.int .i64))), (235, .buf (.int .i64)), (236, .buf (.int .i64)), (237, .buf (.int .i64))], []⟩)]
def s5_o1_0 (n : Nat) : Ev (denL [.bool]) := loopO n (e74 n) s5_t1_0 s5_x1_0 (s5_l1_0 n)
theorem s5_b1_0 (n : Nat) (d) (again) (ks) : codeR (R := (denL [.bool])) (e74 n) (Hdl.no (R := (denL [.bool]))) (inn (lp (inn (lp (bd Go.Proofs.Try.f5) 1)) 0)) [] (mk s5_t1_0 d) (turnR (e74 n) s5_t1_0 s5_x1_0 again ks) = s5_l1_0 n d again ks := by kernel_rfl
theorem s5_s1_0 (n : Nat) : Sound Go.Proofs.Try.prog (Hdl.no (R := (denL [.bool]))) false (lp (inn (lp (bd Go.Proofs.Try.f5) 1)) 0) (s5_o1_0 n) := loop_ok (h74 n) hP (by kernel_rfl) (O := []) trivial (s5_b1_0 n)
def s5_t1_1 : Templ := ⟨231, [(.int .i64), (.int .i64), (.int .i64), (.slice (.int .i64)), (.int .i64), (.int .i64), (.int .i64), (.slice (.int .i64)), (.slice (.slice (.int .i64))), (.int .i64), (.int .i64), (.slice (.int .i64)), (.slice (.slice (.int .i64))), (.slice (.int .i64)), (.slice (.int .i64))], [(1, .v (.hole (.int .i64))), (2, .v (.bptr 231 0)), (5, .v (.bptr 232 0)), (6, .v (.hole (.int .i64))), (8, .v (.hand 235)), (9, .v (.hand 236)), (10, .v (.hole (.int .i64))), (13, .v (.hole (.slice (.int .i64)))), (15, .v (.hole (.int .i64)))], [(231, .box (.pair (.int .i64) (.pair (.int .i64) (.pair (.slice (.int .i64)) (.slice (.slice (.int .i64)))))) [.hole (.int .i64), .hole (.int .i64), .hole (.slice (.int .i64)), .hole (.slice (.slice (.int .i64)))]), (232, .box (.pair (.int .i64) (.pair (.int .i64) (.pair (.slice (.int .i64)) (.slice (.slice (.int .i64)))))) [.hole (.int .i64), .hole (.int .i64), .hand 233, .hand 234]), (233, .buf (.int .i64)), (234, .buf (.slice (.int .i64))), (235, .buf (.int .i64)), (236, .buf (.int .i64))], []⟩
def s5_x1_1 : List (Way × Templ) := [(.exit 6, ⟨231, [(.int .i64), (.int .i64), (.int .i64), (.int .i64), (.int .i64), (.slice (.int .i64)), (.slice (.slice (.int .i64))), (.int .i64), (.int .i64), (.slice (.int .i64)), (.slice (.slice (.int .i64))), (.slice (.int .i64)), (.slice (.int .i64))], [(1, .v (.hole (.int .i64))), (2, .v (.bptr 231 0)), (5, .v (.bptr 232 0)), (6, .v (.hole (.int .i64))), (8, .v (.hand 235)), (9, .v (.hand 236)), (10, .v (.hole (.int .i64)))], [(231, .box (.pair (.int .i64) (.pair (.int .i64) (.pair (.slice (.int .i64)) (.slice (.slice (.int .i64)))))) [.hole (.int .i64), .hole (.int .i64), .hole (.slice (.int .i64)), .hole (.slice (.slice (.int .i64)))]), (232, .box (.pair (.int .i64) (.pair (.int .i64) (.pair (.slice (.int .i64)) (.slice (.slice (.int .i64)))))) [.hole (.int .i64), .hole (.int .i64), .hand 233, .hand 234]), (233, .buf (.int .i64)), (234, .buf (.slice (.int .i64))), (235, .buf (.int .i64)), (236, .buf (.int .i64))], []⟩)]
def s5_o1_1 (n : Nat) : Ev (denL [.bool]) := loopO n (e74 n) s5_t1_1 s5_x1_1 (s5_l1_1 n)
theorem s5_b1_1 (n : Nat) (d) (again) (ks) : codeR (R := (denL [.bool])) (e74 n) (Hdl.no (R := (denL [.bool]))) (inn (lp (inn (lp (bd Go.Proofs.Try.f5) 1)) 1)) [] (mk s5_t1_1 d) (turnR (e74 n) s5_t1_1 s5_x1_1 again ks) = s5_l1_1 n d again ks := by kernel_rfl
theorem s5_s1_1 (n : Nat) : Sound Go.Proofs.Try.prog (Hdl.no (R := (denL [.bool]))) false (lp (inn (lp (bd Go.Proofs.Try.f5) 1)) 1) (s5_o1_1 n) := loop_ok (h74 n) hP (by kernel_rfl) (O := []) trivial (s5_b1_1 n)
def s5_t0 : Templ := ⟨231, [(.int .i64), (.int .i64), (.int .i64), (.int .i64), (.int .i64), (.slice (.int .i64)), (.slice (.slice (.int .i64))), (.int .i64), (.int .i64), (.slice (.int .i64))], [(1, .v (.hole (.int .i64))), (2, .v (.bptr 231 0)), (5, .v (.bptr 232 0)), (6, .v (.hole (.int .i64))), (7, .v (.hole (.int .i64)))], [(231, .box (.pair (.int .i64) (.pair (.int .i64) (.pair (.slice (.int .i64)) (.slice (.slice (.int .i64)))))) [.hole (.int .i64), .hole (.int .i64), .hole (.slice (.int .i64)), .hole (.slice (.slice (.int .i64)))]), (232, .box (.pair (.int .i64) (.pair (.int .i64) (.pair (.slice (.int .i64)) (.slice (.slice (.int .i64)))))) [.hole (.int .i64), .hole (.int .i64), .hand 233, .nils]), (233, .buf (.int .i64))], []⟩
def s5_x0 : List (Way × Templ) := [(.exit 0, ⟨231, [(.int .i64), (.int .i64), (.int .i64), (.int .i64), (.slice (.int .i64)), (.slice (.slice (.int .i64))), (.int .i64), (.int .i64), (.slice (.int .i64))], [(1, .v (.hole (.int .i64))), (2, .v (.bptr 231 0)), (5, .v (.bptr 232 0)), (6, .v (.hole (.int .i64)))], [(231, .box (.pair (.int .i64) (.pair (.int .i64) (.pair (.slice (.int .i64)) (.slice (.slice (.int .i64)))))) [.hole (.int .i64), .hole (.int .i64), .hole (.slice (.int .i64)), .hole (.slice (.slice (.int .i64)))]), (232, .box (.pair (.int .i64) (.pair (.int .i64) (.pair (.slice (.int .i64)) (.slice (.slice (.int .i64)))))) [.hole (.int .i64), .hole (.int .i64), .hand 233, .nils]), (233, .buf (.int .i64))], []⟩)]
def s5_o0 (n : Nat) : Ev (denL [.bool]) := loopO n (e74 n) s5_t0 s5_x0 (s5_l0 n)
theorem s5_b0 (n : Nat) (d) (again) (ks) : codeR (R := (denL [.bool])) (e74 n) (Hdl.no (R := (denL [.bool]))) (inn (lp (bd Go.Proofs.Try.f5) 0)) [] (mk s5_t0 d) (turnR (e74 n) s5_t0 s5_x0 again ks) = s5_l0 n d again ks := by kernel_rfl
theorem s5_s0 (n : Nat) : Sound Go.Proofs.Try.prog (Hdl.no (R := (denL [.bool]))) false (lp (bd Go.Proofs.Try.f5) 0) (s5_o0 n) := loop_ok (h74 n) hP (by kernel_rfl) (O := []) trivial (s5_b0 n)
def s5_t1 : Templ := ⟨231, [(.int .i64), (.int .i64), (.int .i64), (.int .i64), (.int .i64), (.slice (.int .i64)), (.slice (.slice (.int .i64))), (.int .i64), (.int .i64), (.slice (.int .i64)), (.slice (.slice (.int .i64))), (.slice (.int .i64)), (.slice (.int .i64))], [(1, .v (.hole (.int .i64))), (2, .v (.bptr 231 0)), (5, .v (.bptr 232 0)), (6, .v (.hole (.int .i64))), (8, .v (.hand 235)), (9, .v (.hand 236)), (10, .v (.hole (.int .i64)))], [(231, .box (.pair (.int .i64) (.pair (.int .i64) (.pair (.slice (.int .i64)) (.slice (.slice (.int .i64)))))) [.hole (.int .i64), .hole (.int .i64), .hole (.slice (.int .i64)), .hole (.slice (.slice (.int .i64)))]), (232, .box (.pair (.int .i64) (.pair (.int .i64) (.pair (.slice (.int .i64)) (.slice (.slice (.int .i64)))))) [.hole (.int .i64), .hole (.int .i64), .hand 233, .hand 234]), (233, .buf (.int .i64)), (234, .buf (.slice (.int .i64))), (235, .buf (.int .i64)), (236, .buf (.int .i64))], []⟩
def s5_x1 : List (Way × Templ) := [(.exit 2, ⟨231, [(.int .i64), (.int .i64), (.int .i64), (.int .i64), (.slice (.int .i64)), (.slice (.slice (.int .i64))), (.int .i64), (.int .i64), (.slice (.int .i64)), (.slice (.slice (.int .i64))), (.slice (.int .i64)), (.slice (.int .i64))], [(1, .v (.hole (.int .i64))), (2, .v (.bptr 231 0)), (5, .v (.bptr 232 0)), (6, .v (.hole (.int .i64))), (8, .v (.hand 235)), (9, .v (.hand 236))], [(231, .box (.pair (.int .i64) (.pair (.int .i64) (.pair (.slice (.int .i64)) (.slice (.slice (.int .i64)))))) [.hole (.int .i64), .hole (.int .i64), .hole (.slice (.int .i64)), .hole (.slice (.slice (.int .i64)))]), (232, .box (.pair (.int .i64) (.pair (.int .i64) (.pair (.slice (.int .i64)) (.slice (.slice (.int .i64)))))) [.hole (.int .i64), .hole (.int .i64), .hand 233, .hand 234]), (233, .buf (.int .i64)), (234, .buf (.slice (.int .i64))), (235, .buf (.int .i64)), (236, .buf (.int .i64))], []⟩), (.ret, ⟨231, [.bool], [(4, .v (.hole .bool))], [], []⟩)]
def s5_o1 (n : Nat) : Ev (denL [.bool]) := loopO n (e74 n) s5_t1 s5_x1 (s5_l1 n)
theorem s5_b1 (n : Nat) (d) (again) (ks) : codeR (R := (denL [.bool])) (e74 n) (Hdl.no (R := (denL [.bool]))) (inn (lp (bd Go.Proofs.Try.f5) 1)) [s5_o1_0 n, s5_o1_1 n] (mk s5_t1 d) (turnR (e74 n) s5_t1 s5_x1 again ks) = s5_l1 n d again ks := by kernel_rfl
theorem s5_s1 (n : Nat) : Sound Go.Proofs.Try.prog (Hdl.no (R := (denL [.bool]))) false (lp (bd Go.Proofs.Try.f5) 1) (s5_o1 n) := loop_ok (h74 n) hP (by kernel_rfl) (O := [s5_o1_0 n, s5_o1_1 n]) ⟨s5_s1_0 n, s5_s1_1 n, trivial⟩ (s5_b1 n)
def s5_t2 : Templ := ⟨231, [(.int .i64), (.slice (.int .i64)), (.int .i64), (.int .i64), (.int .i64), (.int .i64), (.slice (.int .i64)), (.slice (.slice (.int .i64))), (.int .i64), (.int .i64), (.slice (.int .i64)), (.slice (.slice (.int .i64)))], [(2, .v (.bptr 231 0)), (5, .v (.bptr 232 0)), (6, .v (.hole (.int .i64))), (16, .v (.hole (.slice (.int .i64)))), (20, .v (.hole (.int .i64))), (21, .v (.hole (.int .i64)))], [(231, .box (.pair (.int .i64) (.pair (.int .i64) (.pair (.slice (.int .i64)) (.slice (.slice (.int .i64)))))) [.hole (.int .i64), .hole (.int .i64), .hole (.slice (.int .i64)), .hole (.slice (.slice (.int .i64)))]), (232, .box (.pair (.int .i64) (.pair (.int .i64) (.pair (.slice (.int .i64)) (.slice (.slice (.int .i64)))))) [.hole (.int .i64), .hole (.int .i64), .hole (.slice (.int .i64)), .hole (.slice (.slice (.int .i64)))])], []⟩
def s5_x2 : List (Way × Templ) := [(.exit 8, ⟨231, [(.int .i64), (.int .i64), (.int .i64), (.int .i64), (.slice (.int .i64)), (.slice (.slice (.int .i64))), (.int .i64), (.int .i64), (.slice (.int .i64)), (.slice (.slice (.int .i64)))], [(2, .v (.bptr 231 0)), (5, .v (.bptr 232 0)), (6, .v (.hole (.int .i64))), (20, .v (.hole (.int .i64)))], [(231, .box (.pair (.int .i64) (.pair (.int .i64) (.pair (.slice (.int .i64)) (.slice (.slice (.int .i64)))))) [.hole (.int .i64), .hole (.int .i64), .hole (.slice (.int .i64)), .hole (.slice (.slice (.int .i64)))]), (232, .box (.pair (.int .i64) (.pair (.int .i64) (.pair (.slice (.int .i64)) (.slice (.slice (.int .i64)))))) [.hole (.int .i64), .hole (.int .i64), .hole (.slice (.int .i64)), .hole (.slice (.slice (.int .i64)))])], []⟩)]
def s5_o2 (n : Nat) : Ev (denL [.bool]) := loopO n (e74 n) s5_t2 s5_x2 (s5_l2 n)
theorem s5_b2 (n : Nat) (d) (again) (ks) : codeR (R := (denL [.bool])) (e74 n) (Hdl.no (R := (denL [.bool]))) (inn (lp (bd Go.Proofs.Try.f5) 2)) [] (mk s5_t2 d) (turnR (e74 n) s5_t2 s5_x2 again ks) = s5_l2 n d again ks := by kernel_rfl
theorem s5_s2 (n : Nat) : Sound Go.Proofs.Try.prog (Hdl.no (R := (denL [.bool]))) false (lp (bd Go.Proofs.Try.f5) 2) (s5_o2 n) := loop_ok (h74 n) hP (by kernel_rfl) (O := []) trivial (s5_b2 n)
def s5_c (n : Nat) : Con := ⟨[(.pair (.int .i64) (.pair (.int .i64) (.pair (.slice (.int .i64)) (.slice (.slice (.int .i64)))))), (.int .i64)], [], [.bool], fun x y => s5 n x.1 x.2, false⟩
theorem s5_eq (n : Nat) (x : denL [(.pair (.int .i64) (.pair (.int .i64) (.pair (.slice (.int .i64)) (.slice (.slice (.int .i64)))))), (.int .i64)]) (y : denL []) : funR (e74 n) Go.Proofs.Try.f5 [(.pair (.int .i64) (.pair (.int .i64) (.pair (.slice (.int .i64)) (.slice (.slice (.int .i64)))))), (.int .i64)] [] [.bool] false [s5_o0 n, s5_o1 n, s5_o2 n] x y = (s5_c n).fn x y := by kernel_rfl
theorem s5_ok (n : Nat) : ConOK Go.Proofs.Try.prog 5 (s5_c n) := func_ok (h74 n) hP Go.Proofs.Try.func5 (by kernel_rfl) (by kernel_rfl) (O := [s5_o0 n, s5_o1 n, s5_o2 n]) ⟨s5_s0 n, s5_s1 n, s5_s2 n, trivial⟩ (s5_eq n)
def e75 (n : Nat) : Env := ⟨gT, (5, s5_c n) :: (e74 n).C, gQ, (e74 n).I⟩
theorem h75 (n : Nat) : EnvOK Go.Proofs.Try.prog (e75 n) := env_add (h74 n) (s5_ok n)

/-- criadera/criaderalaw07.sheet -/
def s36 (n : Nat) (marks : List Int) : Option (Bool) :=
  some (((decide (((List.length marks : Nat) : Int) ≤ (12 : Int))) || ((decide (((List.length marks : Nat) : Int) > (40 : Int))) && (decide (((List.length marks : Nat) : Int) ≤ (42 : Int))))))

def s36_c (n : Nat) : Con := ⟨[(.slice (.int .i64))], [], [.bool], fun x y => s36 n x, false⟩
theorem s36_eq (n : Nat) (x : denL [(.slice (.int .i64))]) (y : denL []) : funR (e75 n) Go.Proofs.Try.f36 [(.slice (.int .i64))] [] [.bool] false [] x y = (s36_c n).fn x y := by kernel_rfl
theorem s36_ok (n : Nat) : ConOK Go.Proofs.Try.prog 36 (s36_c n) := func_ok (h75 n) hP Go.Proofs.Try.func36 (by kernel_rfl) (by kernel_rfl) (O := []) trivial (s36_eq n)
def e76 (n : Nat) : Env := ⟨gT, (36, s36_c n) :: (e75 n).C, gQ, (e75 n).I⟩
theorem h76 (n : Nat) : EnvOK Go.Proofs.Try.prog (e76 n) := env_add (h75 n) (s36_ok n)

/-- criadera/taste.Walk -/
def s38 (n : Nat) (b : (List (List UInt8)) × Int × (List ((List UInt8) × (List Int) × (List (List UInt8))))) (marks : List Int) : Option ((List Int) × Int) :=
  (s79 n (b.1, (b.2.1, b.2.2))).bind fun x =>
  bif (x.2 != (0 : Int)) then
    some (([] : List Int), x.2)
  else
    (s99 n (x.1.1, (x.1.2.1, x.1.2.2)) marks).bind fun x_1 =>
    bif (x_1 != (0 : Int)) then
      some (([] : List Int), x_1)
    else
      (s100 n (x.1.1, (x.1.2.1, x.1.2.2)) marks).bind fun x_2 =>
      some (x_2, (0 : Int))

def s38_c (n : Nat) : Con := ⟨[(.pair (.slice .str) (.pair (.int .i64) (.slice (.pair .str (.pair (.slice (.int .i64)) (.slice .str)))))), (.slice (.int .i64))], [], [(.slice (.int .i64)), (.int .i64)], fun x y => s38 n x.1 x.2, false⟩
theorem s38_eq (n : Nat) (x : denL [(.pair (.slice .str) (.pair (.int .i64) (.slice (.pair .str (.pair (.slice (.int .i64)) (.slice .str)))))), (.slice (.int .i64))]) (y : denL []) : funR (e76 n) Go.Proofs.Try.f38 [(.pair (.slice .str) (.pair (.int .i64) (.slice (.pair .str (.pair (.slice (.int .i64)) (.slice .str)))))), (.slice (.int .i64))] [] [(.slice (.int .i64)), (.int .i64)] false [] x y = (s38_c n).fn x y := by kernel_rfl
theorem s38_ok (n : Nat) : ConOK Go.Proofs.Try.prog 38 (s38_c n) := func_ok (h76 n) hP Go.Proofs.Try.func38 (by kernel_rfl) (by kernel_rfl) (O := []) trivial (s38_eq n)
def e77 (n : Nat) : Env := ⟨gT, (38, s38_c n) :: (e76 n).C, gQ, (e76 n).I⟩
theorem h77 (n : Nat) : EnvOK Go.Proofs.Try.prog (e77 n) := env_add (h76 n) (s38_ok n)

/-- criadera/criaderalaw07.TasteBooks -/
def s6 (n : Nat) (b : (List (List UInt8)) × Int × (List ((List UInt8) × (List Int) × (List (List UInt8))))) (marks : List Int) : Option (Bool) :=
  (s15 n).bind fun x =>
  bif (!x) then
    some (false)
  else
    (s16 n (b.1, (b.2.1, b.2.2))).bind fun x_1 =>
    (part (!(!x_1)) (s36 n marks) false).bind fun x_2 =>
    bif ((!x_1) || (!x_2)) then
      some (true)
    else
      (s21 n (b.1, (b.2.1, b.2.2))).bind fun x_3 =>
      (s37 n x_3).bind fun x_4 =>
      (s21 n (b.1, (b.2.1, b.2.2))).bind fun x_5 =>
      (s27 n marks).bind fun x_6 =>
      (s38 n x_5 x_6).bind fun x_7 =>
      (s39 n (b.1, (b.2.1, b.2.2))).bind fun x_8 =>
      bif ((x_4.2 != x_8.2) || (x_4.1 != x_8.1)) then
        some (false)
      else
        bif (x_8.2 == (0 : Int)) then
          (s18 n (b.1, (b.2.1, b.2.2)) marks).bind fun x_9 =>
          bif (x_9 != (0 : Int)) then
            some (((x_7.2 == x_9) && (((List.length x_7.1 : Nat) : Int) == (0 : Int))))
          else
            (part (x_7.2 == (0 : Int)) (s40 n (b.1, (b.2.1, b.2.2)) marks) []).bind fun x_10 =>
            (part (x_7.2 == (0 : Int)) (s32 n x_7.1 x_10) false).bind fun x_11 =>
            some ((((x_7.2 == (0 : Int)) && x_11) && (((List.length x_7.1 : Nat) : Int) == (IntKind.wrap .i64 (((List.length marks : Nat) : Int) + (1 : Int))))))
        else
          bif (x_8.2 != (0 : Int)) then
            some (((x_7.2 == x_8.2) && (((List.length x_7.1 : Nat) : Int) == (0 : Int))))
          else
            (part (x_7.2 == (0 : Int)) (s40 n (b.1, (b.2.1, b.2.2)) marks) []).bind fun x_12 =>
            (part (x_7.2 == (0 : Int)) (s32 n x_7.1 x_12) false).bind fun x_13 =>
            some ((((x_7.2 == (0 : Int)) && x_13) && (((List.length x_7.1 : Nat) : Int) == (IntKind.wrap .i64 (((List.length marks : Nat) : Int) + (1 : Int))))))

def s6_c (n : Nat) : Con := ⟨[(.pair (.slice .str) (.pair (.int .i64) (.slice (.pair .str (.pair (.slice (.int .i64)) (.slice .str)))))), (.slice (.int .i64))], [], [.bool], fun x y => s6 n x.1 x.2, false⟩
theorem s6_eq (n : Nat) (x : denL [(.pair (.slice .str) (.pair (.int .i64) (.slice (.pair .str (.pair (.slice (.int .i64)) (.slice .str)))))), (.slice (.int .i64))]) (y : denL []) : funR (e77 n) Go.Proofs.Try.f6 [(.pair (.slice .str) (.pair (.int .i64) (.slice (.pair .str (.pair (.slice (.int .i64)) (.slice .str)))))), (.slice (.int .i64))] [] [.bool] false [] x y = (s6_c n).fn x y := by kernel_rfl
theorem s6_ok (n : Nat) : ConOK Go.Proofs.Try.prog 6 (s6_c n) := func_ok (h77 n) hP Go.Proofs.Try.func6 (by kernel_rfl) (by kernel_rfl) (O := []) trivial (s6_eq n)
def e78 (n : Nat) : Env := ⟨gT, (6, s6_c n) :: (e77 n).C, gQ, (e77 n).I⟩
theorem h78 (n : Nat) : EnvOK Go.Proofs.Try.prog (e78 n) := env_add (h77 n) (s6_ok n)

/-- criadera/criaderaref07.CopySheet -/
def s42 (n : Nat) (s : (List UInt8) × (List Int)) : Option (((List UInt8) × (List Int))) :=
  (s27 n s.2).bind fun x =>
  some ((s.1, x))

def s42_c (n : Nat) : Con := ⟨[(.pair .str (.slice (.int .i64)))], [], [(.pair .str (.slice (.int .i64)))], fun x y => s42 n x, false⟩
theorem s42_eq (n : Nat) (x : denL [(.pair .str (.slice (.int .i64)))]) (y : denL []) : funR (e78 n) Go.Proofs.Try.f42 [(.pair .str (.slice (.int .i64)))] [] [(.pair .str (.slice (.int .i64)))] false [] x y = (s42_c n).fn x y := by kernel_rfl
theorem s42_ok (n : Nat) : ConOK Go.Proofs.Try.prog 42 (s42_c n) := func_ok (h78 n) hP Go.Proofs.Try.func42 (by kernel_rfl) (by kernel_rfl) (O := []) trivial (s42_eq n)
def e79 (n : Nat) : Env := ⟨gT, (42, s42_c n) :: (e78 n).C, gQ, (e78 n).I⟩
theorem h79 (n : Nat) : EnvOK Go.Proofs.Try.prog (e79 n) := env_add (h78 n) (s42_ok n)

def s43_l0 (n : Nat) (d : (List Int) × (List Int) × Int × Int × (List (List UInt8)) × Int × (List ((List UInt8) × (List Int) × (List (List UInt8)))) × (List (List UInt8)) × Unit) (again : ((List Int) × (List Int) × Int × Int × (List (List UInt8)) × Int × (List ((List UInt8) × (List Int) × (List (List UInt8)))) × (List (List UInt8)) × Unit) → Option ((List (List UInt8)) × Int)) (ks : ((List (List UInt8)) × Unit → Option ((List (List UInt8)) × Int)) × Unit) : Option ((List (List UInt8)) × Int) :=
  match d, ks with
  | (v_at, t26, t27, t28, t6, t6_1, t6_2, out, _), (k0, _) =>
  bif (decide (t28 < t27)) then
    (geti t26 t28).bind fun e =>
    (geti v_at t28).bind fun e_1 =>
    (geti t6_2 e_1).bind fun e_2 =>
    (geti e_2.2.2 e).bind fun e_3 =>
    (chk (List.length out + List.length ([e_3] : List (List UInt8)))).bind fun u =>
    again (v_at, t26, t27, (IntKind.wrap .i64 (t28 + (1 : Int))), t6, t6_1, t6_2, (out ++ ([e_3] : List (List UInt8))), ())
  else
    k0 (out, ())

/-- criadera/taste.ReasonsOf -/
def s43 (n : Nat) (b : (List (List UInt8)) × Int × (List ((List UInt8) × (List Int) × (List (List UInt8))))) (s : (List UInt8) × (List Int)) : Option ((List (List UInt8)) × Int) :=
  (s104 n (b.1, (b.2.1, b.2.2)) (s.1, s.2)).bind fun x =>
  bif (x.2 != (0 : Int)) then
    some (([] : List (List UInt8)), x.2)
  else
    (s100 n (x.1.1, (x.1.2.1, x.1.2.2)) s.2).bind fun x_1 =>
    loopG (s43_l0 n) n (x_1, s.2, ((List.length s.2 : Nat) : Int), (0 : Int), x.1.1, x.1.2.1, x.1.2.2, ([] : List (List UInt8)), ())
      (fun (out_1, _) =>
        some (out_1, (0 : Int)), ())

def s43_t0 : Templ := ⟨51, [(.slice (.int .i64)), (.slice (.int .i64)), (.int .i64), (.int .i64), (.slice .str), (.int .i64), (.slice (.pair .str (.pair (.slice (.int .i64)) (.slice .str)))), (.slice .str)], [(6, .v (.bptr 51 0)), (8, .v (.hand 52)), (9, .v (.hole (.slice (.int .i64)))), (26, .v (.hole (.slice (.int .i64)))), (27, .v (.hole (.int .i64))), (28, .v (.hole (.int .i64)))], [(51, .box (.pair (.slice .str) (.pair (.int .i64) (.slice (.pair .str (.pair (.slice (.int .i64)) (.slice .str)))))) [.hole (.slice .str), .hole (.int .i64), .hole (.slice (.pair .str (.pair (.slice (.int .i64)) (.slice .str))))]), (52, .buf .str)], []⟩
def s43_x0 : List (Way × Templ) := [(.exit 0, ⟨51, [(.slice .str)], [(8, .v (.hand 51))], [(51, .buf .str)], []⟩)]
def s43_o0 (n : Nat) : Ev (denL [(.slice .str), (.int .i64)]) := loopO n (e79 n) s43_t0 s43_x0 (s43_l0 n)
theorem s43_b0 (n : Nat) (d) (again) (ks) : codeR (R := (denL [(.slice .str), (.int .i64)])) (e79 n) (Hdl.no (R := (denL [(.slice .str), (.int .i64)]))) (inn (lp (bd Go.Proofs.Try.f43) 0)) [] (mk s43_t0 d) (turnR (e79 n) s43_t0 s43_x0 again ks) = s43_l0 n d again ks := by kernel_rfl
theorem s43_s0 (n : Nat) : Sound Go.Proofs.Try.prog (Hdl.no (R := (denL [(.slice .str), (.int .i64)]))) false (lp (bd Go.Proofs.Try.f43) 0) (s43_o0 n) := loop_ok (h79 n) hP (by kernel_rfl) (O := []) trivial (s43_b0 n)
def s43_c (n : Nat) : Con := ⟨[(.pair (.slice .str) (.pair (.int .i64) (.slice (.pair .str (.pair (.slice (.int .i64)) (.slice .str)))))), (.pair .str (.slice (.int .i64)))], [], [(.slice .str), (.int .i64)], fun x y => s43 n x.1 x.2, false⟩
theorem s43_eq (n : Nat) (x : denL [(.pair (.slice .str) (.pair (.int .i64) (.slice (.pair .str (.pair (.slice (.int .i64)) (.slice .str)))))), (.pair .str (.slice (.int .i64)))]) (y : denL []) : funR (e79 n) Go.Proofs.Try.f43 [(.pair (.slice .str) (.pair (.int .i64) (.slice (.pair .str (.pair (.slice (.int .i64)) (.slice .str)))))), (.pair .str (.slice (.int .i64)))] [] [(.slice .str), (.int .i64)] false [s43_o0 n] x y = (s43_c n).fn x y := by kernel_rfl
theorem s43_ok (n : Nat) : ConOK Go.Proofs.Try.prog 43 (s43_c n) := func_ok (h79 n) hP Go.Proofs.Try.func43 (by kernel_rfl) (by kernel_rfl) (O := [s43_o0 n]) ⟨s43_s0 n, trivial⟩ (s43_eq n)
def e80 (n : Nat) : Env := ⟨gT, (43, s43_c n) :: (e79 n).C, gQ, (e79 n).I⟩
theorem h80 (n : Nat) : EnvOK Go.Proofs.Try.prog (e80 n) := env_add (h79 n) (s43_ok n)

/-- criadera/criaderaref07.SheetErr -/
def s44 (n : Nat) (b : (List (List UInt8)) × Int × (List ((List UInt8) × (List Int) × (List (List UInt8))))) (s : (List UInt8) × (List Int)) : Option (Int) :=
  (s101 n s.1).bind fun x =>
  bif (!x) then
    some ((4 : Int))
  else
    (s18 n (b.1, (b.2.1, b.2.2)) s.2).bind fun x_1 =>
    some (x_1)

def s44_c (n : Nat) : Con := ⟨[(.pair (.slice .str) (.pair (.int .i64) (.slice (.pair .str (.pair (.slice (.int .i64)) (.slice .str)))))), (.pair .str (.slice (.int .i64)))], [], [(.int .i64)], fun x y => s44 n x.1 x.2, false⟩
theorem s44_eq (n : Nat) (x : denL [(.pair (.slice .str) (.pair (.int .i64) (.slice (.pair .str (.pair (.slice (.int .i64)) (.slice .str)))))), (.pair .str (.slice (.int .i64)))]) (y : denL []) : funR (e80 n) Go.Proofs.Try.f44 [(.pair (.slice .str) (.pair (.int .i64) (.slice (.pair .str (.pair (.slice (.int .i64)) (.slice .str)))))), (.pair .str (.slice (.int .i64)))] [] [(.int .i64)] false [] x y = (s44_c n).fn x y := by kernel_rfl
theorem s44_ok (n : Nat) : ConOK Go.Proofs.Try.prog 44 (s44_c n) := func_ok (h80 n) hP Go.Proofs.Try.func44 (by kernel_rfl) (by kernel_rfl) (O := []) trivial (s44_eq n)
def e81 (n : Nat) : Env := ⟨gT, (44, s44_c n) :: (e80 n).C, gQ, (e80 n).I⟩
theorem h81 (n : Nat) : EnvOK Go.Proofs.Try.prog (e81 n) := env_add (h80 n) (s44_ok n)

def s46_l0 (n : Nat) (d : (List Int) × (List Int) × Int × (List (List UInt8)) × Int × (List ((List UInt8) × (List Int) × (List (List UInt8)))) × (List (List UInt8)) × Unit) (again : ((List Int) × (List Int) × Int × (List (List UInt8)) × Int × (List ((List UInt8) × (List Int) × (List (List UInt8)))) × (List (List UInt8)) × Unit) → Option ((List (List UInt8)))) (ks : ((List (List UInt8)) × Unit → Option ((List (List UInt8)))) × Unit) : Option ((List (List UInt8))) :=
  match d, ks with
  | (marks, l, i, b, b_1, b_2, out, _), (k0, _) =>
  bif (decide (i < ((List.length marks : Nat) : Int))) then
    (geti l i).bind fun e =>
    (geti b_2 e).bind fun e_1 =>
    (geti marks i).bind fun e_2 =>
    (geti e_1.2.2 e_2).bind fun e_3 =>
    (chk (List.length out + List.length ([e_3] : List (List UInt8)))).bind fun u =>
    again (marks, l, (IntKind.wrap .i64 (i + (1 : Int))), b, b_1, b_2, (out ++ ([e_3] : List (List UInt8))), ())
  else
    k0 (out, ())

/-- criadera/criaderaref07.Reasons -/
def s46 (n : Nat) (b : (List (List UInt8)) × Int × (List ((List UInt8) × (List Int) × (List (List UInt8))))) (marks : List Int) : Option ((List (List UInt8))) :=
  (s40 n (b.1, (b.2.1, b.2.2)) marks).bind fun x =>
  loopG (s46_l0 n) n (marks, x, (0 : Int), b.1, b.2.1, b.2.2, ([] : List (List UInt8)), ())
    (fun (out_1, _) =>
      some (out_1), ())

def s46_t0 : Templ := ⟨36, [(.slice (.int .i64)), (.slice (.int .i64)), (.int .i64), (.slice .str), (.int .i64), (.slice (.pair .str (.pair (.slice (.int .i64)) (.slice .str)))), (.slice .str)], [(1, .v (.hole (.slice (.int .i64)))), (2, .v (.bptr 36 0)), (5, .v (.hand 37)), (6, .v (.hole (.slice (.int .i64)))), (7, .v (.hole (.int .i64)))], [(36, .box (.pair (.slice .str) (.pair (.int .i64) (.slice (.pair .str (.pair (.slice (.int .i64)) (.slice .str)))))) [.hole (.slice .str), .hole (.int .i64), .hole (.slice (.pair .str (.pair (.slice (.int .i64)) (.slice .str))))]), (37, .buf .str)], []⟩
def s46_x0 : List (Way × Templ) := [(.exit 0, ⟨36, [(.slice .str)], [(5, .v (.hand 36))], [(36, .buf .str)], []⟩)]
def s46_o0 (n : Nat) : Ev (denL [(.slice .str)]) := loopO n (e81 n) s46_t0 s46_x0 (s46_l0 n)
theorem s46_b0 (n : Nat) (d) (again) (ks) : codeR (R := (denL [(.slice .str)])) (e81 n) (Hdl.no (R := (denL [(.slice .str)]))) (inn (lp (bd Go.Proofs.Try.f46) 0)) [] (mk s46_t0 d) (turnR (e81 n) s46_t0 s46_x0 again ks) = s46_l0 n d again ks := by kernel_rfl
theorem s46_s0 (n : Nat) : Sound Go.Proofs.Try.prog (Hdl.no (R := (denL [(.slice .str)]))) false (lp (bd Go.Proofs.Try.f46) 0) (s46_o0 n) := loop_ok (h81 n) hP (by kernel_rfl) (O := []) trivial (s46_b0 n)
def s46_c (n : Nat) : Con := ⟨[(.pair (.slice .str) (.pair (.int .i64) (.slice (.pair .str (.pair (.slice (.int .i64)) (.slice .str)))))), (.slice (.int .i64))], [], [(.slice .str)], fun x y => s46 n x.1 x.2, false⟩
theorem s46_eq (n : Nat) (x : denL [(.pair (.slice .str) (.pair (.int .i64) (.slice (.pair .str (.pair (.slice (.int .i64)) (.slice .str)))))), (.slice (.int .i64))]) (y : denL []) : funR (e81 n) Go.Proofs.Try.f46 [(.pair (.slice .str) (.pair (.int .i64) (.slice (.pair .str (.pair (.slice (.int .i64)) (.slice .str)))))), (.slice (.int .i64))] [] [(.slice .str)] false [s46_o0 n] x y = (s46_c n).fn x y := by kernel_rfl
theorem s46_ok (n : Nat) : ConOK Go.Proofs.Try.prog 46 (s46_c n) := func_ok (h81 n) hP Go.Proofs.Try.func46 (by kernel_rfl) (by kernel_rfl) (O := [s46_o0 n]) ⟨s46_s0 n, trivial⟩ (s46_eq n)
def e82 (n : Nat) : Env := ⟨gT, (46, s46_c n) :: (e81 n).C, gQ, (e81 n).I⟩
theorem h82 (n : Nat) : EnvOK Go.Proofs.Try.prog (e82 n) := env_add (h81 n) (s46_ok n)

def s45_l0 (n : Nat) (d : (List (List UInt8)) × (List (List UInt8)) × Int × Unit) (again : ((List (List UInt8)) × (List (List UInt8)) × Int × Unit) → Option (Bool)) (ks : (Unit → Option (Bool)) × (Bool × Unit → Option (Bool)) × Unit) : Option (Bool) :=
  match d, ks with
  | (a, b, i, _), (k0, k1, _) =>
  bif (decide (i < ((List.length a : Nat) : Int))) then
    (geti a i).bind fun e =>
    (geti b i).bind fun e_1 =>
    bif ((e : List UInt8) != e_1) then
      k1 (false, ())
    else
      again (a, b, (IntKind.wrap .i64 (i + (1 : Int))), ())
  else
    k0 (())

/-- criadera/criaderabase.Texts -/
def s45 (n : Nat) (a : List (List UInt8)) (b : List (List UInt8)) : Option (Bool) :=
  bif (((List.length a : Nat) : Int) != ((List.length b : Nat) : Int)) then
    some (false)
  else
    loopG (s45_l0 n) n (a, b, (0 : Int), ())
      (fun (_) =>
        some (true),
      fun (t4, _) =>
        some (t4), ())

def s45_t0 : Templ := ⟨26, [(.slice .str), (.slice .str), (.int .i64)], [(0, .v (.hole (.slice .str))), (1, .v (.hole (.slice .str))), (5, .v (.hole (.int .i64)))], [], []⟩
def s45_x0 : List (Way × Templ) := [(.exit 0, ⟨26, [], [], [], []⟩), (.ret, ⟨26, [.bool], [(4, .v (.hole .bool))], [], []⟩)]
def s45_o0 (n : Nat) : Ev (denL [.bool]) := loopO n (e82 n) s45_t0 s45_x0 (s45_l0 n)
theorem s45_b0 (n : Nat) (d) (again) (ks) : codeR (R := (denL [.bool])) (e82 n) (Hdl.no (R := (denL [.bool]))) (inn (lp (bd Go.Proofs.Try.f45) 0)) [] (mk s45_t0 d) (turnR (e82 n) s45_t0 s45_x0 again ks) = s45_l0 n d again ks := by kernel_rfl
theorem s45_s0 (n : Nat) : Sound Go.Proofs.Try.prog (Hdl.no (R := (denL [.bool]))) false (lp (bd Go.Proofs.Try.f45) 0) (s45_o0 n) := loop_ok (h82 n) hP (by kernel_rfl) (O := []) trivial (s45_b0 n)
def s45_c (n : Nat) : Con := ⟨[(.slice .str), (.slice .str)], [], [.bool], fun x y => s45 n x.1 x.2, false⟩
theorem s45_eq (n : Nat) (x : denL [(.slice .str), (.slice .str)]) (y : denL []) : funR (e82 n) Go.Proofs.Try.f45 [(.slice .str), (.slice .str)] [] [.bool] false [s45_o0 n] x y = (s45_c n).fn x y := by kernel_rfl
theorem s45_ok (n : Nat) : ConOK Go.Proofs.Try.prog 45 (s45_c n) := func_ok (h82 n) hP Go.Proofs.Try.func45 (by kernel_rfl) (by kernel_rfl) (O := [s45_o0 n]) ⟨s45_s0 n, trivial⟩ (s45_eq n)
def e83 (n : Nat) : Env := ⟨gT, (45, s45_c n) :: (e82 n).C, gQ, (e82 n).I⟩
theorem h83 (n : Nat) : EnvOK Go.Proofs.Try.prog (e83 n) := env_add (h82 n) (s45_ok n)

/-- criadera/criaderalaw07.TasteSheets -/
def s7 (n : Nat) (b : (List (List UInt8)) × Int × (List ((List UInt8) × (List Int) × (List (List UInt8))))) (s : (List UInt8) × (List Int)) : Option (Bool) :=
  (s15 n).bind fun x =>
  bif (!x) then
    some (false)
  else
    (s16 n (b.1, (b.2.1, b.2.2))).bind fun x_1 =>
    (part (!(!x_1)) (s36 n s.2) false).bind fun x_2 =>
    bif (((!x_1) || (!x_2)) || (decide (((List.length s.1 : Nat) : Int) > (20 : Int)))) then
      some (true)
    else
      (s21 n (b.1, (b.2.1, b.2.2))).bind fun x_3 =>
      (s42 n (s.1, s.2)).bind fun x_4 =>
      (s41 n x_3 x_4).bind fun x_5 =>
      (s21 n (b.1, (b.2.1, b.2.2))).bind fun x_6 =>
      (s42 n (s.1, s.2)).bind fun x_7 =>
      (s43 n x_6 x_7).bind fun x_8 =>
      (s17 n (b.1, (b.2.1, b.2.2))).bind fun x_9 =>
      bif (x_9 == (0 : Int)) then
        (s44 n (b.1, (b.2.1, b.2.2)) (s.1, s.2)).bind fun x_10 =>
        bif (x_10 != (0 : Int)) then
          some (((((x_5.2 == x_10) && (x_8.2 == x_10)) && ((x_5.1 : List UInt8) == [])) && (((List.length x_8.1 : Nat) : Int) == (0 : Int))))
        else
          (part (x_5.2 == (0 : Int)) (s22 n (b.1, (b.2.1, b.2.2)) s.2) (0 : Int)).bind fun x_11 =>
          (part (x_5.2 == (0 : Int)) (geti b.2.2 x_11) ([], ([], []))).bind fun e =>
          (part (((x_5.2 == (0 : Int)) && ((x_5.1 : List UInt8) == e.1)) && (x_8.2 == (0 : Int))) (s46 n (b.1, (b.2.1, b.2.2)) s.2) []).bind fun x_12 =>
          (part (((x_5.2 == (0 : Int)) && ((x_5.1 : List UInt8) == e.1)) && (x_8.2 == (0 : Int))) (s45 n x_8.1 x_12) false).bind fun x_13 =>
          some (((((x_5.2 == (0 : Int)) && ((x_5.1 : List UInt8) == e.1)) && (x_8.2 == (0 : Int))) && x_13))
      else
        bif (x_9 != (0 : Int)) then
          some (((((x_5.2 == x_9) && (x_8.2 == x_9)) && ((x_5.1 : List UInt8) == [])) && (((List.length x_8.1 : Nat) : Int) == (0 : Int))))
        else
          (part (x_5.2 == (0 : Int)) (s22 n (b.1, (b.2.1, b.2.2)) s.2) (0 : Int)).bind fun x_14 =>
          (part (x_5.2 == (0 : Int)) (geti b.2.2 x_14) ([], ([], []))).bind fun e_1 =>
          (part (((x_5.2 == (0 : Int)) && ((x_5.1 : List UInt8) == e_1.1)) && (x_8.2 == (0 : Int))) (s46 n (b.1, (b.2.1, b.2.2)) s.2) []).bind fun x_15 =>
          (part (((x_5.2 == (0 : Int)) && ((x_5.1 : List UInt8) == e_1.1)) && (x_8.2 == (0 : Int))) (s45 n x_8.1 x_15) false).bind fun x_16 =>
          some (((((x_5.2 == (0 : Int)) && ((x_5.1 : List UInt8) == e_1.1)) && (x_8.2 == (0 : Int))) && x_16))

def s7_c (n : Nat) : Con := ⟨[(.pair (.slice .str) (.pair (.int .i64) (.slice (.pair .str (.pair (.slice (.int .i64)) (.slice .str)))))), (.pair .str (.slice (.int .i64)))], [], [.bool], fun x y => s7 n x.1 x.2, false⟩
theorem s7_eq (n : Nat) (x : denL [(.pair (.slice .str) (.pair (.int .i64) (.slice (.pair .str (.pair (.slice (.int .i64)) (.slice .str)))))), (.pair .str (.slice (.int .i64)))]) (y : denL []) : funR (e83 n) Go.Proofs.Try.f7 [(.pair (.slice .str) (.pair (.int .i64) (.slice (.pair .str (.pair (.slice (.int .i64)) (.slice .str)))))), (.pair .str (.slice (.int .i64)))] [] [.bool] false [] x y = (s7_c n).fn x y := by kernel_rfl
theorem s7_ok (n : Nat) : ConOK Go.Proofs.Try.prog 7 (s7_c n) := func_ok (h83 n) hP Go.Proofs.Try.func7 (by kernel_rfl) (by kernel_rfl) (O := []) trivial (s7_eq n)
def e84 (n : Nat) : Env := ⟨gT, (7, s7_c n) :: (e83 n).C, gQ, (e83 n).I⟩
theorem h84 (n : Nat) : EnvOK Go.Proofs.Try.prog (e84 n) := env_add (h83 n) (s7_ok n)

def s105_l0 (n : Nat) (d : Int × Int × Unit) (again : (Int × Int × Unit) → Option (Int)) (ks : (Int × Unit → Option (Int)) × Unit) : Option (Int) :=
  match d, ks with
  | (a, b, _), (k0, _) =>
  bif (b != (0 : Int)) then
    (qrem a b).bind fun r =>
    again (b, r, ())
  else
    k0 (a, ())

/-- criadera/taste.divisor -/
def s105 (n : Nat) (a : Int) (b : Int) : Option (Int) :=
  loopG (s105_l0 n) n (a, b, ())
    (fun (a_2, _) =>
      some ((imax a_2 (IntKind.wrap .i64 (0 - a_2)))), ())

def s105_t0 : Templ := ⟨15, [(.int .i64), (.int .i64)], [(0, .v (.hole (.int .i64))), (1, .v (.hole (.int .i64)))], [], []⟩
def s105_x0 : List (Way × Templ) := [(.exit 0, ⟨15, [(.int .i64)], [(0, .v (.hole (.int .i64)))], [], []⟩)]
def s105_o0 (n : Nat) : Ev (denL [(.int .i64)]) := loopO n (e84 n) s105_t0 s105_x0 (s105_l0 n)
theorem s105_b0 (n : Nat) (d) (again) (ks) : codeR (R := (denL [(.int .i64)])) (e84 n) (Hdl.no (R := (denL [(.int .i64)]))) (inn (lp (bd Go.Proofs.Try.f105) 0)) [] (mk s105_t0 d) (turnR (e84 n) s105_t0 s105_x0 again ks) = s105_l0 n d again ks := by kernel_rfl
theorem s105_s0 (n : Nat) : Sound Go.Proofs.Try.prog (Hdl.no (R := (denL [(.int .i64)]))) false (lp (bd Go.Proofs.Try.f105) 0) (s105_o0 n) := loop_ok (h84 n) hP (by kernel_rfl) (O := []) trivial (s105_b0 n)
def s105_c (n : Nat) : Con := ⟨[(.int .i64), (.int .i64)], [], [(.int .i64)], fun x y => s105 n x.1 x.2, false⟩
theorem s105_eq (n : Nat) (x : denL [(.int .i64), (.int .i64)]) (y : denL []) : funR (e84 n) Go.Proofs.Try.f105 [(.int .i64), (.int .i64)] [] [(.int .i64)] false [s105_o0 n] x y = (s105_c n).fn x y := by kernel_rfl
theorem s105_ok (n : Nat) : ConOK Go.Proofs.Try.prog 105 (s105_c n) := func_ok (h84 n) hP Go.Proofs.Try.func105 (by kernel_rfl) (by kernel_rfl) (O := [s105_o0 n]) ⟨s105_s0 n, trivial⟩ (s105_eq n)
def e85 (n : Nat) : Env := ⟨gT, (105, s105_c n) :: (e84 n).C, gQ, (e84 n).I⟩
theorem h85 (n : Nat) : EnvOK Go.Proofs.Try.prog (e85 n) := env_add (h84 n) (s105_ok n)

def s47_l0 (n : Nat) (d : Int × Int × Int × (List Int) × Int × Int × Int × Int × (List Int) × (List (List Int)) × Int × Int × Unit) (again : (Int × Int × Int × (List Int) × Int × Int × Int × Int × (List Int) × (List (List Int)) × Int × Int × Unit) → Option ((Int × Int) × Int)) (ks : (Int × Int × Int × Int × Unit → Option ((Int × Int) × Int)) × Unit) : Option ((Int × Int) × Int) :=
  match d, ks with
  | (b, same, all, t40, t41, t42, p, p_1, p_2, p_3, t6, t6_1, _), (k0, _) =>
  bif (decide (t42 < t41)) then
    (geti t40 t42).bind fun e =>
    (geti p_3 b).bind fun e_1 =>
    (geti e_1 t42).bind fun e_2 =>
    bif (e_2 == e) then
      again (b, (IntKind.wrap .i64 (same + (1 : Int))), all, t40, t41, (IntKind.wrap .i64 (t42 + (1 : Int))), p, p_1, p_2, p_3, t6, t6_1, ())
    else
      again (b, same, all, t40, t41, (IntKind.wrap .i64 (t42 + (1 : Int))), p, p_1, p_2, p_3, t6, t6_1, ())
  else
    k0 (same, all, t6, t6_1, ())

/-- criadera/taste.AgreementOf -/
def s47 (n : Nat) (p : Int × Int × (List Int) × (List (List Int))) (a : Int) (b : Int) : Option ((Int × Int) × Int) :=
  (s89 n (p.1, (p.2.1, (p.2.2.1, p.2.2.2)))).bind fun x =>
  (s90 n (x.1.1, (x.1.2.1, (x.1.2.2.1, x.1.2.2.2))) a).bind fun x_1 =>
  (s90 n (x.1.1, (x.1.2.1, (x.1.2.2.1, x.1.2.2.2))) b).bind fun x_2 =>
  (s80 n ([x.2, x_1, x_2] : List Int)).bind fun x_3 =>
  bif (x_3 != (0 : Int)) then
    some (((0 : Int), (0 : Int)), x_3)
  else
    (geti p.2.2.2 a).bind fun e =>
    loopG (s47_l0 n) n (b, (0 : Int), ((List.length p.2.2.1 : Nat) : Int), e, ((List.length e : Nat) : Int), (0 : Int), p.1, p.2.1, p.2.2.1, p.2.2.2, (0 : Int), (0 : Int), ())
      (fun (same_1, all_1, t6_2, t6_3, _) =>
        (s105 n same_1 all_1).bind fun x_4 =>
        (qdiv .i64 same_1 x_4).bind fun q =>
        (qdiv .i64 all_1 x_4).bind fun q_1 =>
        some ((q, q_1), (0 : Int)), ())

def s47_t0 : Templ := ⟨70, [(.int .i64), (.int .i64), (.int .i64), (.slice (.int .i64)), (.int .i64), (.int .i64), (.int .i64), (.int .i64), (.slice (.int .i64)), (.slice (.slice (.int .i64))), (.int .i64), (.int .i64)], [(2, .v (.hole (.int .i64))), (3, .v (.bptr 70 0)), (6, .v (.bptr 71 0)), (10, .v (.hole (.int .i64))), (11, .v (.hole (.int .i64))), (40, .v (.hole (.slice (.int .i64)))), (41, .v (.hole (.int .i64))), (42, .v (.hole (.int .i64)))], [(70, .box (.pair (.int .i64) (.pair (.int .i64) (.pair (.slice (.int .i64)) (.slice (.slice (.int .i64)))))) [.hole (.int .i64), .hole (.int .i64), .hole (.slice (.int .i64)), .hole (.slice (.slice (.int .i64)))]), (71, .box (.pair (.int .i64) (.int .i64)) [.hole (.int .i64), .hole (.int .i64)])], []⟩
def s47_x0 : List (Way × Templ) := [(.exit 0, ⟨70, [(.int .i64), (.int .i64), (.int .i64), (.int .i64)], [(6, .v (.bptr 70 0)), (10, .v (.hole (.int .i64))), (11, .v (.hole (.int .i64)))], [(70, .box (.pair (.int .i64) (.int .i64)) [.hole (.int .i64), .hole (.int .i64)])], []⟩)]
def s47_o0 (n : Nat) : Ev (denL [(.pair (.int .i64) (.int .i64)), (.int .i64)]) := loopO n (e85 n) s47_t0 s47_x0 (s47_l0 n)
theorem s47_b0 (n : Nat) (d) (again) (ks) : codeR (R := (denL [(.pair (.int .i64) (.int .i64)), (.int .i64)])) (e85 n) (Hdl.no (R := (denL [(.pair (.int .i64) (.int .i64)), (.int .i64)]))) (inn (lp (bd Go.Proofs.Try.f47) 0)) [] (mk s47_t0 d) (turnR (e85 n) s47_t0 s47_x0 again ks) = s47_l0 n d again ks := by kernel_rfl
theorem s47_s0 (n : Nat) : Sound Go.Proofs.Try.prog (Hdl.no (R := (denL [(.pair (.int .i64) (.int .i64)), (.int .i64)]))) false (lp (bd Go.Proofs.Try.f47) 0) (s47_o0 n) := loop_ok (h85 n) hP (by kernel_rfl) (O := []) trivial (s47_b0 n)
def s47_c (n : Nat) : Con := ⟨[(.pair (.int .i64) (.pair (.int .i64) (.pair (.slice (.int .i64)) (.slice (.slice (.int .i64)))))), (.int .i64), (.int .i64)], [], [(.pair (.int .i64) (.int .i64)), (.int .i64)], fun x y => s47 n x.1 x.2.1 x.2.2, false⟩
theorem s47_eq (n : Nat) (x : denL [(.pair (.int .i64) (.pair (.int .i64) (.pair (.slice (.int .i64)) (.slice (.slice (.int .i64)))))), (.int .i64), (.int .i64)]) (y : denL []) : funR (e85 n) Go.Proofs.Try.f47 [(.pair (.int .i64) (.pair (.int .i64) (.pair (.slice (.int .i64)) (.slice (.slice (.int .i64)))))), (.int .i64), (.int .i64)] [] [(.pair (.int .i64) (.int .i64)), (.int .i64)] false [s47_o0 n] x y = (s47_c n).fn x y := by kernel_rfl
theorem s47_ok (n : Nat) : ConOK Go.Proofs.Try.prog 47 (s47_c n) := func_ok (h85 n) hP Go.Proofs.Try.func47 (by kernel_rfl) (by kernel_rfl) (O := [s47_o0 n]) ⟨s47_s0 n, trivial⟩ (s47_eq n)
def e86 (n : Nat) : Env := ⟨gT, (47, s47_c n) :: (e85 n).C, gQ, (e85 n).I⟩
theorem h86 (n : Nat) : EnvOK Go.Proofs.Try.prog (e86 n) := env_add (h85 n) (s47_ok n)

/-- criadera/criaderabase.Size -/
def s144 (n : Nat) (v_n : Int) : Option (Int) :=
  some ((imax v_n (IntKind.wrap .i64 (0 - v_n))))

def s144_c (n : Nat) : Con := ⟨[(.int .i64)], [], [(.int .i64)], fun x y => s144 n x, false⟩
theorem s144_eq (n : Nat) (x : denL [(.int .i64)]) (y : denL []) : funR (e86 n) Go.Proofs.Try.f144 [(.int .i64)] [] [(.int .i64)] false [] x y = (s144_c n).fn x y := by kernel_rfl
theorem s144_ok (n : Nat) : ConOK Go.Proofs.Try.prog 144 (s144_c n) := func_ok (h86 n) hP Go.Proofs.Try.func144 (by kernel_rfl) (by kernel_rfl) (O := []) trivial (s144_eq n)
def e87 (n : Nat) : Env := ⟨gT, (144, s144_c n) :: (e86 n).C, gQ, (e86 n).I⟩
theorem h87 (n : Nat) : EnvOK Go.Proofs.Try.prog (e87 n) := env_add (h86 n) (s144_ok n)

def s133_l0 (n : Nat) (d : Int × Int × Unit) (again : (Int × Int × Unit) → Option (Int)) (ks : (Int × Unit → Option (Int)) × Unit) : Option (Int) :=
  match d, ks with
  | (a, b, _), (k0, _) =>
  bif (b != (0 : Int)) then
    (qrem a b).bind fun r =>
    again (b, r, ())
  else
    k0 (a, ())

/-- criadera/criaderabase.Gcd -/
def s133 (n : Nat) (a : Int) (b : Int) : Option (Int) :=
  loopG (s133_l0 n) n (a, b, ())
    (fun (a_2, _) =>
      (s144 n a_2).bind fun x =>
      some (x), ())

def s133_t0 : Templ := ⟨13, [(.int .i64), (.int .i64)], [(0, .v (.hole (.int .i64))), (1, .v (.hole (.int .i64)))], [], []⟩
def s133_x0 : List (Way × Templ) := [(.exit 0, ⟨13, [(.int .i64)], [(0, .v (.hole (.int .i64)))], [], []⟩)]
def s133_o0 (n : Nat) : Ev (denL [(.int .i64)]) := loopO n (e87 n) s133_t0 s133_x0 (s133_l0 n)
theorem s133_b0 (n : Nat) (d) (again) (ks) : codeR (R := (denL [(.int .i64)])) (e87 n) (Hdl.no (R := (denL [(.int .i64)]))) (inn (lp (bd Go.Proofs.Try.f133) 0)) [] (mk s133_t0 d) (turnR (e87 n) s133_t0 s133_x0 again ks) = s133_l0 n d again ks := by kernel_rfl
theorem s133_s0 (n : Nat) : Sound Go.Proofs.Try.prog (Hdl.no (R := (denL [(.int .i64)]))) false (lp (bd Go.Proofs.Try.f133) 0) (s133_o0 n) := loop_ok (h87 n) hP (by kernel_rfl) (O := []) trivial (s133_b0 n)
def s133_c (n : Nat) : Con := ⟨[(.int .i64), (.int .i64)], [], [(.int .i64)], fun x y => s133 n x.1 x.2, false⟩
theorem s133_eq (n : Nat) (x : denL [(.int .i64), (.int .i64)]) (y : denL []) : funR (e87 n) Go.Proofs.Try.f133 [(.int .i64), (.int .i64)] [] [(.int .i64)] false [s133_o0 n] x y = (s133_c n).fn x y := by kernel_rfl
theorem s133_ok (n : Nat) : ConOK Go.Proofs.Try.prog 133 (s133_c n) := func_ok (h87 n) hP Go.Proofs.Try.func133 (by kernel_rfl) (by kernel_rfl) (O := [s133_o0 n]) ⟨s133_s0 n, trivial⟩ (s133_eq n)
def e88 (n : Nat) : Env := ⟨gT, (133, s133_c n) :: (e87 n).C, gQ, (e87 n).I⟩
theorem h88 (n : Nat) : EnvOK Go.Proofs.Try.prog (e88 n) := env_add (h87 n) (s133_ok n)

/-- criadera/criaderabase.Lowest -/
def s106 (n : Nat) (num : Int) (den : Int) : Option ((Int × Int)) :=
  (s133 n num den).bind fun x =>
  bif (decide (den < (0 : Int))) then
    (qdiv .i64 num (IntKind.wrap .i64 (0 - x))).bind fun q =>
    (qdiv .i64 den (IntKind.wrap .i64 (0 - x))).bind fun q_1 =>
    some ((q, q_1))
  else
    (qdiv .i64 num x).bind fun q_2 =>
    (qdiv .i64 den x).bind fun q_3 =>
    some ((q_2, q_3))

def s106_c (n : Nat) : Con := ⟨[(.int .i64), (.int .i64)], [], [(.pair (.int .i64) (.int .i64))], fun x y => s106 n x.1 x.2, false⟩
theorem s106_eq (n : Nat) (x : denL [(.int .i64), (.int .i64)]) (y : denL []) : funR (e88 n) Go.Proofs.Try.f106 [(.int .i64), (.int .i64)] [] [(.pair (.int .i64) (.int .i64))] false [] x y = (s106_c n).fn x y := by kernel_rfl
theorem s106_ok (n : Nat) : ConOK Go.Proofs.Try.prog 106 (s106_c n) := func_ok (h88 n) hP Go.Proofs.Try.func106 (by kernel_rfl) (by kernel_rfl) (O := []) trivial (s106_eq n)
def e89 (n : Nat) : Env := ⟨gT, (106, s106_c n) :: (e88 n).C, gQ, (e88 n).I⟩
theorem h89 (n : Nat) : EnvOK Go.Proofs.Try.prog (e89 n) := env_add (h88 n) (s106_ok n)

def s48_l0 (n : Nat) (d : Int × Int × Int × Int × Int × Int × (List Int) × (List (List Int)) × Int × Int × Unit) (again : (Int × Int × Int × Int × Int × Int × (List Int) × (List (List Int)) × Int × Int × Unit) → Option ((Int × Int))) (ks : (Int × Int × Int × (List Int) × (List (List Int)) × Int × Int × Unit → Option ((Int × Int))) × Unit) : Option ((Int × Int)) :=
  match d, ks with
  | (a, b, v_n, i, p, p_1, p_2, p_3, t6, t6_1, _), (k0, _) =>
  bif (decide (i < ((List.length p_2 : Nat) : Int))) then
    (geti p_3 a).bind fun e =>
    (geti e i).bind fun e_1 =>
    (geti p_3 b).bind fun e_2 =>
    (geti e_2 i).bind fun e_3 =>
    bif (e_1 == e_3) then
      again (a, b, (IntKind.wrap .i64 (v_n + (1 : Int))), (IntKind.wrap .i64 (i + (1 : Int))), p, p_1, p_2, p_3, t6, t6_1, ())
    else
      again (a, b, v_n, (IntKind.wrap .i64 (i + (1 : Int))), p, p_1, p_2, p_3, t6, t6_1, ())
  else
    k0 (v_n, p, p_1, p_2, p_3, t6, t6_1, ())

/-- criadera/criaderaref07.AgreementOf -/
def s48 (n : Nat) (p : Int × Int × (List Int) × (List (List Int))) (a : Int) (b : Int) : Option ((Int × Int)) :=
  loopG (s48_l0 n) n (a, b, (0 : Int), (0 : Int), p.1, p.2.1, p.2.2.1, p.2.2.2, (0 : Int), (0 : Int), ())
    (fun (v_n_1, p_5, p_6, p_7, p_8, t6_2, t6_3, _) =>
      (s106 n v_n_1 ((List.length p_7 : Nat) : Int)).bind fun x =>
      some ((x.1, x.2)), ())

def s48_t0 : Templ := ⟨40, [(.int .i64), (.int .i64), (.int .i64), (.int .i64), (.int .i64), (.int .i64), (.slice (.int .i64)), (.slice (.slice (.int .i64))), (.int .i64), (.int .i64)], [(1, .v (.hole (.int .i64))), (2, .v (.hole (.int .i64))), (3, .v (.bptr 40 0)), (6, .v (.bptr 41 0)), (7, .v (.hole (.int .i64))), (8, .v (.hole (.int .i64)))], [(40, .box (.pair (.int .i64) (.pair (.int .i64) (.pair (.slice (.int .i64)) (.slice (.slice (.int .i64)))))) [.hole (.int .i64), .hole (.int .i64), .hole (.slice (.int .i64)), .hole (.slice (.slice (.int .i64)))]), (41, .box (.pair (.int .i64) (.int .i64)) [.hole (.int .i64), .hole (.int .i64)])], []⟩
def s48_x0 : List (Way × Templ) := [(.exit 0, ⟨40, [(.int .i64), (.int .i64), (.int .i64), (.slice (.int .i64)), (.slice (.slice (.int .i64))), (.int .i64), (.int .i64)], [(3, .v (.bptr 40 0)), (6, .v (.bptr 41 0)), (7, .v (.hole (.int .i64)))], [(40, .box (.pair (.int .i64) (.pair (.int .i64) (.pair (.slice (.int .i64)) (.slice (.slice (.int .i64)))))) [.hole (.int .i64), .hole (.int .i64), .hole (.slice (.int .i64)), .hole (.slice (.slice (.int .i64)))]), (41, .box (.pair (.int .i64) (.int .i64)) [.hole (.int .i64), .hole (.int .i64)])], []⟩)]
def s48_o0 (n : Nat) : Ev (denL [(.pair (.int .i64) (.int .i64))]) := loopO n (e89 n) s48_t0 s48_x0 (s48_l0 n)
theorem s48_b0 (n : Nat) (d) (again) (ks) : codeR (R := (denL [(.pair (.int .i64) (.int .i64))])) (e89 n) (Hdl.no (R := (denL [(.pair (.int .i64) (.int .i64))]))) (inn (lp (bd Go.Proofs.Try.f48) 0)) [] (mk s48_t0 d) (turnR (e89 n) s48_t0 s48_x0 again ks) = s48_l0 n d again ks := by kernel_rfl
theorem s48_s0 (n : Nat) : Sound Go.Proofs.Try.prog (Hdl.no (R := (denL [(.pair (.int .i64) (.int .i64))]))) false (lp (bd Go.Proofs.Try.f48) 0) (s48_o0 n) := loop_ok (h89 n) hP (by kernel_rfl) (O := []) trivial (s48_b0 n)
def s48_c (n : Nat) : Con := ⟨[(.pair (.int .i64) (.pair (.int .i64) (.pair (.slice (.int .i64)) (.slice (.slice (.int .i64)))))), (.int .i64), (.int .i64)], [], [(.pair (.int .i64) (.int .i64))], fun x y => s48 n x.1 x.2.1 x.2.2, false⟩
theorem s48_eq (n : Nat) (x : denL [(.pair (.int .i64) (.pair (.int .i64) (.pair (.slice (.int .i64)) (.slice (.slice (.int .i64)))))), (.int .i64), (.int .i64)]) (y : denL []) : funR (e89 n) Go.Proofs.Try.f48 [(.pair (.int .i64) (.pair (.int .i64) (.pair (.slice (.int .i64)) (.slice (.slice (.int .i64)))))), (.int .i64), (.int .i64)] [] [(.pair (.int .i64) (.int .i64))] false [s48_o0 n] x y = (s48_c n).fn x y := by kernel_rfl
theorem s48_ok (n : Nat) : ConOK Go.Proofs.Try.prog 48 (s48_c n) := func_ok (h89 n) hP Go.Proofs.Try.func48 (by kernel_rfl) (by kernel_rfl) (O := [s48_o0 n]) ⟨s48_s0 n, trivial⟩ (s48_eq n)
def e90 (n : Nat) : Env := ⟨gT, (48, s48_c n) :: (e89 n).C, gQ, (e89 n).I⟩
theorem h90 (n : Nat) : EnvOK Go.Proofs.Try.prog (e90 n) := env_add (h89 n) (s48_ok n)

/-- criadera/criaderabase.Whole -/
def s49 (n : Nat) (v_n : Int) : Option ((Int × Int)) :=
  some ((v_n, (1 : Int)))

def s49_c (n : Nat) : Con := ⟨[(.int .i64)], [], [(.pair (.int .i64) (.int .i64))], fun x y => s49 n x, false⟩
theorem s49_eq (n : Nat) (x : denL [(.int .i64)]) (y : denL []) : funR (e90 n) Go.Proofs.Try.f49 [(.int .i64)] [] [(.pair (.int .i64) (.int .i64))] false [] x y = (s49_c n).fn x y := by kernel_rfl
theorem s49_ok (n : Nat) : ConOK Go.Proofs.Try.prog 49 (s49_c n) := func_ok (h90 n) hP Go.Proofs.Try.func49 (by kernel_rfl) (by kernel_rfl) (O := []) trivial (s49_eq n)
def e91 (n : Nat) : Env := ⟨gT, (49, s49_c n) :: (e90 n).C, gQ, (e90 n).I⟩
theorem h91 (n : Nat) : EnvOK Go.Proofs.Try.prog (e91 n) := env_add (h90 n) (s49_ok n)

/-- criadera/criaderalaw07.TasteAgrees -/
def s8 (n : Nat) (p : Int × Int × (List Int) × (List (List Int))) (a : Int) (b : Int) : Option (Bool) :=
  (s15 n).bind fun x =>
  bif (!x) then
    some (false)
  else
    (s24 n (p.1, (p.2.1, (p.2.2.1, p.2.2.2)))).bind fun x_1 =>
    bif (!x_1) then
      some (true)
    else
      (s26 n (p.1, (p.2.1, (p.2.2.1, p.2.2.2)))).bind fun x_2 =>
      (s47 n (x_2.1, (x_2.2.1, (x_2.2.2.1, x_2.2.2.2))) a b).bind fun x_3 =>
      (s29 n (p.1, (p.2.1, (p.2.2.1, p.2.2.2)))).bind fun x_4 =>
      bif (x_4 == (0 : Int)) then
        (s30 n a ((List.length p.2.2.2 : Nat) : Int)).bind fun x_5 =>
        bif (x_5 == (0 : Int)) then
          (s30 n b ((List.length p.2.2.2 : Nat) : Int)).bind fun x_6 =>
          bif (x_6 != (0 : Int)) then
            some (((x_3.2 == x_6) && ((x_3.1.1 == (0 : Int)) && (x_3.1.2 == (0 : Int)))))
          else
            (s26 n (p.1, (p.2.1, (p.2.2.1, p.2.2.2)))).bind fun x_7 =>
            (s47 n (x_7.1, (x_7.2.1, (x_7.2.2.1, x_7.2.2.2))) b a).bind fun x_8 =>
            (s26 n (p.1, (p.2.1, (p.2.2.1, p.2.2.2)))).bind fun x_9 =>
            (s47 n (x_9.1, (x_9.2.1, (x_9.2.2.1, x_9.2.2.2))) a a).bind fun x_10 =>
            (part (x_3.2 == (0 : Int)) (s48 n (p.1, (p.2.1, (p.2.2.1, p.2.2.2))) a b) ((0 : Int), (0 : Int))).bind fun x_11 =>
            (part (((((x_3.2 == (0 : Int)) && ((x_3.1.1 == x_11.1) && (x_3.1.2 == x_11.2))) && (x_8.2 == (0 : Int))) && ((x_3.1.1 == x_8.1.1) && (x_3.1.2 == x_8.1.2))) && (x_10.2 == (0 : Int))) (s49 n (1 : Int)) ((0 : Int), (0 : Int))).bind fun x_12 =>
            some (((((((x_3.2 == (0 : Int)) && ((x_3.1.1 == x_11.1) && (x_3.1.2 == x_11.2))) && (x_8.2 == (0 : Int))) && ((x_3.1.1 == x_8.1.1) && (x_3.1.2 == x_8.1.2))) && (x_10.2 == (0 : Int))) && ((x_10.1.1 == x_12.1) && (x_10.1.2 == x_12.2))))
        else
          bif (x_5 != (0 : Int)) then
            some (((x_3.2 == x_5) && ((x_3.1.1 == (0 : Int)) && (x_3.1.2 == (0 : Int)))))
          else
            (s26 n (p.1, (p.2.1, (p.2.2.1, p.2.2.2)))).bind fun x_13 =>
            (s47 n (x_13.1, (x_13.2.1, (x_13.2.2.1, x_13.2.2.2))) b a).bind fun x_14 =>
            (s26 n (p.1, (p.2.1, (p.2.2.1, p.2.2.2)))).bind fun x_15 =>
            (s47 n (x_15.1, (x_15.2.1, (x_15.2.2.1, x_15.2.2.2))) a a).bind fun x_16 =>
            (part (x_3.2 == (0 : Int)) (s48 n (p.1, (p.2.1, (p.2.2.1, p.2.2.2))) a b) ((0 : Int), (0 : Int))).bind fun x_17 =>
            (part (((((x_3.2 == (0 : Int)) && ((x_3.1.1 == x_17.1) && (x_3.1.2 == x_17.2))) && (x_14.2 == (0 : Int))) && ((x_3.1.1 == x_14.1.1) && (x_3.1.2 == x_14.1.2))) && (x_16.2 == (0 : Int))) (s49 n (1 : Int)) ((0 : Int), (0 : Int))).bind fun x_18 =>
            some (((((((x_3.2 == (0 : Int)) && ((x_3.1.1 == x_17.1) && (x_3.1.2 == x_17.2))) && (x_14.2 == (0 : Int))) && ((x_3.1.1 == x_14.1.1) && (x_3.1.2 == x_14.1.2))) && (x_16.2 == (0 : Int))) && ((x_16.1.1 == x_18.1) && (x_16.1.2 == x_18.2))))
      else
        bif (x_4 == (0 : Int)) then
          (s30 n b ((List.length p.2.2.2 : Nat) : Int)).bind fun x_19 =>
          bif (x_19 != (0 : Int)) then
            some (((x_3.2 == x_19) && ((x_3.1.1 == (0 : Int)) && (x_3.1.2 == (0 : Int)))))
          else
            (s26 n (p.1, (p.2.1, (p.2.2.1, p.2.2.2)))).bind fun x_20 =>
            (s47 n (x_20.1, (x_20.2.1, (x_20.2.2.1, x_20.2.2.2))) b a).bind fun x_21 =>
            (s26 n (p.1, (p.2.1, (p.2.2.1, p.2.2.2)))).bind fun x_22 =>
            (s47 n (x_22.1, (x_22.2.1, (x_22.2.2.1, x_22.2.2.2))) a a).bind fun x_23 =>
            (part (x_3.2 == (0 : Int)) (s48 n (p.1, (p.2.1, (p.2.2.1, p.2.2.2))) a b) ((0 : Int), (0 : Int))).bind fun x_24 =>
            (part (((((x_3.2 == (0 : Int)) && ((x_3.1.1 == x_24.1) && (x_3.1.2 == x_24.2))) && (x_21.2 == (0 : Int))) && ((x_3.1.1 == x_21.1.1) && (x_3.1.2 == x_21.1.2))) && (x_23.2 == (0 : Int))) (s49 n (1 : Int)) ((0 : Int), (0 : Int))).bind fun x_25 =>
            some (((((((x_3.2 == (0 : Int)) && ((x_3.1.1 == x_24.1) && (x_3.1.2 == x_24.2))) && (x_21.2 == (0 : Int))) && ((x_3.1.1 == x_21.1.1) && (x_3.1.2 == x_21.1.2))) && (x_23.2 == (0 : Int))) && ((x_23.1.1 == x_25.1) && (x_23.1.2 == x_25.2))))
        else
          bif (x_4 != (0 : Int)) then
            some (((x_3.2 == x_4) && ((x_3.1.1 == (0 : Int)) && (x_3.1.2 == (0 : Int)))))
          else
            (s26 n (p.1, (p.2.1, (p.2.2.1, p.2.2.2)))).bind fun x_26 =>
            (s47 n (x_26.1, (x_26.2.1, (x_26.2.2.1, x_26.2.2.2))) b a).bind fun x_27 =>
            (s26 n (p.1, (p.2.1, (p.2.2.1, p.2.2.2)))).bind fun x_28 =>
            (s47 n (x_28.1, (x_28.2.1, (x_28.2.2.1, x_28.2.2.2))) a a).bind fun x_29 =>
            (part (x_3.2 == (0 : Int)) (s48 n (p.1, (p.2.1, (p.2.2.1, p.2.2.2))) a b) ((0 : Int), (0 : Int))).bind fun x_30 =>
            (part (((((x_3.2 == (0 : Int)) && ((x_3.1.1 == x_30.1) && (x_3.1.2 == x_30.2))) && (x_27.2 == (0 : Int))) && ((x_3.1.1 == x_27.1.1) && (x_3.1.2 == x_27.1.2))) && (x_29.2 == (0 : Int))) (s49 n (1 : Int)) ((0 : Int), (0 : Int))).bind fun x_31 =>
            some (((((((x_3.2 == (0 : Int)) && ((x_3.1.1 == x_30.1) && (x_3.1.2 == x_30.2))) && (x_27.2 == (0 : Int))) && ((x_3.1.1 == x_27.1.1) && (x_3.1.2 == x_27.1.2))) && (x_29.2 == (0 : Int))) && ((x_29.1.1 == x_31.1) && (x_29.1.2 == x_31.2))))

def s8_c (n : Nat) : Con := ⟨[(.pair (.int .i64) (.pair (.int .i64) (.pair (.slice (.int .i64)) (.slice (.slice (.int .i64)))))), (.int .i64), (.int .i64)], [], [.bool], fun x y => s8 n x.1 x.2.1 x.2.2, false⟩
theorem s8_eq (n : Nat) (x : denL [(.pair (.int .i64) (.pair (.int .i64) (.pair (.slice (.int .i64)) (.slice (.slice (.int .i64)))))), (.int .i64), (.int .i64)]) (y : denL []) : funR (e91 n) Go.Proofs.Try.f8 [(.pair (.int .i64) (.pair (.int .i64) (.pair (.slice (.int .i64)) (.slice (.slice (.int .i64)))))), (.int .i64), (.int .i64)] [] [.bool] false [] x y = (s8_c n).fn x y := by kernel_rfl
theorem s8_ok (n : Nat) : ConOK Go.Proofs.Try.prog 8 (s8_c n) := func_ok (h91 n) hP Go.Proofs.Try.func8 (by kernel_rfl) (by kernel_rfl) (O := []) trivial (s8_eq n)
def e92 (n : Nat) : Env := ⟨gT, (8, s8_c n) :: (e91 n).C, gQ, (e91 n).I⟩
theorem h92 (n : Nat) : EnvOK Go.Proofs.Try.prog (e92 n) := env_add (h91 n) (s8_ok n)

/-- criadera/taste.shareErr -/
def s109 (n : Nat) (f : Int × Int) : Option (Int) :=
  (part (!(decide (f.2 < (1 : Int)))) (s105 n f.1 f.2) (0 : Int)).bind fun x =>
  bif ((decide (f.2 < (1 : Int))) || (x != (1 : Int))) then
    some ((3 : Int))
  else
    (s82 n f.1 (0 : Int) f.2).bind fun x_1 =>
    (s81 n (x_1 && (decide (f.2 ≤ (1000000000 : Int)))) (2 : Int)).bind fun x_2 =>
    some (x_2)

def s109_c (n : Nat) : Con := ⟨[(.pair (.int .i64) (.int .i64))], [], [(.int .i64)], fun x y => s109 n x, false⟩
theorem s109_eq (n : Nat) (x : denL [(.pair (.int .i64) (.int .i64))]) (y : denL []) : funR (e92 n) Go.Proofs.Try.f109 [(.pair (.int .i64) (.int .i64))] [] [(.int .i64)] false [] x y = (s109_c n).fn x y := by kernel_rfl
theorem s109_ok (n : Nat) : ConOK Go.Proofs.Try.prog 109 (s109_c n) := func_ok (h92 n) hP Go.Proofs.Try.func109 (by kernel_rfl) (by kernel_rfl) (O := []) trivial (s109_eq n)
def e93 (n : Nat) : Env := ⟨gT, (109, s109_c n) :: (e92 n).C, gQ, (e92 n).I⟩
theorem h93 (n : Nat) : EnvOK Go.Proofs.Try.prog (e93 n) := env_add (h92 n) (s109_ok n)

def s110_l0 (n : Nat) (d : Int × Int × Int × Int × (List Int) × (List (List Int)) × Int × Int × (List Int) × Unit) (again : (Int × Int × Int × Int × (List Int) × (List (List Int)) × Int × Int × (List Int) × Unit) → Option ((List Int))) (ks : ((List Int) × Unit → Option ((List Int))) × Unit) : Option ((List Int)) :=
  match d, ks with
  | (t11, t12, p, p_1, p_2, p_3, least, least_1, out, _), (k0, _) =>
  bif (decide (t12 < t11)) then
    (s91 n (p, (p_1, (p_2, p_3))) t12).bind fun x =>
    bif (decide ((IntKind.wrap .i64 (x.1 * least_1)) ≥ (IntKind.wrap .i64 (least * x.2)))) then
      (chk (List.length out + List.length ([t12] : List Int))).bind fun u =>
      again (t11, (IntKind.wrap .i64 (t12 + (1 : Int))), p, p_1, p_2, p_3, least, least_1, (out ++ ([t12] : List Int)), ())
    else
      again (t11, (IntKind.wrap .i64 (t12 + (1 : Int))), p, p_1, p_2, p_3, least, least_1, out, ())
  else
    k0 (out, ())

/-- (criadera/taste.panel).steadiest -/
def s110 (n : Nat) (p : Int × Int × (List Int) × (List (List Int))) (least : Int × Int) : Option ((List Int)) :=
  loopG (s110_l0 n) n (((List.length p.2.2.2 : Nat) : Int), (0 : Int), p.1, p.2.1, p.2.2.1, p.2.2.2, least.1, least.2, ([] : List Int), ())
    (fun (out_1, _) =>
      some (out_1), ())

def s110_t0 : Templ := ⟨35, [(.int .i64), (.int .i64), (.int .i64), (.int .i64), (.slice (.int .i64)), (.slice (.slice (.int .i64))), (.int .i64), (.int .i64), (.slice (.int .i64))], [(2, .v (.bptr 35 0)), (3, .v (.bptr 36 0)), (5, .v (.hand 37)), (11, .v (.hole (.int .i64))), (12, .v (.hole (.int .i64)))], [(35, .box (.pair (.int .i64) (.pair (.int .i64) (.pair (.slice (.int .i64)) (.slice (.slice (.int .i64)))))) [.hole (.int .i64), .hole (.int .i64), .hole (.slice (.int .i64)), .hole (.slice (.slice (.int .i64)))]), (36, .box (.pair (.int .i64) (.int .i64)) [.hole (.int .i64), .hole (.int .i64)]), (37, .buf (.int .i64))], []⟩
def s110_x0 : List (Way × Templ) := [(.exit 0, ⟨35, [(.slice (.int .i64))], [(5, .v (.hand 35))], [(35, .buf (.int .i64))], []⟩)]
def s110_o0 (n : Nat) : Ev (denL [(.slice (.int .i64))]) := loopO n (e93 n) s110_t0 s110_x0 (s110_l0 n)
theorem s110_b0 (n : Nat) (d) (again) (ks) : codeR (R := (denL [(.slice (.int .i64))])) (e93 n) (Hdl.no (R := (denL [(.slice (.int .i64))]))) (inn (lp (bd Go.Proofs.Try.f110) 0)) [] (mk s110_t0 d) (turnR (e93 n) s110_t0 s110_x0 again ks) = s110_l0 n d again ks := by kernel_rfl
theorem s110_s0 (n : Nat) : Sound Go.Proofs.Try.prog (Hdl.no (R := (denL [(.slice (.int .i64))]))) false (lp (bd Go.Proofs.Try.f110) 0) (s110_o0 n) := loop_ok (h93 n) hP (by kernel_rfl) (O := []) trivial (s110_b0 n)
def s110_c (n : Nat) : Con := ⟨[(.pair (.int .i64) (.pair (.int .i64) (.pair (.slice (.int .i64)) (.slice (.slice (.int .i64)))))), (.pair (.int .i64) (.int .i64))], [], [(.slice (.int .i64))], fun x y => s110 n x.1 x.2, false⟩
theorem s110_eq (n : Nat) (x : denL [(.pair (.int .i64) (.pair (.int .i64) (.pair (.slice (.int .i64)) (.slice (.slice (.int .i64)))))), (.pair (.int .i64) (.int .i64))]) (y : denL []) : funR (e93 n) Go.Proofs.Try.f110 [(.pair (.int .i64) (.pair (.int .i64) (.pair (.slice (.int .i64)) (.slice (.slice (.int .i64)))))), (.pair (.int .i64) (.int .i64))] [] [(.slice (.int .i64))] false [s110_o0 n] x y = (s110_c n).fn x y := by kernel_rfl
theorem s110_ok (n : Nat) : ConOK Go.Proofs.Try.prog 110 (s110_c n) := func_ok (h93 n) hP Go.Proofs.Try.func110 (by kernel_rfl) (by kernel_rfl) (O := [s110_o0 n]) ⟨s110_s0 n, trivial⟩ (s110_eq n)
def e94 (n : Nat) : Env := ⟨gT, (110, s110_c n) :: (e93 n).C, gQ, (e93 n).I⟩
theorem h94 (n : Nat) : EnvOK Go.Proofs.Try.prog (e94 n) := env_add (h93 n) (s110_ok n)

/-- criadera/taste.Steadiest -/
def s51 (n : Nat) (p : Int × Int × (List Int) × (List (List Int))) (least : Int × Int) : Option ((List Int) × Int) :=
  (s89 n (p.1, (p.2.1, (p.2.2.1, p.2.2.2)))).bind fun x =>
  (s109 n (least.1, least.2)).bind fun x_1 =>
  (s80 n ([x.2, x_1] : List Int)).bind fun x_2 =>
  bif (x_2 != (0 : Int)) then
    some (([] : List Int), x_2)
  else
    (s110 n (x.1.1, (x.1.2.1, (x.1.2.2.1, x.1.2.2.2))) (least.1, least.2)).bind fun x_3 =>
    some (x_3, (0 : Int))

def s51_c (n : Nat) : Con := ⟨[(.pair (.int .i64) (.pair (.int .i64) (.pair (.slice (.int .i64)) (.slice (.slice (.int .i64)))))), (.pair (.int .i64) (.int .i64))], [], [(.slice (.int .i64)), (.int .i64)], fun x y => s51 n x.1 x.2, false⟩
theorem s51_eq (n : Nat) (x : denL [(.pair (.int .i64) (.pair (.int .i64) (.pair (.slice (.int .i64)) (.slice (.slice (.int .i64)))))), (.pair (.int .i64) (.int .i64))]) (y : denL []) : funR (e94 n) Go.Proofs.Try.f51 [(.pair (.int .i64) (.pair (.int .i64) (.pair (.slice (.int .i64)) (.slice (.slice (.int .i64)))))), (.pair (.int .i64) (.int .i64))] [] [(.slice (.int .i64)), (.int .i64)] false [] x y = (s51_c n).fn x y := by kernel_rfl
theorem s51_ok (n : Nat) : ConOK Go.Proofs.Try.prog 51 (s51_c n) := func_ok (h94 n) hP Go.Proofs.Try.func51 (by kernel_rfl) (by kernel_rfl) (O := []) trivial (s51_eq n)
def e95 (n : Nat) : Env := ⟨gT, (51, s51_c n) :: (e94 n).C, gQ, (e94 n).I⟩
theorem h95 (n : Nat) : EnvOK Go.Proofs.Try.prog (e95 n) := env_add (h94 n) (s51_ok n)

def s53_l0_0 (n : Nat) (d : (List Int) × Int × Int × Int × Int × (List Int) × (List (List Int)) × Int × Int × Int × Int × Unit) (again : ((List Int) × Int × Int × Int × Int × (List Int) × (List (List Int)) × Int × Int × Int × Int × Unit) → Option ((Int × Int))) (ks : ((List Int) × Int × Int × Int × (List Int) × (List (List Int)) × Int × Int × Int × Int × Unit → Option ((Int × Int))) × Unit) : Option ((Int × Int)) :=
  match d, ks with
  | (l, i, v_k, p, p_1, p_2, p_3, t4, t4_1, out, out_1, _), (k0, _) =>
  bif (decide (v_k < ((List.length l : Nat) : Int))) then
    (geti p_2 i).bind fun e =>
    (geti p_2 v_k).bind fun e_1 =>
    bif (e != e_1) then
      again (l, i, (IntKind.wrap .i64 (v_k + (1 : Int))), p, p_1, p_2, p_3, t4, t4_1, out, out_1, ())
    else
      (geti l i).bind fun e_2 =>
      (geti l v_k).bind fun e_3 =>
      bif (e_2 == e_3) then
        again (l, i, (IntKind.wrap .i64 (v_k + (1 : Int))), p, p_1, p_2, p_3, t4, t4_1, (IntKind.wrap .i64 (out + (1 : Int))), (IntKind.wrap .i64 (out_1 + (1 : Int))), ())
      else
        again (l, i, (IntKind.wrap .i64 (v_k + (1 : Int))), p, p_1, p_2, p_3, t4, t4_1, out, (IntKind.wrap .i64 (out_1 + (1 : Int))), ())
  else
    k0 (l, i, p, p_1, p_2, p_3, t4, t4_1, out, out_1, ())

def s53_l0 (n : Nat) (d : (List Int) × Int × Int × Int × (List Int) × (List (List Int)) × Int × Int × Int × Int × Unit) (again : ((List Int) × Int × Int × Int × (List Int) × (List (List Int)) × Int × Int × Int × Int × Unit) → Option ((Int × Int))) (ks : (Int × Int × Int × Int × Unit → Option ((Int × Int))) × Unit) : Option ((Int × Int)) :=
  match d, ks with
  | (l, i, p, p_1, p_2, p_3, t4, t4_1, out, out_1, _), (k0, _) =>
  bif (decide (i < ((List.length l : Nat) : Int))) then
    loopG (s53_l0_0 n) n (l, i, (IntKind.wrap .i64 (i + (1 : Int))), p, p_1, p_2, p_3, t4, t4_1, out, out_1, ())
      (fun (l_2, i_2, p_8, p_9, p_10, p_11, t4_4, t4_5, out_4, out_5, _) =>
        again (l_2, (IntKind.wrap .i64 (i_2 + (1 : Int))), p_8, p_9, p_10, p_11, t4_4, t4_5, out_4, out_5, ()), ())
  else
    k0 (t4, t4_1, out, out_1, ())

/-- criadera/criaderaref07.SteadyOf -/
def s53 (n : Nat) (p : Int × Int × (List Int) × (List (List Int))) (taster : Int) : Option ((Int × Int)) :=
  (geti p.2.2.2 taster).bind fun e =>
  loopG (s53_l0 n) n (e, (0 : Int), p.1, p.2.1, p.2.2.1, p.2.2.2, (0 : Int), (0 : Int), (0 : Int), (0 : Int), ())
    (fun (t4_6, t4_7, out_6, out_7, _) =>
      some ((out_6, out_7)), ())

def s53_t0_0 : Templ := ⟨57, [(.slice (.int .i64)), (.int .i64), (.int .i64), (.int .i64), (.int .i64), (.slice (.int .i64)), (.slice (.slice (.int .i64))), (.int .i64), (.int .i64), (.int .i64), (.int .i64)], [(2, .v (.bptr 57 0)), (4, .v (.bptr 58 0)), (5, .v (.bptr 59 0)), (6, .v (.hole (.slice (.int .i64)))), (7, .v (.hole (.int .i64))), (8, .v (.hole (.int .i64)))], [(57, .box (.pair (.int .i64) (.pair (.int .i64) (.pair (.slice (.int .i64)) (.slice (.slice (.int .i64)))))) [.hole (.int .i64), .hole (.int .i64), .hole (.slice (.int .i64)), .hole (.slice (.slice (.int .i64)))]), (58, .box (.pair (.int .i64) (.int .i64)) [.hole (.int .i64), .hole (.int .i64)]), (59, .box (.pair (.int .i64) (.int .i64)) [.hole (.int .i64), .hole (.int .i64)])], []⟩
def s53_x0_0 : List (Way × Templ) := [(.exit 2, ⟨57, [(.slice (.int .i64)), (.int .i64), (.int .i64), (.int .i64), (.slice (.int .i64)), (.slice (.slice (.int .i64))), (.int .i64), (.int .i64), (.int .i64), (.int .i64)], [(2, .v (.bptr 57 0)), (4, .v (.bptr 58 0)), (5, .v (.bptr 59 0)), (6, .v (.hole (.slice (.int .i64)))), (7, .v (.hole (.int .i64)))], [(57, .box (.pair (.int .i64) (.pair (.int .i64) (.pair (.slice (.int .i64)) (.slice (.slice (.int .i64)))))) [.hole (.int .i64), .hole (.int .i64), .hole (.slice (.int .i64)), .hole (.slice (.slice (.int .i64)))]), (58, .box (.pair (.int .i64) (.int .i64)) [.hole (.int .i64), .hole (.int .i64)]), (59, .box (.pair (.int .i64) (.int .i64)) [.hole (.int .i64), .hole (.int .i64)])], []⟩)]
def s53_o0_0 (n : Nat) : Ev (denL [(.pair (.int .i64) (.int .i64))]) := loopO n (e95 n) s53_t0_0 s53_x0_0 (s53_l0_0 n)
theorem s53_b0_0 (n : Nat) (d) (again) (ks) : codeR (R := (denL [(.pair (.int .i64) (.int .i64))])) (e95 n) (Hdl.no (R := (denL [(.pair (.int .i64) (.int .i64))]))) (inn (lp (inn (lp (bd Go.Proofs.Try.f53) 0)) 0)) [] (mk s53_t0_0 d) (turnR (e95 n) s53_t0_0 s53_x0_0 again ks) = s53_l0_0 n d again ks := by kernel_rfl
theorem s53_s0_0 (n : Nat) : Sound Go.Proofs.Try.prog (Hdl.no (R := (denL [(.pair (.int .i64) (.int .i64))]))) false (lp (inn (lp (bd Go.Proofs.Try.f53) 0)) 0) (s53_o0_0 n) := loop_ok (h95 n) hP (by kernel_rfl) (O := []) trivial (s53_b0_0 n)
def s53_t0 : Templ := ⟨57, [(.slice (.int .i64)), (.int .i64), (.int .i64), (.int .i64), (.slice (.int .i64)), (.slice (.slice (.int .i64))), (.int .i64), (.int .i64), (.int .i64), (.int .i64)], [(2, .v (.bptr 57 0)), (4, .v (.bptr 58 0)), (5, .v (.bptr 59 0)), (6, .v (.hole (.slice (.int .i64)))), (7, .v (.hole (.int .i64)))], [(57, .box (.pair (.int .i64) (.pair (.int .i64) (.pair (.slice (.int .i64)) (.slice (.slice (.int .i64)))))) [.hole (.int .i64), .hole (.int .i64), .hole (.slice (.int .i64)), .hole (.slice (.slice (.int .i64)))]), (58, .box (.pair (.int .i64) (.int .i64)) [.hole (.int .i64), .hole (.int .i64)]), (59, .box (.pair (.int .i64) (.int .i64)) [.hole (.int .i64), .hole (.int .i64)])], []⟩
def s53_x0 : List (Way × Templ) := [(.exit 0, ⟨57, [(.int .i64), (.int .i64), (.int .i64), (.int .i64)], [(4, .v (.bptr 57 0)), (5, .v (.bptr 58 0))], [(57, .box (.pair (.int .i64) (.int .i64)) [.hole (.int .i64), .hole (.int .i64)]), (58, .box (.pair (.int .i64) (.int .i64)) [.hole (.int .i64), .hole (.int .i64)])], []⟩)]
def s53_o0 (n : Nat) : Ev (denL [(.pair (.int .i64) (.int .i64))]) := loopO n (e95 n) s53_t0 s53_x0 (s53_l0 n)
theorem s53_b0 (n : Nat) (d) (again) (ks) : codeR (R := (denL [(.pair (.int .i64) (.int .i64))])) (e95 n) (Hdl.no (R := (denL [(.pair (.int .i64) (.int .i64))]))) (inn (lp (bd Go.Proofs.Try.f53) 0)) [s53_o0_0 n] (mk s53_t0 d) (turnR (e95 n) s53_t0 s53_x0 again ks) = s53_l0 n d again ks := by kernel_rfl
theorem s53_s0 (n : Nat) : Sound Go.Proofs.Try.prog (Hdl.no (R := (denL [(.pair (.int .i64) (.int .i64))]))) false (lp (bd Go.Proofs.Try.f53) 0) (s53_o0 n) := loop_ok (h95 n) hP (by kernel_rfl) (O := [s53_o0_0 n]) ⟨s53_s0_0 n, trivial⟩ (s53_b0 n)
def s53_c (n : Nat) : Con := ⟨[(.pair (.int .i64) (.pair (.int .i64) (.pair (.slice (.int .i64)) (.slice (.slice (.int .i64)))))), (.int .i64)], [], [(.pair (.int .i64) (.int .i64))], fun x y => s53 n x.1 x.2, false⟩
theorem s53_eq (n : Nat) (x : denL [(.pair (.int .i64) (.pair (.int .i64) (.pair (.slice (.int .i64)) (.slice (.slice (.int .i64)))))), (.int .i64)]) (y : denL []) : funR (e95 n) Go.Proofs.Try.f53 [(.pair (.int .i64) (.pair (.int .i64) (.pair (.slice (.int .i64)) (.slice (.slice (.int .i64)))))), (.int .i64)] [] [(.pair (.int .i64) (.int .i64))] false [s53_o0 n] x y = (s53_c n).fn x y := by kernel_rfl
theorem s53_ok (n : Nat) : ConOK Go.Proofs.Try.prog 53 (s53_c n) := func_ok (h95 n) hP Go.Proofs.Try.func53 (by kernel_rfl) (by kernel_rfl) (O := [s53_o0 n]) ⟨s53_s0 n, trivial⟩ (s53_eq n)
def e96 (n : Nat) : Env := ⟨gT, (53, s53_c n) :: (e95 n).C, gQ, (e95 n).I⟩
theorem h96 (n : Nat) : EnvOK Go.Proofs.Try.prog (e96 n) := env_add (h95 n) (s53_ok n)

/-- criadera/criaderabase.IsLowest -/
def s111 (n : Nat) (f : Int × Int) : Option (Bool) :=
  (part (decide (f.2 > (0 : Int))) (s133 n f.1 f.2) (0 : Int)).bind fun x =>
  some (((decide (f.2 > (0 : Int))) && (x == (1 : Int))))

def s111_c (n : Nat) : Con := ⟨[(.pair (.int .i64) (.int .i64))], [], [.bool], fun x y => s111 n x, false⟩
theorem s111_eq (n : Nat) (x : denL [(.pair (.int .i64) (.int .i64))]) (y : denL []) : funR (e96 n) Go.Proofs.Try.f111 [(.pair (.int .i64) (.int .i64))] [] [.bool] false [] x y = (s111_c n).fn x y := by kernel_rfl
theorem s111_ok (n : Nat) : ConOK Go.Proofs.Try.prog 111 (s111_c n) := func_ok (h96 n) hP Go.Proofs.Try.func111 (by kernel_rfl) (by kernel_rfl) (O := []) trivial (s111_eq n)
def e97 (n : Nat) : Env := ⟨gT, (111, s111_c n) :: (e96 n).C, gQ, (e96 n).I⟩
theorem h97 (n : Nat) : EnvOK Go.Proofs.Try.prog (e97 n) := env_add (h96 n) (s111_ok n)

/-- criadera/criaderaref07.ShareErr -/
def s54 (n : Nat) (f : Int × Int) : Option (Int) :=
  (s111 n (f.1, f.2)).bind fun x =>
  bif (!x) then
    some ((3 : Int))
  else
    bif (((decide (f.1 < (0 : Int))) || (decide (f.1 > f.2))) || (decide (f.2 > (1000000000 : Int)))) then
      some ((2 : Int))
    else
      some ((0 : Int))

def s54_c (n : Nat) : Con := ⟨[(.pair (.int .i64) (.int .i64))], [], [(.int .i64)], fun x y => s54 n x, false⟩
theorem s54_eq (n : Nat) (x : denL [(.pair (.int .i64) (.int .i64))]) (y : denL []) : funR (e97 n) Go.Proofs.Try.f54 [(.pair (.int .i64) (.int .i64))] [] [(.int .i64)] false [] x y = (s54_c n).fn x y := by kernel_rfl
theorem s54_ok (n : Nat) : ConOK Go.Proofs.Try.prog 54 (s54_c n) := func_ok (h97 n) hP Go.Proofs.Try.func54 (by kernel_rfl) (by kernel_rfl) (O := []) trivial (s54_eq n)
def e98 (n : Nat) : Env := ⟨gT, (54, s54_c n) :: (e97 n).C, gQ, (e97 n).I⟩
theorem h98 (n : Nat) : EnvOK Go.Proofs.Try.prog (e98 n) := env_add (h97 n) (s54_ok n)

def s55_l0 (n : Nat) (d : Int × Int × Int × (List Int) × (List (List Int)) × Int × Int × (List Int) × Unit) (again : (Int × Int × Int × (List Int) × (List (List Int)) × Int × Int × (List Int) × Unit) → Option ((List Int))) (ks : ((List Int) × Unit → Option ((List Int))) × Unit) : Option ((List Int)) :=
  match d, ks with
  | (i, p, p_1, p_2, p_3, least, least_1, out, _), (k0, _) =>
  bif (decide (i < ((List.length p_3 : Nat) : Int))) then
    (s53 n (p, (p_1, (p_2, p_3))) i).bind fun x =>
    bif (decide ((IntKind.wrap .i64 (x.1 * least_1)) ≥ (IntKind.wrap .i64 (least * x.2)))) then
      (chk (List.length out + List.length ([i] : List Int))).bind fun u =>
      again ((IntKind.wrap .i64 (i + (1 : Int))), p, p_1, p_2, p_3, least, least_1, (out ++ ([i] : List Int)), ())
    else
      again ((IntKind.wrap .i64 (i + (1 : Int))), p, p_1, p_2, p_3, least, least_1, out, ())
  else
    k0 (out, ())

/-- criadera/criaderaref07.Steadiest -/
def s55 (n : Nat) (p : Int × Int × (List Int) × (List (List Int))) (least : Int × Int) : Option ((List Int)) :=
  loopG (s55_l0 n) n ((0 : Int), p.1, p.2.1, p.2.2.1, p.2.2.2, least.1, least.2, ([] : List Int), ())
    (fun (out_1, _) =>
      some (out_1), ())

def s55_t0 : Templ := ⟨34, [(.int .i64), (.int .i64), (.int .i64), (.slice (.int .i64)), (.slice (.slice (.int .i64))), (.int .i64), (.int .i64), (.slice (.int .i64))], [(2, .v (.bptr 34 0)), (3, .v (.bptr 35 0)), (5, .v (.hand 36)), (6, .v (.hole (.int .i64)))], [(34, .box (.pair (.int .i64) (.pair (.int .i64) (.pair (.slice (.int .i64)) (.slice (.slice (.int .i64)))))) [.hole (.int .i64), .hole (.int .i64), .hole (.slice (.int .i64)), .hole (.slice (.slice (.int .i64)))]), (35, .box (.pair (.int .i64) (.int .i64)) [.hole (.int .i64), .hole (.int .i64)]), (36, .buf (.int .i64))], []⟩
def s55_x0 : List (Way × Templ) := [(.exit 0, ⟨34, [(.slice (.int .i64))], [(5, .v (.hand 34))], [(34, .buf (.int .i64))], []⟩)]
def s55_o0 (n : Nat) : Ev (denL [(.slice (.int .i64))]) := loopO n (e98 n) s55_t0 s55_x0 (s55_l0 n)
theorem s55_b0 (n : Nat) (d) (again) (ks) : codeR (R := (denL [(.slice (.int .i64))])) (e98 n) (Hdl.no (R := (denL [(.slice (.int .i64))]))) (inn (lp (bd Go.Proofs.Try.f55) 0)) [] (mk s55_t0 d) (turnR (e98 n) s55_t0 s55_x0 again ks) = s55_l0 n d again ks := by kernel_rfl
theorem s55_s0 (n : Nat) : Sound Go.Proofs.Try.prog (Hdl.no (R := (denL [(.slice (.int .i64))]))) false (lp (bd Go.Proofs.Try.f55) 0) (s55_o0 n) := loop_ok (h98 n) hP (by kernel_rfl) (O := []) trivial (s55_b0 n)
def s55_c (n : Nat) : Con := ⟨[(.pair (.int .i64) (.pair (.int .i64) (.pair (.slice (.int .i64)) (.slice (.slice (.int .i64)))))), (.pair (.int .i64) (.int .i64))], [], [(.slice (.int .i64))], fun x y => s55 n x.1 x.2, false⟩
theorem s55_eq (n : Nat) (x : denL [(.pair (.int .i64) (.pair (.int .i64) (.pair (.slice (.int .i64)) (.slice (.slice (.int .i64)))))), (.pair (.int .i64) (.int .i64))]) (y : denL []) : funR (e98 n) Go.Proofs.Try.f55 [(.pair (.int .i64) (.pair (.int .i64) (.pair (.slice (.int .i64)) (.slice (.slice (.int .i64)))))), (.pair (.int .i64) (.int .i64))] [] [(.slice (.int .i64))] false [s55_o0 n] x y = (s55_c n).fn x y := by kernel_rfl
theorem s55_ok (n : Nat) : ConOK Go.Proofs.Try.prog 55 (s55_c n) := func_ok (h98 n) hP Go.Proofs.Try.func55 (by kernel_rfl) (by kernel_rfl) (O := [s55_o0 n]) ⟨s55_s0 n, trivial⟩ (s55_eq n)
def e99 (n : Nat) : Env := ⟨gT, (55, s55_c n) :: (e98 n).C, gQ, (e98 n).I⟩
theorem h99 (n : Nat) : EnvOK Go.Proofs.Try.prog (e99 n) := env_add (h98 n) (s55_ok n)

/-- criadera/criaderalaw07.TastePanels -/
def s9 (n : Nat) (p : Int × Int × (List Int) × (List (List Int))) (taster : Int) (least : Int × Int) : Option (Bool) :=
  (s15 n).bind fun x =>
  bif (!x) then
    some (false)
  else
    (s24 n (p.1, (p.2.1, (p.2.2.1, p.2.2.2)))).bind fun x_1 =>
    bif (!x_1) then
      some (true)
    else
      (s26 n (p.1, (p.2.1, (p.2.2.1, p.2.2.2)))).bind fun x_2 =>
      (s50 n (x_2.1, (x_2.2.1, (x_2.2.2.1, x_2.2.2.2)))).bind fun x_3 =>
      (s26 n (p.1, (p.2.1, (p.2.2.1, p.2.2.2)))).bind fun x_4 =>
      (s35 n (x_4.1, (x_4.2.1, (x_4.2.2.1, x_4.2.2.2))) taster).bind fun x_5 =>
      (s26 n (p.1, (p.2.1, (p.2.2.1, p.2.2.2)))).bind fun x_6 =>
      (s51 n (x_6.1, (x_6.2.1, (x_6.2.2.1, x_6.2.2.2))) (least.1, least.2)).bind fun x_7 =>
      (s52 n (p.1, (p.2.1, (p.2.2.1, p.2.2.2)))).bind fun x_8 =>
      bif ((x_3.2 != x_8.2) || (x_3.1 != x_8.1)) then
        some (false)
      else
        bif (x_8.2 != (0 : Int)) then
          some (((((x_5.2 == x_8.2) && (x_7.2 == x_8.2)) && ((x_5.1.1 == (0 : Int)) && (x_5.1.2 == (0 : Int)))) && (((List.length x_7.1 : Nat) : Int) == (0 : Int))))
        else
          (s30 n taster ((List.length p.2.2.2 : Nat) : Int)).bind fun x_9 =>
          (part (((!((x_9 != (0 : Int)) && ((x_5.2 != x_9) || (!((x_5.1.1 == (0 : Int)) && (x_5.1.2 == (0 : Int))))))) && (x_9 == (0 : Int))) && (!(x_5.2 != (0 : Int)))) (s53 n (p.1, (p.2.1, (p.2.2.1, p.2.2.2))) taster) ((0 : Int), (0 : Int))).bind fun x_10 =>
          bif (((x_9 != (0 : Int)) && ((x_5.2 != x_9) || (!((x_5.1.1 == (0 : Int)) && (x_5.1.2 == (0 : Int)))))) || ((x_9 == (0 : Int)) && ((x_5.2 != (0 : Int)) || (!((x_5.1.1 == x_10.1) && (x_5.1.2 == x_10.2)))))) then
            some (false)
          else
            (s54 n (least.1, least.2)).bind fun x_11 =>
            bif (x_11 != (0 : Int)) then
              some (((x_7.2 == x_11) && (((List.length x_7.1 : Nat) : Int) == (0 : Int))))
            else
              (part (x_7.2 == (0 : Int)) (s55 n (p.1, (p.2.1, (p.2.2.1, p.2.2.2))) (least.1, least.2)) []).bind fun x_12 =>
              (part (x_7.2 == (0 : Int)) (s32 n x_7.1 x_12) false).bind fun x_13 =>
              some (((x_7.2 == (0 : Int)) && x_13))

def s9_c (n : Nat) : Con := ⟨[(.pair (.int .i64) (.pair (.int .i64) (.pair (.slice (.int .i64)) (.slice (.slice (.int .i64)))))), (.int .i64), (.pair (.int .i64) (.int .i64))], [], [.bool], fun x y => s9 n x.1 x.2.1 x.2.2, false⟩
theorem s9_eq (n : Nat) (x : denL [(.pair (.int .i64) (.pair (.int .i64) (.pair (.slice (.int .i64)) (.slice (.slice (.int .i64)))))), (.int .i64), (.pair (.int .i64) (.int .i64))]) (y : denL []) : funR (e99 n) Go.Proofs.Try.f9 [(.pair (.int .i64) (.pair (.int .i64) (.pair (.slice (.int .i64)) (.slice (.slice (.int .i64)))))), (.int .i64), (.pair (.int .i64) (.int .i64))] [] [.bool] false [] x y = (s9_c n).fn x y := by kernel_rfl
theorem s9_ok (n : Nat) : ConOK Go.Proofs.Try.prog 9 (s9_c n) := func_ok (h99 n) hP Go.Proofs.Try.func9 (by kernel_rfl) (by kernel_rfl) (O := []) trivial (s9_eq n)
def e100 (n : Nat) : Env := ⟨gT, (9, s9_c n) :: (e99 n).C, gQ, (e99 n).I⟩
theorem h100 (n : Nat) : EnvOK Go.Proofs.Try.prog (e100 n) := env_add (h99 n) (s9_ok n)

def s56_l0 (n : Nat) (d : (List Int) × Int × Int × Int × Int × (List Int) × (List (List Int)) × (List Int) × Unit) (again : ((List Int) × Int × Int × Int × Int × (List Int) × (List (List Int)) × (List Int) × Unit) → Option ((List Int) × Int)) (ks : ((List Int) × Unit → Option ((List Int) × Int)) × Unit) : Option ((List Int) × Int) :=
  match d, ks with
  | (tasters, t28, t29, t6, t6_1, t6_2, t6_3, out, _), (k0, _) =>
  bif (decide (t29 < t28)) then
    (s88 n (t6, (t6_1, (t6_2, t6_3))) t29 tasters).bind fun x =>
    (chk (List.length out + List.length ([x] : List Int))).bind fun u =>
    again (tasters, t28, (IntKind.wrap .i64 (t29 + (1 : Int))), t6, t6_1, t6_2, t6_3, (out ++ ([x] : List Int)), ())
  else
    k0 (out, ())

/-- criadera/taste.Marked -/
def s56 (n : Nat) (p : Int × Int × (List Int) × (List (List Int))) (least : Int × Int) : Option ((List Int) × Int) :=
  (s89 n (p.1, (p.2.1, (p.2.2.1, p.2.2.2)))).bind fun x =>
  (s109 n (least.1, least.2)).bind fun x_1 =>
  (s80 n ([x.2, x_1] : List Int)).bind fun x_2 =>
  bif (x_2 != (0 : Int)) then
    some (([] : List Int), x_2)
  else
    (s110 n (x.1.1, (x.1.2.1, (x.1.2.2.1, x.1.2.2.2))) (least.1, least.2)).bind fun x_3 =>
    loopG (s56_l0 n) n (x_3, p.1, (0 : Int), x.1.1, x.1.2.1, x.1.2.2.1, x.1.2.2.2, ([] : List Int), ())
      (fun (out_1, _) =>
        some (out_1, (0 : Int)), ())

def s56_t0 : Templ := ⟨41, [(.slice (.int .i64)), (.int .i64), (.int .i64), (.int .i64), (.int .i64), (.slice (.int .i64)), (.slice (.slice (.int .i64))), (.slice (.int .i64))], [(6, .v (.bptr 41 0)), (8, .v (.hole (.slice (.int .i64)))), (9, .v (.hand 42)), (28, .v (.hole (.int .i64))), (29, .v (.hole (.int .i64)))], [(41, .box (.pair (.int .i64) (.pair (.int .i64) (.pair (.slice (.int .i64)) (.slice (.slice (.int .i64)))))) [.hole (.int .i64), .hole (.int .i64), .hole (.slice (.int .i64)), .hole (.slice (.slice (.int .i64)))]), (42, .buf (.int .i64))], []⟩
def s56_x0 : List (Way × Templ) := [(.exit 0, ⟨41, [(.slice (.int .i64))], [(9, .v (.hand 41))], [(41, .buf (.int .i64))], []⟩)]
def s56_o0 (n : Nat) : Ev (denL [(.slice (.int .i64)), (.int .i64)]) := loopO n (e100 n) s56_t0 s56_x0 (s56_l0 n)
theorem s56_b0 (n : Nat) (d) (again) (ks) : codeR (R := (denL [(.slice (.int .i64)), (.int .i64)])) (e100 n) (Hdl.no (R := (denL [(.slice (.int .i64)), (.int .i64)]))) (inn (lp (bd Go.Proofs.Try.f56) 0)) [] (mk s56_t0 d) (turnR (e100 n) s56_t0 s56_x0 again ks) = s56_l0 n d again ks := by kernel_rfl
theorem s56_s0 (n : Nat) : Sound Go.Proofs.Try.prog (Hdl.no (R := (denL [(.slice (.int .i64)), (.int .i64)]))) false (lp (bd Go.Proofs.Try.f56) 0) (s56_o0 n) := loop_ok (h100 n) hP (by kernel_rfl) (O := []) trivial (s56_b0 n)
def s56_c (n : Nat) : Con := ⟨[(.pair (.int .i64) (.pair (.int .i64) (.pair (.slice (.int .i64)) (.slice (.slice (.int .i64)))))), (.pair (.int .i64) (.int .i64))], [], [(.slice (.int .i64)), (.int .i64)], fun x y => s56 n x.1 x.2, false⟩
theorem s56_eq (n : Nat) (x : denL [(.pair (.int .i64) (.pair (.int .i64) (.pair (.slice (.int .i64)) (.slice (.slice (.int .i64)))))), (.pair (.int .i64) (.int .i64))]) (y : denL []) : funR (e100 n) Go.Proofs.Try.f56 [(.pair (.int .i64) (.pair (.int .i64) (.pair (.slice (.int .i64)) (.slice (.slice (.int .i64)))))), (.pair (.int .i64) (.int .i64))] [] [(.slice (.int .i64)), (.int .i64)] false [s56_o0 n] x y = (s56_c n).fn x y := by kernel_rfl
theorem s56_ok (n : Nat) : ConOK Go.Proofs.Try.prog 56 (s56_c n) := func_ok (h100 n) hP Go.Proofs.Try.func56 (by kernel_rfl) (by kernel_rfl) (O := [s56_o0 n]) ⟨s56_s0 n, trivial⟩ (s56_eq n)
def e101 (n : Nat) : Env := ⟨gT, (56, s56_c n) :: (e100 n).C, gQ, (e100 n).I⟩
theorem h101 (n : Nat) : EnvOK Go.Proofs.Try.prog (e101 n) := env_add (h100 n) (s56_ok n)

def s57_l0 (n : Nat) (d : (List Int) × Int × Int × Int × (List Int) × (List (List Int)) × (List Int) × Unit) (again : ((List Int) × Int × Int × Int × (List Int) × (List (List Int)) × (List Int) × Unit) → Option ((List Int))) (ks : ((List Int) × Unit → Option ((List Int))) × Unit) : Option ((List Int)) :=
  match d, ks with
  | (l, c, p, p_1, p_2, p_3, out, _), (k0, _) =>
  bif (decide (c < p)) then
    (s34 n (p, (p_1, (p_2, p_3))) c l).bind fun x =>
    (chk (List.length out + List.length ([x] : List Int))).bind fun u =>
    again (l, (IntKind.wrap .i64 (c + (1 : Int))), p, p_1, p_2, p_3, (out ++ ([x] : List Int)), ())
  else
    k0 (out, ())

/-- criadera/criaderaref07.Marked -/
def s57 (n : Nat) (p : Int × Int × (List Int) × (List (List Int))) (least : Int × Int) : Option ((List Int)) :=
  (s55 n (p.1, (p.2.1, (p.2.2.1, p.2.2.2))) (least.1, least.2)).bind fun x =>
  loopG (s57_l0 n) n (x, (0 : Int), p.1, p.2.1, p.2.2.1, p.2.2.2, ([] : List Int), ())
    (fun (out_1, _) =>
      some (out_1), ())

def s57_t0 : Templ := ⟨25, [(.slice (.int .i64)), (.int .i64), (.int .i64), (.int .i64), (.slice (.int .i64)), (.slice (.slice (.int .i64))), (.slice (.int .i64))], [(2, .v (.bptr 25 0)), (5, .v (.hand 26)), (6, .v (.hole (.slice (.int .i64)))), (7, .v (.hole (.int .i64)))], [(25, .box (.pair (.int .i64) (.pair (.int .i64) (.pair (.slice (.int .i64)) (.slice (.slice (.int .i64)))))) [.hole (.int .i64), .hole (.int .i64), .hole (.slice (.int .i64)), .hole (.slice (.slice (.int .i64)))]), (26, .buf (.int .i64))], []⟩
def s57_x0 : List (Way × Templ) := [(.exit 0, ⟨25, [(.slice (.int .i64))], [(5, .v (.hand 25))], [(25, .buf (.int .i64))], []⟩)]
def s57_o0 (n : Nat) : Ev (denL [(.slice (.int .i64))]) := loopO n (e101 n) s57_t0 s57_x0 (s57_l0 n)
theorem s57_b0 (n : Nat) (d) (again) (ks) : codeR (R := (denL [(.slice (.int .i64))])) (e101 n) (Hdl.no (R := (denL [(.slice (.int .i64))]))) (inn (lp (bd Go.Proofs.Try.f57) 0)) [] (mk s57_t0 d) (turnR (e101 n) s57_t0 s57_x0 again ks) = s57_l0 n d again ks := by kernel_rfl
theorem s57_s0 (n : Nat) : Sound Go.Proofs.Try.prog (Hdl.no (R := (denL [(.slice (.int .i64))]))) false (lp (bd Go.Proofs.Try.f57) 0) (s57_o0 n) := loop_ok (h101 n) hP (by kernel_rfl) (O := []) trivial (s57_b0 n)
def s57_c (n : Nat) : Con := ⟨[(.pair (.int .i64) (.pair (.int .i64) (.pair (.slice (.int .i64)) (.slice (.slice (.int .i64)))))), (.pair (.int .i64) (.int .i64))], [], [(.slice (.int .i64))], fun x y => s57 n x.1 x.2, false⟩
theorem s57_eq (n : Nat) (x : denL [(.pair (.int .i64) (.pair (.int .i64) (.pair (.slice (.int .i64)) (.slice (.slice (.int .i64)))))), (.pair (.int .i64) (.int .i64))]) (y : denL []) : funR (e101 n) Go.Proofs.Try.f57 [(.pair (.int .i64) (.pair (.int .i64) (.pair (.slice (.int .i64)) (.slice (.slice (.int .i64)))))), (.pair (.int .i64) (.int .i64))] [] [(.slice (.int .i64))] false [s57_o0 n] x y = (s57_c n).fn x y := by kernel_rfl
theorem s57_ok (n : Nat) : ConOK Go.Proofs.Try.prog 57 (s57_c n) := func_ok (h101 n) hP Go.Proofs.Try.func57 (by kernel_rfl) (by kernel_rfl) (O := [s57_o0 n]) ⟨s57_s0 n, trivial⟩ (s57_eq n)
def e102 (n : Nat) : Env := ⟨gT, (57, s57_c n) :: (e101 n).C, gQ, (e101 n).I⟩
theorem h102 (n : Nat) : EnvOK Go.Proofs.Try.prog (e102 n) := env_add (h101 n) (s57_ok n)

/-- criadera/criaderabase.Cmp -/
def s58 (n : Nat) (a : Int × Int) (b : Int × Int) : Option (Int) :=
  bif (decide ((IntKind.wrap .i64 (a.1 * b.2)) < (IntKind.wrap .i64 (b.1 * a.2)))) then
    some ((-1 : Int))
  else
    bif (decide ((IntKind.wrap .i64 (a.1 * b.2)) > (IntKind.wrap .i64 (b.1 * a.2)))) then
      some ((1 : Int))
    else
      some ((0 : Int))

def s58_c (n : Nat) : Con := ⟨[(.pair (.int .i64) (.int .i64)), (.pair (.int .i64) (.int .i64))], [], [(.int .i64)], fun x y => s58 n x.1 x.2, false⟩
theorem s58_eq (n : Nat) (x : denL [(.pair (.int .i64) (.int .i64)), (.pair (.int .i64) (.int .i64))]) (y : denL []) : funR (e102 n) Go.Proofs.Try.f58 [(.pair (.int .i64) (.int .i64)), (.pair (.int .i64) (.int .i64))] [] [(.int .i64)] false [] x y = (s58_c n).fn x y := by kernel_rfl
theorem s58_ok (n : Nat) : ConOK Go.Proofs.Try.prog 58 (s58_c n) := func_ok (h102 n) hP Go.Proofs.Try.func58 (by kernel_rfl) (by kernel_rfl) (O := []) trivial (s58_eq n)
def e103 (n : Nat) : Env := ⟨gT, (58, s58_c n) :: (e102 n).C, gQ, (e102 n).I⟩
theorem h103 (n : Nat) : EnvOK Go.Proofs.Try.prog (e103 n) := env_add (h102 n) (s58_ok n)

def s59_l0 (n : Nat) (d : (List Int) × Int × Int × Unit) (again : ((List Int) × Int × Int × Unit) → Option (Bool)) (ks : (Unit → Option (Bool)) × (Bool × Unit → Option (Bool)) × Unit) : Option (Bool) :=
  match d, ks with
  | (l, v_n, i, _), (k0, k1, _) =>
  bif (decide (i < ((List.length l : Nat) : Int))) then
    (geti l i).bind fun e =>
    bif (e == v_n) then
      k1 (true, ())
    else
      again (l, v_n, (IntKind.wrap .i64 (i + (1 : Int))), ())
  else
    k0 (())

/-- criadera/criaderabase.Has -/
def s59 (n : Nat) (l : List Int) (v_n : Int) : Option (Bool) :=
  loopG (s59_l0 n) n (l, v_n, (0 : Int), ())
    (fun (_) =>
      some (false),
    fun (t4, _) =>
      some (t4), ())

def s59_t0 : Templ := ⟨18, [(.slice (.int .i64)), (.int .i64), (.int .i64)], [(0, .v (.hole (.slice (.int .i64)))), (1, .v (.hole (.int .i64))), (5, .v (.hole (.int .i64)))], [], []⟩
def s59_x0 : List (Way × Templ) := [(.exit 0, ⟨18, [], [], [], []⟩), (.ret, ⟨18, [.bool], [(4, .v (.hole .bool))], [], []⟩)]
def s59_o0 (n : Nat) : Ev (denL [.bool]) := loopO n (e103 n) s59_t0 s59_x0 (s59_l0 n)
theorem s59_b0 (n : Nat) (d) (again) (ks) : codeR (R := (denL [.bool])) (e103 n) (Hdl.no (R := (denL [.bool]))) (inn (lp (bd Go.Proofs.Try.f59) 0)) [] (mk s59_t0 d) (turnR (e103 n) s59_t0 s59_x0 again ks) = s59_l0 n d again ks := by kernel_rfl
theorem s59_s0 (n : Nat) : Sound Go.Proofs.Try.prog (Hdl.no (R := (denL [.bool]))) false (lp (bd Go.Proofs.Try.f59) 0) (s59_o0 n) := loop_ok (h103 n) hP (by kernel_rfl) (O := []) trivial (s59_b0 n)
def s59_c (n : Nat) : Con := ⟨[(.slice (.int .i64)), (.int .i64)], [], [.bool], fun x y => s59 n x.1 x.2, false⟩
theorem s59_eq (n : Nat) (x : denL [(.slice (.int .i64)), (.int .i64)]) (y : denL []) : funR (e103 n) Go.Proofs.Try.f59 [(.slice (.int .i64)), (.int .i64)] [] [.bool] false [s59_o0 n] x y = (s59_c n).fn x y := by kernel_rfl
theorem s59_ok (n : Nat) : ConOK Go.Proofs.Try.prog 59 (s59_c n) := func_ok (h103 n) hP Go.Proofs.Try.func59 (by kernel_rfl) (by kernel_rfl) (O := [s59_o0 n]) ⟨s59_s0 n, trivial⟩ (s59_eq n)
def e104 (n : Nat) : Env := ⟨gT, (59, s59_c n) :: (e103 n).C, gQ, (e103 n).I⟩
theorem h104 (n : Nat) : EnvOK Go.Proofs.Try.prog (e104 n) := env_add (h103 n) (s59_ok n)

def s10_l0 (n : Nat) (d : (List Int) × (List Int) × Int × Unit) (again : ((List Int) × (List Int) × Int × Unit) → Option (Bool)) (ks : (Unit → Option (Bool)) × (Bool × Unit → Option (Bool)) × Unit) : Option (Bool) :=
  match d, ks with
  | (a, b, i, _), (k0, k1, _) =>
  bif (decide (i < ((List.length b : Nat) : Int))) then
    (geti b i).bind fun e =>
    (s59 n a e).bind fun x =>
    bif (!x) then
      k1 (false, ())
    else
      again (a, b, (IntKind.wrap .i64 (i + (1 : Int))), ())
  else
    k0 (())

/-- criadera/criaderalaw07.TasteMarked -/
def s10 (n : Nat) (p : Int × Int × (List Int) × (List (List Int))) (least : Int × Int) (more : Int × Int) : Option (Bool) :=
  (s15 n).bind fun x =>
  bif (!x) then
    some (false)
  else
    (s24 n (p.1, (p.2.1, (p.2.2.1, p.2.2.2)))).bind fun x_1 =>
    bif (!x_1) then
      some (true)
    else
      (s26 n (p.1, (p.2.1, (p.2.2.1, p.2.2.2)))).bind fun x_2 =>
      (s56 n (x_2.1, (x_2.2.1, (x_2.2.2.1, x_2.2.2.2))) (least.1, least.2)).bind fun x_3 =>
      (s29 n (p.1, (p.2.1, (p.2.2.1, p.2.2.2)))).bind fun x_4 =>
      bif (x_4 == (0 : Int)) then
        (s54 n (least.1, least.2)).bind fun x_5 =>
        bif (x_5 != (0 : Int)) then
          some (((x_3.2 == x_5) && (((List.length x_3.1 : Nat) : Int) == (0 : Int))))
        else
          (part (!(x_3.2 != (0 : Int))) (s57 n (p.1, (p.2.1, (p.2.2.1, p.2.2.2))) (least.1, least.2)) []).bind fun x_6 =>
          (part (!(x_3.2 != (0 : Int))) (s32 n x_3.1 x_6) false).bind fun x_7 =>
          bif ((x_3.2 != (0 : Int)) || (!x_7)) then
            some (false)
          else
            (s54 n (more.1, more.2)).bind fun x_8 =>
            (part (!(x_8 != (0 : Int))) (s58 n (more.1, more.2) (least.1, least.2)) (0 : Int)).bind fun x_9 =>
            bif ((x_8 != (0 : Int)) || (decide (x_9 < (0 : Int)))) then
              some (true)
            else
              (s26 n (p.1, (p.2.1, (p.2.2.1, p.2.2.2)))).bind fun x_10 =>
              (s51 n (x_10.1, (x_10.2.1, (x_10.2.2.1, x_10.2.2.2))) (least.1, least.2)).bind fun x_11 =>
              (s26 n (p.1, (p.2.1, (p.2.2.1, p.2.2.2)))).bind fun x_12 =>
              (s51 n (x_12.1, (x_12.2.1, (x_12.2.2.1, x_12.2.2.2))) (more.1, more.2)).bind fun x_13 =>
              bif ((x_11.2 != (0 : Int)) || (x_13.2 != (0 : Int))) then
                some (false)
              else
                loopG (s10_l0 n) n (x_11.1, x_13.1, (0 : Int), ())
                  (fun (_) =>
                    some (true),
                  fun (t6, _) =>
                    some (t6), ())
      else
        bif (x_4 != (0 : Int)) then
          some (((x_3.2 == x_4) && (((List.length x_3.1 : Nat) : Int) == (0 : Int))))
        else
          (part (!(x_3.2 != (0 : Int))) (s57 n (p.1, (p.2.1, (p.2.2.1, p.2.2.2))) (least.1, least.2)) []).bind fun x_15 =>
          (part (!(x_3.2 != (0 : Int))) (s32 n x_3.1 x_15) false).bind fun x_16 =>
          bif ((x_3.2 != (0 : Int)) || (!x_16)) then
            some (false)
          else
            (s54 n (more.1, more.2)).bind fun x_17 =>
            (part (!(x_17 != (0 : Int))) (s58 n (more.1, more.2) (least.1, least.2)) (0 : Int)).bind fun x_18 =>
            bif ((x_17 != (0 : Int)) || (decide (x_18 < (0 : Int)))) then
              some (true)
            else
              (s26 n (p.1, (p.2.1, (p.2.2.1, p.2.2.2)))).bind fun x_19 =>
              (s51 n (x_19.1, (x_19.2.1, (x_19.2.2.1, x_19.2.2.2))) (least.1, least.2)).bind fun x_20 =>
              (s26 n (p.1, (p.2.1, (p.2.2.1, p.2.2.2)))).bind fun x_21 =>
              (s51 n (x_21.1, (x_21.2.1, (x_21.2.2.1, x_21.2.2.2))) (more.1, more.2)).bind fun x_22 =>
              bif ((x_20.2 != (0 : Int)) || (x_22.2 != (0 : Int))) then
                some (false)
              else
                loopG (s10_l0 n) n (x_20.1, x_22.1, (0 : Int), ())
                  (fun (_) =>
                    some (true),
                  fun (t6_1, _) =>
                    some (t6_1), ())

def s10_t0 : Templ := ⟨95, [(.slice (.int .i64)), (.slice (.int .i64)), (.int .i64)], [(10, .v (.hole (.slice (.int .i64)))), (12, .v (.hole (.slice (.int .i64)))), (14, .v (.hole (.int .i64)))], [], []⟩
def s10_x0 : List (Way × Templ) := [(.exit 0, ⟨95, [], [], [], []⟩), (.ret, ⟨95, [.bool], [(6, .v (.hole .bool))], [], []⟩)]
def s10_o0 (n : Nat) : Ev (denL [.bool]) := loopO n (e104 n) s10_t0 s10_x0 (s10_l0 n)
theorem s10_b0 (n : Nat) (d) (again) (ks) : codeR (R := (denL [.bool])) (e104 n) (Hdl.no (R := (denL [.bool]))) (inn (lp (bd Go.Proofs.Try.f10) 0)) [] (mk s10_t0 d) (turnR (e104 n) s10_t0 s10_x0 again ks) = s10_l0 n d again ks := by kernel_rfl
theorem s10_s0 (n : Nat) : Sound Go.Proofs.Try.prog (Hdl.no (R := (denL [.bool]))) false (lp (bd Go.Proofs.Try.f10) 0) (s10_o0 n) := loop_ok (h104 n) hP (by kernel_rfl) (O := []) trivial (s10_b0 n)
def s10_c (n : Nat) : Con := ⟨[(.pair (.int .i64) (.pair (.int .i64) (.pair (.slice (.int .i64)) (.slice (.slice (.int .i64)))))), (.pair (.int .i64) (.int .i64)), (.pair (.int .i64) (.int .i64))], [], [.bool], fun x y => s10 n x.1 x.2.1 x.2.2, false⟩
theorem s10_eq (n : Nat) (x : denL [(.pair (.int .i64) (.pair (.int .i64) (.pair (.slice (.int .i64)) (.slice (.slice (.int .i64)))))), (.pair (.int .i64) (.int .i64)), (.pair (.int .i64) (.int .i64))]) (y : denL []) : funR (e104 n) Go.Proofs.Try.f10 [(.pair (.int .i64) (.pair (.int .i64) (.pair (.slice (.int .i64)) (.slice (.slice (.int .i64)))))), (.pair (.int .i64) (.int .i64)), (.pair (.int .i64) (.int .i64))] [] [.bool] false [s10_o0 n] x y = (s10_c n).fn x y := by kernel_rfl
theorem s10_ok (n : Nat) : ConOK Go.Proofs.Try.prog 10 (s10_c n) := func_ok (h104 n) hP Go.Proofs.Try.func10 (by kernel_rfl) (by kernel_rfl) (O := [s10_o0 n]) ⟨s10_s0 n, trivial⟩ (s10_eq n)
def e105 (n : Nat) : Env := ⟨gT, (10, s10_c n) :: (e104 n).C, gQ, (e104 n).I⟩
theorem h105 (n : Nat) : EnvOK Go.Proofs.Try.prog (e105 n) := env_add (h104 n) (s10_ok n)

/-- criadera/criaderatop.tasted -/
def s71 (n : Nat) : Option (Bool) :=
  (s77 n).bind fun x =>
  (s41 n x ([98, 117, 116, 116], ([(1 : Int), (1 : Int), (0 : Int)] : List Int))).bind fun x_1 =>
  (s78 n).bind fun x_2 =>
  (s28 n x_2 (1 : Int) ([(0 : Int), (1 : Int)] : List Int)).bind fun x_3 =>
  some (((((x_1.2 == (0 : Int)) && ((x_1.1 : List UInt8) == [111, 108, 111, 114, 111, 115, 111])) && (x_3.2 == (0 : Int))) && (x_3.1 == (1 : Int))))

def s71_c (n : Nat) : Con := ⟨[], [], [.bool], fun x y => s71 n, false⟩
theorem s71_eq (n : Nat) (x : denL []) (y : denL []) : funR (e105 n) Go.Proofs.Try.f71 [] [] [.bool] false [] x y = (s71_c n).fn x y := by kernel_rfl
theorem s71_ok (n : Nat) : ConOK Go.Proofs.Try.prog 71 (s71_c n) := func_ok (h105 n) hP Go.Proofs.Try.func71 (by kernel_rfl) (by kernel_rfl) (O := []) trivial (s71_eq n)
def e106 (n : Nat) : Env := ⟨gT, (71, s71_c n) :: (e105 n).C, gQ, (e105 n).I⟩
theorem h106 (n : Nat) : EnvOK Go.Proofs.Try.prog (e106 n) := env_add (h105 n) (s71_ok n)

def s13_l0 (n : Nat) (d : (List Int) × Int × (List (List UInt8)) × Int × (List ((List UInt8) × (List Int) × (List (List UInt8)))) × Unit) (again : ((List Int) × Int × (List (List UInt8)) × Int × (List ((List UInt8) × (List Int) × (List (List UInt8)))) × Unit) → Option (Bool)) (ks : (Unit → Option (Bool)) × (Bool × Unit → Option (Bool)) × Unit) : Option (Bool) :=
  match d, ks with
  | (l, i, b, b_1, b_2, _), (k0, k1, _) =>
  bif (decide (i < ((List.length l : Nat) : Int))) then
    (geti l i).bind fun e =>
    bif (decide (e < (0 : Int))) then
      again (l, (IntKind.wrap .i64 (i + (1 : Int))), b, b_1, b_2, ())
    else
      (s21 n (b, (b_1, b_2))).bind fun x =>
      (geti l i).bind fun e_1 =>
      (geti l i).bind fun e_2 =>
      (s41 n x ([98, 117, 116, 116], ([e_1, e_2] : List Int))).bind fun x_1 =>
      (s21 n (b, (b_1, b_2))).bind fun x_2 =>
      (geti l i).bind fun e_3 =>
      (geti l i).bind fun e_4 =>
      (s38 n x_2 ([e_3, e_4] : List Int)).bind fun x_3 =>
      (part (!(((x_1.2 != (0 : Int)) || (x_3.2 != (0 : Int))) || (((List.length x_3.1 : Nat) : Int) != (3 : Int)))) (geti x_3.1 (2 : Int)) (0 : Int)).bind fun e_5 =>
      (part (!(((x_1.2 != (0 : Int)) || (x_3.2 != (0 : Int))) || (((List.length x_3.1 : Nat) : Int) != (3 : Int)))) (s19 n e_5 (0 : Int) (IntKind.wrap .i64 (((List.length b_2 : Nat) : Int) - (1 : Int)))) false).bind fun x_4 =>
      (part (!((((x_1.2 != (0 : Int)) || (x_3.2 != (0 : Int))) || (((List.length x_3.1 : Nat) : Int) != (3 : Int))) || (!x_4))) (geti x_3.1 (2 : Int)) (0 : Int)).bind fun e_6 =>
      (part (!((((x_1.2 != (0 : Int)) || (x_3.2 != (0 : Int))) || (((List.length x_3.1 : Nat) : Int) != (3 : Int))) || (!x_4))) (geti b_2 e_6) ([], ([], []))).bind fun e_7 =>
      bif (((((x_1.2 != (0 : Int)) || (x_3.2 != (0 : Int))) || (((List.length x_3.1 : Nat) : Int) != (3 : Int))) || (!x_4)) || ((x_1.1 : List UInt8) != e_7.1)) then
        k1 (false, ())
      else
        again (l, (IntKind.wrap .i64 (i + (1 : Int))), b, b_1, b_2, ())
  else
    k0 (())

/-- criadera/criaderatop.TopTasteMarked -/
def s13 (n : Nat) (b : (List (List UInt8)) × Int × (List ((List UInt8) × (List Int) × (List (List UInt8))))) (p : Int × Int × (List Int) × (List (List Int))) : Option (Bool) :=
  (s71 n).bind fun x =>
  bif (!x) then
    some (false)
  else
    (s16 n (b.1, (b.2.1, b.2.2))).bind fun x_1 =>
    (part (!(((!x_1) || (decide (((List.length p.2.2.1 : Nat) : Int) > (8 : Int)))) || (decide (((List.length p.2.2.2 : Nat) : Int) > (4 : Int))))) (s17 n (b.1, (b.2.1, b.2.2))) (0 : Int)).bind fun x_2 =>
    (part (!((((!x_1) || (decide (((List.length p.2.2.1 : Nat) : Int) > (8 : Int)))) || (decide (((List.length p.2.2.2 : Nat) : Int) > (4 : Int)))) || (x_2 != (0 : Int)))) (s29 n (p.1, (p.2.1, (p.2.2.1, p.2.2.2)))) (0 : Int)).bind fun x_3 =>
    bif ((((((!x_1) || (decide (((List.length p.2.2.1 : Nat) : Int) > (8 : Int)))) || (decide (((List.length p.2.2.2 : Nat) : Int) > (4 : Int)))) || (x_2 != (0 : Int))) || (x_3 != (0 : Int))) || (p.2.1 != ((List.length b.1 : Nat) : Int))) then
      some (true)
    else
      (s26 n (p.1, (p.2.1, (p.2.2.1, p.2.2.2)))).bind fun x_4 =>
      (s56 n (x_4.1, (x_4.2.1, (x_4.2.2.1, x_4.2.2.2))) ((0 : Int), (1 : Int))).bind fun x_5 =>
      bif ((x_5.2 != (0 : Int)) || (((List.length x_5.1 : Nat) : Int) != p.1)) then
        some (false)
      else
        (s26 n (p.1, (p.2.1, (p.2.2.1, p.2.2.2)))).bind fun x_6 =>
        (s72 n p.2.2.2).bind fun x_7 =>
        (chk (List.length x_6.2.2.2 + List.length x_7)).bind fun u =>
        (s56 n (x_6.1, (x_6.2.1, (x_6.2.2.1, (x_6.2.2.2 ++ x_7)))) ((0 : Int), (1 : Int))).bind fun x_8 =>
        (part (!(x_8.2 != (0 : Int))) (s32 n x_5.1 x_8.1) false).bind fun x_9 =>
        bif ((x_8.2 != (0 : Int)) || (!x_9)) then
          some (false)
        else
          loopG (s13_l0 n) n (x_5.1, (0 : Int), b.1, b.2.1, b.2.2, ())
            (fun (_) =>
              some (true),
            fun (t4, _) =>
              some (t4), ())

def s13_t0 : Templ := ⟨165, [(.slice (.int .i64)), (.int .i64), (.slice .str), (.int .i64), (.slice (.pair .str (.pair (.slice (.int .i64)) (.slice .str))))], [(2, .v (.bptr 165 0)), (5, .v (.hole (.slice (.int .i64)))), (10, .v (.hole (.int .i64)))], [(165, .box (.pair (.slice .str) (.pair (.int .i64) (.slice (.pair .str (.pair (.slice (.int .i64)) (.slice .str)))))) [.hole (.slice .str), .hole (.int .i64), .hole (.slice (.pair .str (.pair (.slice (.int .i64)) (.slice .str))))])], []⟩
def s13_x0 : List (Way × Templ) := [(.exit 0, ⟨165, [], [], [], []⟩), (.ret, ⟨165, [.bool], [(4, .v (.hole .bool))], [], []⟩)]
def s13_o0 (n : Nat) : Ev (denL [.bool]) := loopO n (e106 n) s13_t0 s13_x0 (s13_l0 n)
theorem s13_b0 (n : Nat) (d) (again) (ks) : codeR (R := (denL [.bool])) (e106 n) (Hdl.no (R := (denL [.bool]))) (inn (lp (bd Go.Proofs.Try.f13) 0)) [] (mk s13_t0 d) (turnR (e106 n) s13_t0 s13_x0 again ks) = s13_l0 n d again ks := by kernel_rfl
theorem s13_s0 (n : Nat) : Sound Go.Proofs.Try.prog (Hdl.no (R := (denL [.bool]))) false (lp (bd Go.Proofs.Try.f13) 0) (s13_o0 n) := loop_ok (h106 n) hP (by kernel_rfl) (O := []) trivial (s13_b0 n)
def s13_c (n : Nat) : Con := ⟨[(.pair (.slice .str) (.pair (.int .i64) (.slice (.pair .str (.pair (.slice (.int .i64)) (.slice .str)))))), (.pair (.int .i64) (.pair (.int .i64) (.pair (.slice (.int .i64)) (.slice (.slice (.int .i64))))))], [], [.bool], fun x y => s13 n x.1 x.2, false⟩
theorem s13_eq (n : Nat) (x : denL [(.pair (.slice .str) (.pair (.int .i64) (.slice (.pair .str (.pair (.slice (.int .i64)) (.slice .str)))))), (.pair (.int .i64) (.pair (.int .i64) (.pair (.slice (.int .i64)) (.slice (.slice (.int .i64))))))]) (y : denL []) : funR (e106 n) Go.Proofs.Try.f13 [(.pair (.slice .str) (.pair (.int .i64) (.slice (.pair .str (.pair (.slice (.int .i64)) (.slice .str)))))), (.pair (.int .i64) (.pair (.int .i64) (.pair (.slice (.int .i64)) (.slice (.slice (.int .i64))))))] [] [.bool] false [s13_o0 n] x y = (s13_c n).fn x y := by kernel_rfl
theorem s13_ok (n : Nat) : ConOK Go.Proofs.Try.prog 13 (s13_c n) := func_ok (h106 n) hP Go.Proofs.Try.func13 (by kernel_rfl) (by kernel_rfl) (O := [s13_o0 n]) ⟨s13_s0 n, trivial⟩ (s13_eq n)
def e107 (n : Nat) : Env := ⟨gT, (13, s13_c n) :: (e106 n).C, gQ, (e106 n).I⟩
theorem h107 (n : Nat) : EnvOK Go.Proofs.Try.prog (e107 n) := env_add (h106 n) (s13_ok n)


end Go.Abs

set_option linter.unusedSimpArgs false
set_option linter.unusedVariables false
namespace Go.Abs
open Go

/-! Specifications. -/
def firstErr : List Int → Int
  | [] => 0
  | e :: r => bif e == 0 then firstErr r else e
def unl (ok : Bool) (e : Int) : Int := bif ok then 0 else e
def inR (n lo hi : Int) : Bool := decide (lo ≤ n) && decide (n ≤ hi)

def chOk (first : Bool) (c : UInt8) : Bool :=
  let n : Int := (c.toNat : Int)
  let letter := (decide (n ≥ 97) && decide (n ≤ 122)) || (decide (n ≥ 65) && decide (n ≤ 90))
  !(!letter && (first || (n != 45 && (decide (n < 48) || decide (n > 57)))))
def charsOk : Nat → List UInt8 → Bool
  | _, [] => true
  | i, c :: r => chOk (i == 0) c && charsOk (i + 1) r
def nameOk (s : List UInt8) : Bool := charsOk 0 s && s != [] && decide (s.length ≤ 12)

theorem v81 (n : Nat) (ok : Bool) (e : Int) : s81 n ok e = some (unl ok e) := by
  unfold s81 unl
  cases ok <;> rfl
theorem v82 (n : Nat) (x lo hi : Int) : s82 n x lo hi = some (inR x lo hi) := rfl
theorem v19 (n : Nat) (x lo hi : Int) : s19 n x lo hi = some (inR x lo hi) := rfl

theorem v80 (n : Nat) (l : List Int) (hl : l.length ≤ maxLen) (hn : l.length < n) : s80 n l = some (firstErr l) := by
  unfold s80
  refine list_loop0 l (fun i => (l, (l.length : Int), (i : Int), ())) (fun _ r => some (firstErr r)) hl ?_ ?_ hn
  · intro i x r hi hx hd hg hlt hw again ih
    simp only [s80_l0, hlt, cond_true, hg, Option.bind_some, hw, ih, firstErr, bne]
    cases h : (x == 0) <;> rfl
  · intro hlt again
    simp only [s80_l0, hlt, cond_false, firstErr]

theorem zero_beq (i : Nat) : ((i : Int) == 0) = (i == 0) := by
  cases i <;> simp
  omega

theorem v98 (n : Nat) (s : List UInt8) (hl : s.length ≤ maxLen) (hn : s.length < n) : s98 n s = some (nameOk s) := by
  unfold s98
  have hb : (bytesOf s).length = s.length := by simp [bytesOf]
  rw [hb]
  refine (list_loop0 s (fun i => (s, bytesOf s, (s.length : Int), (i : Int), ())) (fun i r => some (charsOk i r && s != [] && decide (s.length ≤ 12))) hl ?_ ?_ hn)
  · intro i x r hi hx hd hg hlt hw again ih
    have hg' : geti (bytesOf s) (i : Int) = some (x.toNat : Int) := by
      rw [geti_nat]; simp [bytesOf, hx]
    simp only [s98_l0, hlt, cond_true, hg', Option.bind_some, hw, ih, charsOk, chOk, zero_beq]
    rw [bif_eq]
    split
    · rename_i h
      rw [h]; rfl
    · rename_i h
      rw [Bool.not_eq_true] at h
      rw [h]; rfl
  · intro hlt again
    simp only [s98_l0, hlt, cond_false, charsOk, Bool.true_and]
    congr 2
    simp
    omega

theorem v101 (n : Nat) (s : List UInt8) (hl : s.length ≤ maxLen) (hn : s.length < n) : s101 n s = some (nameOk s) := by
  unfold s101
  rw [bif_eq]
  split
  · rename_i h
    have : nameOk s = false := by
      unfold nameOk
      cases s with
      | nil => simp
      | cons c r =>
        simp only [Bool.or_eq_true, decide_eq_true_eq] at h
        have : ¬ (c :: r).length ≤ 12 := by rcases h with h | h <;> simp at h ⊢ <;> omega
        simp only [this, decide_false, Bool.and_false]
    rw [this]
  · rename_i h
    have h12 : 1 ≤ s.length ∧ s.length ≤ 12 := by simp at h; omega
    refine (list_loop0 s (fun i => (s, (i : Int), ())) (fun i r => some (charsOk i r)) hl ?_ ?_ hn).trans ?_
    · intro i x r hi hx hd hg hlt hw again ih
      simp only [s101_l0, hlt, cond_true, hg, Option.bind_some, hw, ih, charsOk, chOk, zero_beq]
      rw [bif_eq]
      split
      · rename_i h
        rw [h]; rfl
      · rename_i h
        rw [Bool.not_eq_true] at h
        rw [h]; rfl
    · intro hlt again
      simp only [s101_l0, hlt, cond_false, charsOk]
    · unfold nameOk
      have : s != [] := by cases s <;> simp at h12 ⊢
      simp [this, h12]

/-- The place of the first element that is so, or -1. -/
def idxF {α : Type} (p : α → Bool) : Nat → List α → Int
  | _, [] => -1
  | i, x :: r => bif p x then (i : Int) else idxF p (i + 1) r
theorem idxF_any {α : Type} (p : α → Bool) (l : List α) : ∀ i, decide (idxF p i l ≥ 0) = l.any p := by
  induction l with
  | nil => intro i; rfl
  | cons x r ih =>
    intro i
    rw [List.any_cons, ← ih (i + 1)]
    cases h : p x <;> simp [idxF, h]

theorem v143 (n : Nat) (s : List (List UInt8)) (v : List UInt8) (hl : s.length ≤ maxLen) (hn : s.length < n) : s143 n s v = some (idxF (fun x => v == x) 0 s) := by
  unfold s143
  refine list_loop0 s (fun i => (s, v, (s.length : Int), (i : Int), ())) (fun i r => some (idxF (fun x => v == x) i r)) hl ?_ ?_ hn
  · intro i x r hi hx hd hg hlt hw again ih
    simp only [s143_l0, hlt, cond_true, hg, Option.bind_some, hw, ih, idxF]
    cases h : (v == x) <;> rfl
  · intro hlt again
    simp only [s143_l0, hlt, cond_false, idxF]

theorem v129 (n : Nat) (s : List (List UInt8)) (v : List UInt8) (hl : s.length ≤ maxLen) (hn : s.length < n) : s129 n s v = some (s.any fun x => v == x) := by
  unfold s129
  rw [v143 n s v hl hn, Option.bind_some, idxF_any]

theorem v127 (n : Nat) (s : List Int) (v : Int) (hl : s.length ≤ maxLen) (hn : s.length < n) : s127 n s v = some (idxF (fun x => v == x) 0 s) := by
  unfold s127
  refine list_loop0 s (fun i => (s, v, (s.length : Int), (i : Int), ())) (fun i r => some (idxF (fun x => v == x) i r)) hl ?_ ?_ hn
  · intro i x r hi hx hd hg hlt hw again ih
    simp only [s127_l0, hlt, cond_true, hg, Option.bind_some, hw, ih, idxF]
    cases h : (v == x) <;> rfl
  · intro hlt again
    simp only [s127_l0, hlt, cond_false, idxF]

theorem v128 (n : Nat) (s : List Int) (v : Int) (hl : s.length ≤ maxLen) (hn : s.length < n) : s128 n s v = some (s.any fun x => v == x) := by
  unfold s128
  rw [v127 n s v hl hn, Option.bind_some, idxF_any]

theorem v102 (n : Nat) (s : List (List UInt8)) (v : List UInt8) (hl : s.length ≤ maxLen) (hn : s.length < n) : s102 n s v = some (s.any fun x => v == x) := by
  unfold s102
  refine list_loop0 s (fun i => (s, v, (i : Int), ())) (fun i r => some (r.any fun x => v == x)) hl ?_ ?_ hn
  · intro i x r hi hx hd hg hlt hw again ih
    simp only [s102_l0, hlt, cond_true, hg, Option.bind_some, hw, ih, List.any_cons]
    rw [BEq.comm]
    cases h : (v == x) <;> rfl
  · intro hlt again
    simp only [s102_l0, hlt, cond_false, List.any_nil]

theorem v130 (n : Nat) (s : List Int) (f : Int → Option Bool) (q : Int → Bool) (hf : ∀ x ∈ s, f x = some (q x)) (hl : s.length ≤ maxLen) (hn : s.length < n) : s130 n s f = some (idxF q 0 s) := by
  unfold s130
  refine list_loop0 s (fun i => (s, f, (s.length : Int), (i : Int), ())) (fun i r => some (idxF q i r)) hl ?_ ?_ hn
  · intro i x r hi hx hd hg hlt hw again ih
    simp only [s130_l0, hlt, cond_true, hg, Option.bind_some, hw, ih, idxF, hf x (List.mem_of_getElem? hx)]
    cases h : q x <;> rfl
  · intro hlt again
    simp only [s130_l0, hlt, cond_false, idxF]
theorem v94 (n : Nat) (s : List Int) (f : Int → Option Bool) (q : Int → Bool) (hf : ∀ x ∈ s, f x = some (q x)) (hl : s.length ≤ maxLen) (hn : s.length < n) : s94 n s f = some (s.any q) := by
  unfold s94
  rw [v130 n s f q hf hl hn, Option.bind_some, idxF_any]
theorem v131 (n : Nat) (s : List (List UInt8)) (f : List UInt8 → Option Bool) (q : List UInt8 → Bool) (hf : ∀ x ∈ s, f x = some (q x)) (hl : s.length ≤ maxLen) (hn : s.length < n) : s131 n s f = some (idxF q 0 s) := by
  unfold s131
  refine list_loop0 s (fun i => (s, f, (s.length : Int), (i : Int), ())) (fun i r => some (idxF q i r)) hl ?_ ?_ hn
  · intro i x r hi hx hd hg hlt hw again ih
    simp only [s131_l0, hlt, cond_true, hg, Option.bind_some, hw, ih, idxF, hf x (List.mem_of_getElem? hx)]
    cases h : q x <;> rfl
  · intro hlt again
    simp only [s131_l0, hlt, cond_false, idxF]
theorem v96 (n : Nat) (s : List (List UInt8)) (f : List UInt8 → Option Bool) (q : List UInt8 → Bool) (hf : ∀ x ∈ s, f x = some (q x)) (hl : s.length ≤ maxLen) (hn : s.length < n) : s96 n s f = some (s.any q) := by
  unfold s96
  rw [v131 n s f q hf hl hn, Option.bind_some, idxF_any]

end Go.Abs

set_option linter.unusedSimpArgs false
set_option linter.unusedVariables false
namespace Go.Abs
open Go

abbrev Txt := List UInt8
abbrev Cls := Txt × List Int × List Txt
abbrev Book := List Txt × Int × List Cls

def Lt {α : Type} (n : Nat) (l : List α) : Prop := l.length < n
def fitC (n : Nat) (c : Cls) : Prop := Lt n c.1 ∧ Lt n c.2.1 ∧ Lt n c.2.2 ∧ ∀ s ∈ c.2.2, Lt n s
def fitB (n : Nat) (b : Book) : Prop := Lt n b.1 ∧ (∀ s ∈ b.1, Lt n s) ∧ Lt n b.2.2 ∧ ∀ c ∈ b.2.2, fitC n c
structure Fuel (n : Nat) : Prop where
  lo : 2000 ≤ n
  hi : n ≤ 2147483648
theorem Fuel.le {n : Nat} (h : Fuel n) {α : Type} {l : List α} (hl : Lt n l) : l.length ≤ maxLen := by
  have := h.hi
  unfold Lt at hl
  unfold maxLen
  omega

def nameErrS (name : Txt) (others : List Txt) : Int := firstErr [unl (nameOk name) 4, unl (!(others.any fun x => name == x)) 5]
def marksGo (pre : List Txt) : List Txt → Int
  | [] => 0
  | m :: r => bif nameErrS m pre == 0 then marksGo (pre ++ [m]) r else nameErrS m pre
def clsErr (nm nc : Int) (pre : List Txt) (c : Cls) : Int :=
  firstErr [nameErrS c.1 pre, unl (((c.2.1.length : Int) == nm) && ((c.2.2.length : Int) == nm)) 10, unl (!(c.2.1.any fun k => !inR k 0 (nc - 1))) 6, unl (!(c.2.2.any fun s => !nameOk s)) 4]
def clsGo (nm nc : Int) : Nat → List Txt → List Cls → Int × Int
  | _, _, [] => (0, 0)
  | i, pre, c :: r => bif clsErr nm nc pre c == 0 then clsGo nm nc (i + 1) (pre ++ [c.1]) r else ((i : Int), clsErr nm nc pre c)
def sizeErr (b : Book) : Int := firstErr [unl (decide (0 < b.1.length) && decide (0 < b.2.2.length)) 10, unl (decide (b.1.length ≤ 6) && decide (b.2.2.length ≤ 8)) 8]
def bookErr (b : Book) : Int × Int :=
  bif sizeErr b == 0 then
    (bif marksGo [] b.1 == 0 then
      (bif inR b.2.1 0 ((b.2.2.length : Int) - 1) then clsGo b.1.length b.2.2.length 0 [] b.2.2 else (0, 6))
    else (0, marksGo [] b.1))
  else (0, sizeErr b)

theorem v92 (n : Nat) (name : Txt) (others : List Txt) (hf : Fuel n) (h1 : Lt n name) (h2 : Lt n others) : s92 n name others = some (nameErrS name others) := by
  unfold s92
  have := hf.lo
  rw [v98 n name (hf.le h1) h1, Option.bind_some, v81, Option.bind_some, v129 n others name (hf.le h2) h2, Option.bind_some, v81, Option.bind_some, v80 n _ (by simp [maxLen]) (by simp; omega)]
  rfl

/-- Marks, one after the other: both programs. -/
theorem v37_l0 (n : Nat) (hf : Fuel n) (marks : List Txt) (m : Int) (b1 : Int) (b2 : List Cls) (cl : Int) (h1 : Lt n marks) (h2 : ∀ s ∈ marks, Lt n s)
    (k0 : Int × List Txt × Int × List Cls × Int × Unit → Option (Int × Int)) (k1 : Int × Int × Unit → Option (Int × Int)) :
    loopG (s37_l0 n) n (m, marks, (marks.length : Int), (0 : Int), marks, b1, b2, cl, ()) (k0, k1, ()) =
      bif marksGo [] marks == 0 then k0 (m, marks, b1, b2, cl, ()) else k1 (0, marksGo [] marks, ()) := by
  refine (list_loop0 marks (fun i => (m, marks, (marks.length : Int), (i : Int), marks, b1, b2, cl, ())) (fun i r => bif marksGo (marks.take i) r == 0 then k0 (m, marks, b1, b2, cl, ()) else k1 (0, marksGo (marks.take i) r, ())) (hf.le h1) ?_ ?_ h1)
  · intro i x r hi hx hd hg hlt hw again ih
    have hx' : x ∈ marks := List.mem_of_getElem? hx
    simp only [s37_l0, hlt, cond_true, hg, Option.bind_some, hw, ih, cut_zero marks i (by omega), v92 n x (marks.take i) hf (h2 x hx') (by unfold Lt at *; simp; omega)]
    have ht : marks.take (i + 1) = marks.take i ++ [x] := by rw [List.take_add_one, hx]; rfl
    simp only [ht, bne, marksGo]
    cases h : (nameErrS x (marks.take i) == 0) <;> simp [h]
  · intro hlt again
    simp only [s37_l0, hlt, cond_false, marksGo]
    rfl

theorem v93 (n : Nat) (x c0 : Int) : s93 n x c0 = some (inR x 0 (IntKind.wrap .i64 (c0 - 1))) := rfl

theorem v37_l1 (n : Nat) (hf : Fuel n) (nm nc : Int) (isC : Int → Option Bool) (hC : ∀ x, isC x = some (inR x 0 (nc - 1))) (l : List Cls) (h1 : Lt n l) (h2 : ∀ c ∈ l, fitC n c)
    (k0 : Unit → Option (Int × Int)) (k1 : Int × Int × Unit → Option (Int × Int)) :
    loopG (s37_l1 n) n (nm, isC, l, (l.length : Int), (0 : Int), ([] : List Txt), ()) (k0, k1, ()) =
      bif (clsGo nm nc 0 [] l).2 == 0 then k0 () else k1 ((clsGo nm nc 0 [] l).1, (clsGo nm nc 0 [] l).2, ()) := by
  have hlo := hf.lo
  have hhi := hf.hi
  refine (list_loop (A := List Txt) l (fun i names => (nm, isC, l, (l.length : Int), (i : Int), names, ())) (fun i names r => bif (clsGo nm nc i names r).2 == 0 then k0 () else k1 ((clsGo nm nc i names r).1, (clsGo nm nc i names r).2, ()))
    (fun i names => names.length = i) (hf.le h1) ?_ ?_ [] rfl h1)
  · intro i names x r hi hx hd hg hlt hw hinv again ih
    obtain ⟨g1, g2, g3, g4⟩ := h2 x (List.mem_of_getElem? hx)
    have hnm : Lt n names := by unfold Lt at *; omega
    have e1 : s94 n x.2.1 (fun y0 => s95 n y0 isC) = some (x.2.1.any fun k => !inR k 0 (nc - 1)) := by
      refine v94 n _ _ (fun k => !inR k 0 (nc - 1)) (fun k _ => ?_) (hf.le g2) g2
      simp [s95, hC]
    have e2 : s96 n x.2.2 (fun x => s97 n x) = some (x.2.2.any fun s => !nameOk s) := by
      refine v96 n _ _ (fun s => !nameOk s) (fun s hs => ?_) (hf.le g3) g3
      simp [s97, v98 n s (hf.le (g4 s hs)) (g4 s hs)]
    simp only [s37_l1, hlt, cond_true, hg, Option.bind_some, hw, e1, e2, v92 n x.1 names hf g1 hnm, v81, v80 n [_, _, _, _] (by simp [maxLen]) (by simp; omega)]
    have hch : chk (names.length + ([x.1] : List Txt).length) = some () := chk_ok (by unfold Lt at *; simp; omega)
    rw [hch]
    simp only [Option.bind_some]
    rw [ih (names ++ [x.1]) (by simp [hinv])]
    have e3 : firstErr [nameErrS x.1 names, unl (((x.2.1.length : Int) == nm) && ((x.2.2.length : Int) == nm)) 10, unl (!(x.2.1.any fun k => !inR k 0 (nc - 1))) 6, unl (!(x.2.2.any fun s => !nameOk s)) 4] = clsErr nm nc names x := rfl
    rw [e3]
    simp only [clsGo, bne]
    cases h : (clsErr nm nc names x == 0) <;> simp [h]
  · intro names hlt hinv again
    simp only [s37_l1, hlt, cond_false, clsGo]
    rfl

theorem clsGo_ok (nm nc : Int) : (l : List Cls) → (i : Nat) → (pre : List Txt) → ((clsGo nm nc i pre l).2 == 0) = true → clsGo nm nc i pre l = (0, 0)
  | [], _, _, _ => rfl
  | c :: r, i, pre, h => by
    simp only [clsGo] at h ⊢
    cases hc : (clsErr nm nc pre c == 0)
    · rw [hc] at h; simp only [cond_false] at h; rw [hc] at h; cases h
    · rw [hc] at h; exact clsGo_ok nm nc r _ _ h

theorem dec_gt0 {α : Type} (l : List α) : decide (((List.length l : Nat) : Int) > (0 : Int)) = decide (0 < l.length) := by simp
theorem dec_le {α : Type} (l : List α) (k : Nat) : decide (((List.length l : Nat) : Int) ≤ (k : Int)) = decide (l.length ≤ k) := by congr 1; simp
theorem dec_gt {α : Type} (l : List α) (k : Nat) : decide (((List.length l : Nat) : Int) > (k : Int)) = !decide (l.length ≤ k) := by
  by_cases h : l.length ≤ k
  · rw [decide_eq_true h, decide_eq_false]; rfl; omega
  · rw [decide_eq_false h, decide_eq_true]; rfl; omega
theorem beq_zero {α : Type} (l : List α) : (((List.length l : Nat) : Int) == (0 : Int)) = !decide (0 < l.length) := by
  cases l <;> simp
  omega

theorem lenPred {α : Type} {n : Nat} (hf : Fuel n) {l : List α} (h : Lt n l) : IntKind.wrap .i64 ((l.length : Int) - 1) = (l.length : Int) - 1 := by
  have := hf.hi
  unfold Lt at h
  rw [wrap_id] <;> omega

theorem v37 (n : Nat) (b : Book) (hf : Fuel n) (hb : fitB n b) : s37 n b = some (bookErr b) := by
  obtain ⟨h1, h2, h3, h4⟩ := hb
  have hlo := hf.lo
  unfold s37
  simp only [v81, Option.bind_some, v80 n [_, _] (by simp [maxLen]) (by simp; omega), dec_gt0]
  have e0 : firstErr [unl (decide (0 < b.1.length) && decide (0 < b.2.2.length)) (10 : Int), unl ((decide (((List.length b.1 : Nat) : Int) ≤ (6 : Int))) && (decide (((List.length b.2.2 : Nat) : Int) ≤ (8 : Int)))) (8 : Int)] = sizeErr b := by
    unfold sizeErr
    have a3 : decide (((List.length b.1 : Nat) : Int) ≤ (6 : Int)) = decide (b.1.length ≤ 6) := dec_le b.1 6
    have a4 : decide (((List.length b.2.2 : Nat) : Int) ≤ (8 : Int)) = decide (b.2.2.length ≤ 8) := dec_le b.2.2 8
    rw [a3, a4]
  rw [e0, v37_l0 n hf b.1 _ _ _ _ h1 h2]
  unfold bookErr
  simp only [bne, v93, Option.bind_some, lenPred hf h3]
  cases hs : (sizeErr b == 0)
  · rfl
  · cases hm : (marksGo [] b.1 == 0)
    · rfl
    · cases hi : inR b.2.1 0 ((b.2.2.length : Int) - 1)
      · rfl
      · simp only [Bool.not_true, cond_false, cond_true]
        rw [v37_l1 n hf _ (b.2.2.length : Int) _ (fun x => rfl) b.2.2 h3 h4]
        cases hc : ((clsGo (b.1.length : Int) (b.2.2.length : Int) 0 [] b.2.2).2 == 0)
        · rfl
        · rw [clsGo_ok _ _ _ _ _ hc]; rfl

end Go.Abs

set_option linter.unusedSimpArgs false
set_option linter.unusedVariables false
namespace Go.Abs
open Go

theorem v79 (n : Nat) (b : Book) (hf : Fuel n) (hb : fitB n b) : s79 n b = some (b, (bookErr b).2) := by
  unfold s79
  rw [show ((b.1, (b.2.1, b.2.2)) : Book) = b from rfl, v37 n b hf hb]
  rfl

def marksErr (b : Book) (l : List Int) : Int := firstErr [unl (decide (l.length ≤ 40)) 8, unl (!(l.any fun k => !inR k 0 ((b.1.length : Int) - 1))) 6]

theorem v99 (n : Nat) (b : Book) (l : List Int) (hf : Fuel n) (hb : Lt n b.1) (hl : Lt n l) : s99 n b l = some (marksErr b l) := by
  have hlo := hf.lo
  unfold s99
  have e1 : s94 n l (fun y0 => s132 n y0 (b.1, (b.2.1, b.2.2))) = some (l.any fun k => !inR k 0 ((b.1.length : Int) - 1)) := by
    refine v94 n _ _ _ (fun k _ => ?_) (hf.le hl) hl
    simp [s132, v82, lenPred hf hb]
  rw [e1]
  simp only [Option.bind_some, v81, v80 n [_, _] (by simp [maxLen]) (by simp; omega)]
  have : decide (((List.length l : Nat) : Int) ≤ (40 : Int)) = decide (l.length ≤ 40) := dec_le l 40
  rw [this]
  rfl

def sheetErr (b : Book) (s : Txt × List Int) : Int := firstErr [unl (nameOk s.1) 4, marksErr b s.2]

theorem v104 (n : Nat) (b : Book) (s : Txt × List Int) (hf : Fuel n) (hb : fitB n b) (h1 : Lt n s.1) (h2 : Lt n s.2) :
    s104 n b s = some (b, bif (bookErr b).2 == 0 then sheetErr b s else (bookErr b).2) := by
  have hlo := hf.lo
  unfold s104
  rw [show ((b.1, (b.2.1, b.2.2)) : Book) = b from rfl, v79 n b hf hb]
  simp only [Option.bind_some, bne, v98 n s.1 (hf.le h1) h1]
  cases h : ((bookErr b).2 == 0)
  · rfl
  · simp only [Bool.not_true, cond_false, v81, Option.bind_some, cond_true]
    rw [show ((b.1, b.2.1, b.2.2) : Book) = b from rfl, v99 n b s.2 hf hb.1 h2]
    simp only [Option.bind_some, v80 n [_, _] (by simp [maxLen]) (by simp; omega)]
    rfl

/-- The classes that a right walk comes to. -/
def stepTo (cs : List Cls) (k m : Int) : Option Int := (geti cs k).bind fun c => geti c.2.1 m
def walkO (cs : List Cls) : Int → List Int → Option (List Int)
  | k, [] => some [k]
  | k, m :: r => (stepTo cs k m).bind fun k' => (walkO cs k' r).map (k :: ·)

theorem walkO_ne {cs : List Cls} : {l : List Int} → {k : Int} → {w : List Int} → walkO cs k l = some w → ∃ r, w = k :: r ∧ r.length = l.length
  | [], k, w, h => by cases h; exact ⟨[], rfl, rfl⟩
  | m :: l, k, w, h => by
    simp only [walkO] at h
    cases hk : stepTo cs k m with
    | none => rw [hk] at h; cases h
    | some k' =>
      rw [hk] at h
      cases hw : walkO cs k' l with
      | none => simp [hw] at h
      | some w' =>
        simp [hw] at h
        obtain ⟨r, rfl, h2⟩ := walkO_ne hw
        exact ⟨k' :: r, h.symm, by simp [h2]⟩

theorem v100 (n : Nat) (b : Book) (l : List Int) (w : List Int) (hf : Fuel n) (hl : l.length + 1 < n) (hw : walkO b.2.2 b.2.1 l = some w) : s100 n b l = some w := by
  have hhi := hf.hi
  have hll : Lt n l := by unfold Lt; omega
  unfold s100
  refine (list_loop (A := List Int × Int) l (fun i a => (l, (l.length : Int), (i : Int), b.1, b.2.1, b.2.2, a.1 ++ [a.2], ())) (fun i a r => (walkO b.2.2 a.2 r).map (a.1 ++ ·)) (fun i a => a.1.length = i) (hf.le hll) ?_ ?_ ([], b.2.1) rfl hll).trans ?_
  · rintro i ⟨pre, k⟩ x r hi hx hd hg hlt hw' hinv again ih
    have hlen : IntKind.wrap .i64 (((pre ++ [k]).length : Nat) - (1 : Int)) = ((pre.length : Nat) : Int) := by
      have h1 : pre.length = i := hinv
      rw [List.length_append, List.length_singleton, wrap_id] <;> omega
    have hlast : geti (pre ++ [k]) ((pre.length : Nat) : Int) = some k := by rw [geti_nat]; simp
    simp only [s100_l0, hlt, cond_true, hg, Option.bind_some, hw', hlen, hlast]
    simp only [walkO, stepTo]
    cases hc : geti b.2.2 k with
    | none => rfl
    | some c =>
      simp only [Option.bind_some]
      cases hm : geti c.2.1 x with
      | none => rfl
      | some k' =>
        have h1 : pre.length = i := hinv
        have hch : chk ((pre ++ [k]).length + ([k'] : List Int).length) = some () := chk_ok (by simp; omega)
        simp only [Option.bind_some, hch]
        rw [ih (pre ++ [k], k') (by simp [h1])]
        simp [Option.map_map, Function.comp_def]
  · rintro ⟨pre, k⟩ hlt hinv again
    simp only [s100_l0, hlt, cond_false, walkO]
    rfl
  · rw [hw]; rfl

/-! The reference. -/
theorem v103_l0 (n : Nat) (hf : Fuel n) (b0 : List Txt) (b1 : Int) (cs : List Cls) (c : Cls) (i : Nat) (hi : i ≤ cs.length) (hc : Lt n cs)
    (k0 : List Txt × Int × List Cls × Txt × List Int × List Txt × Unit → Option Int) (k1 : Int × Unit → Option Int) :
    loopG (s103_l0 n) n ((i : Int), (0 : Int), b0, b1, cs, c.1, c.2.1, c.2.2, ()) (k0, k1, ()) =
      bif ((cs.take i).any fun d => d.1 == c.1) then k1 (5, ()) else k0 (b0, b1, cs, c.1, c.2.1, c.2.2, ()) := by
  have hlen : (cs.take i).length = i := by simp; omega
  have h1 : Lt n (cs.take i) := by unfold Lt at *; omega
  refine (list_loop0 (cs.take i) (fun k => ((i : Int), (k : Int), b0, b1, cs, c.1, c.2.1, c.2.2, ())) (fun _ r => bif (r.any fun d => d.1 == c.1) then k1 (5, ()) else k0 (b0, b1, cs, c.1, c.2.1, c.2.2, ())) (hf.le h1) ?_ ?_ h1)
  · intro k x r hk hx hd hg hlt hw again ih
    rw [hlen] at hlt hk
    have hg' : geti cs (k : Int) = some x := by
      rw [geti_nat] at hg ⊢
      rw [List.getElem?_take_of_lt hk] at hg
      exact hg
    simp only [s103_l0, hlt, cond_true, hg', Option.bind_some, hw, ih, List.any_cons]
    cases h : (x.1 == c.1) <;> simp [h]
  · intro hlt again
    rw [hlen] at hlt ⊢
    simp only [s103_l0, hlt, cond_false]
    rfl

theorem v103_l1 (n : Nat) (hf : Fuel n) (b0 : List Txt) (b1 : Int) (cs : List Cls) (c : Cls) (hc : Lt n cs) (h1 : Lt n c.2.1)
    (k0 : Txt × List Int × List Txt × Unit → Option Int) (k1 : Int × Unit → Option Int) :
    loopG (s103_l1 n) n ((0 : Int), b0, b1, cs, c.1, c.2.1, c.2.2, ()) (k0, k1, ()) =
      bif (c.2.1.any fun k => !inR k 0 ((cs.length : Int) - 1)) then k1 (6, ()) else k0 (c.1, c.2.1, c.2.2, ()) := by
  refine (list_loop0 c.2.1 (fun k => ((k : Int), b0, b1, cs, c.1, c.2.1, c.2.2, ())) (fun _ r => bif (r.any fun k => !inR k 0 ((cs.length : Int) - 1)) then k1 (6, ()) else k0 (c.1, c.2.1, c.2.2, ())) (hf.le h1) ?_ ?_ h1)
  · intro k x r hk hx hd hg hlt hw again ih
    simp only [s103_l1, hlt, cond_true, hg, Option.bind_some, hw, ih, List.any_cons, v19, lenPred hf hc]
    cases h : (inR x 0 ((cs.length : Int) - 1)) <;> simp [h]
  · intro hlt again
    simp only [s103_l1, hlt, cond_false]
    rfl

theorem v103_l2 (n : Nat) (hf : Fuel n) (c : Cls) (h1 : Lt n c.2.2) (h2 : ∀ s ∈ c.2.2, Lt n s)
    (k0 : Unit → Option Int) (k1 : Int × Unit → Option Int) :
    loopG (s103_l2 n) n ((0 : Int), c.1, c.2.1, c.2.2, ()) (k0, k1, ()) =
      bif (c.2.2.any fun s => !nameOk s) then k1 (4, ()) else k0 () := by
  refine (list_loop0 c.2.2 (fun k => ((k : Int), c.1, c.2.1, c.2.2, ())) (fun _ r => bif (r.any fun s => !nameOk s) then k1 (4, ()) else k0 ()) (hf.le h1) ?_ ?_ h1)
  · intro k x r hk hx hd hg hlt hw again ih
    have hs := h2 x (List.mem_of_getElem? hx)
    simp only [s103_l2, hlt, cond_true, hg, Option.bind_some, hw, ih, List.any_cons, v101 n x (hf.le hs) hs]
    cases h : nameOk x <;> simp [h]
  · intro hlt again
    simp only [s103_l2, hlt, cond_false]
    rfl

theorem any_flip {α : Type} (l : List α) (f : α → Txt) (c : Txt) : (l.any fun d => f d == c) = (l.map f).any fun x => c == x := by
  rw [List.any_map]
  congr 1
  funext d
  exact BEq.comm

theorem ne_and (a b c : Int) : ((a != c) || (b != c)) = !((a == c) && (b == c)) := by
  simp only [bne, Bool.not_and]

theorem v103 (n : Nat) (hf : Fuel n) (b : Book) (hb : fitB n b) (i : Nat) (c : Cls) (hc : b.2.2[i]? = some c) :
    s103 n b (i : Int) = some (clsErr b.1.length b.2.2.length ((b.2.2.take i).map (·.1)) c) := by
  obtain ⟨h1, h2, h3, h4⟩ := hb
  obtain ⟨g1, g2, g3, g4⟩ := h4 c (List.mem_of_getElem? hc)
  have hi : i < b.2.2.length := (List.getElem?_eq_some_iff.1 hc).1
  unfold s103
  rw [geti_nat, hc]
  simp only [Option.bind_some, v101 n c.1 (hf.le g1) g1]
  rw [v103_l0 n hf b.1 b.2.1 b.2.2 c i (by omega) h3]
  simp only [v103_l1 n hf b.1 b.2.1 b.2.2 c h3 g2, v103_l2 n hf c g3 g4, any_flip, ne_and]
  unfold clsErr nameErrS
  cases h5 : nameOk c.1
  · rfl
  · cases h6 : ((b.2.2.take i).map (·.1)).any fun x => c.1 == x
    · cases h7 : (((c.2.1.length : Int) == (b.1.length : Int)) && ((c.2.2.length : Int) == (b.1.length : Int)))
      · rfl
      · cases h8 : c.2.1.any fun k => !inR k 0 ((b.2.2.length : Int) - 1)
        · cases h9 : c.2.2.any fun s => !nameOk s <;> rfl
        · rfl
    · rfl

theorem v39_l0 (n : Nat) (hf : Fuel n) (marks : List Txt) (b1 : Int) (b2 : List Cls) (h1 : Lt n marks) (h2 : ∀ s ∈ marks, Lt n s)
    (k0 : List Txt × Int × List Cls × Unit → Option (Int × Int)) (k1 : Int × Int × Unit → Option (Int × Int)) :
    loopG (s39_l0 n) n ((0 : Int), marks, b1, b2, ()) (k0, k1, ()) =
      bif marksGo [] marks == 0 then k0 (marks, b1, b2, ()) else k1 (0, marksGo [] marks, ()) := by
  refine (list_loop0 marks (fun i => ((i : Int), marks, b1, b2, ())) (fun i r => bif marksGo (marks.take i) r == 0 then k0 (marks, b1, b2, ()) else k1 (0, marksGo (marks.take i) r, ())) (hf.le h1) ?_ ?_ h1)
  · intro i x r hi hx hd hg hlt hw again ih
    have hx' := h2 x (List.mem_of_getElem? hx)
    have htk : Lt n (marks.take i) := by unfold Lt at *; simp; omega
    have ht : marks.take (i + 1) = marks.take i ++ [x] := by rw [List.take_add_one, hx]; rfl
    simp only [s39_l0, hlt, cond_true, hg, Option.bind_some, hw, ih, cut_zero marks i (by omega), v101 n x (hf.le hx') hx', v102 n (marks.take i) x (hf.le htk) htk, ht, marksGo, nameErrS]
    cases h5 : nameOk x
    · rfl
    · cases h6 : (marks.take i).any fun y => x == y <;> rfl
  · intro hlt again
    simp only [s39_l0, hlt, cond_false, marksGo]
    rfl

theorem v39_l1 (n : Nat) (hf : Fuel n) (b : Book) (hb : fitB n b)
    (k0 : Unit → Option (Int × Int)) (k1 : Int × Int × Unit → Option (Int × Int)) :
    loopG (s39_l1 n) n ((0 : Int), b.1, b.2.1, b.2.2, ()) (k0, k1, ()) =
      bif (clsGo b.1.length b.2.2.length 0 [] b.2.2).2 == 0 then k0 () else k1 ((clsGo b.1.length b.2.2.length 0 [] b.2.2).1, (clsGo b.1.length b.2.2.length 0 [] b.2.2).2, ()) := by
  have h3 := hb.2.2.1
  refine (list_loop0 b.2.2 (fun i => ((i : Int), b.1, b.2.1, b.2.2, ())) (fun i r => bif (clsGo b.1.length b.2.2.length i ((b.2.2.take i).map (·.1)) r).2 == 0 then k0 () else k1 ((clsGo b.1.length b.2.2.length i ((b.2.2.take i).map (·.1)) r).1, (clsGo b.1.length b.2.2.length i ((b.2.2.take i).map (·.1)) r).2, ())) (hf.le h3) ?_ ?_ h3)
  · intro i x r hi hx hd hg hlt hw again ih
    have hc := v103 n hf b hb i x hx
    have ht : ((b.2.2.take (i + 1)).map (·.1)) = (b.2.2.take i).map (·.1) ++ [x.1] := by rw [List.take_add_one, hx]; simp
    simp only [s39_l1, hlt, cond_true, Option.bind_some, hw, ih, hc, ht, clsGo, bne]
    cases h : (clsErr b.1.length b.2.2.length ((b.2.2.take i).map (·.1)) x == 0) <;> simp only [h, cond_false, cond_true, Bool.not_false, Bool.not_true]
  · intro hlt again
    simp only [s39_l1, hlt, cond_false, clsGo]
    rfl

theorem v39 (n : Nat) (b : Book) (hf : Fuel n) (hb : fitB n b) : s39 n b = some (bookErr b) := by
  have hb' := hb
  obtain ⟨h1, h2, h3, h4⟩ := hb
  unfold s39
  rw [v39_l0 n hf b.1 b.2.1 b.2.2 h1 h2]
  have a3 : decide (((List.length b.1 : Nat) : Int) > (6 : Int)) = !decide (b.1.length ≤ 6) := dec_gt b.1 6
  have a4 : decide (((List.length b.2.2 : Nat) : Int) > (8 : Int)) = !decide (b.2.2.length ≤ 8) := dec_gt b.2.2 8
  simp only [v39_l1 n hf b hb', v19, lenPred hf h3, Option.bind_some, beq_zero, a3, a4]
  unfold bookErr sizeErr
  cases z1 : decide (0 < b.1.length)
  · rfl
  · cases z2 : decide (0 < b.2.2.length)
    · rfl
    · cases z3 : decide (b.1.length ≤ 6)
      · rfl
      · cases z4 : decide (b.2.2.length ≤ 8)
        · rfl
        · simp only [Bool.not_true, Bool.or_false, cond_false]
          cases hm : (marksGo [] b.1 == 0)
          · rfl
          · cases hi : inR b.2.1 0 ((b.2.2.length : Int) - 1)
            · rfl
            · cases hc : ((clsGo (b.1.length : Int) (b.2.2.length : Int) 0 [] b.2.2).2 == 0)
              · rfl
              · rw [clsGo_ok _ _ _ _ _ hc]; rfl

theorem v17 (n : Nat) (b : Book) (hf : Fuel n) (hb : fitB n b) : s17 n b = some (bookErr b).2 := by
  unfold s17
  rw [show ((b.1, (b.2.1, b.2.2)) : Book) = b from rfl, v39 n b hf hb]
  rfl

end Go.Abs

set_option linter.unusedSimpArgs false
set_option linter.unusedVariables false
namespace Go.Abs
open Go

def fewC (c : Cls) : Bool := !((!decide (c.1.length ≤ 20) || !decide (c.2.1.length ≤ 8)) || !decide (c.2.2.length ≤ 8)) && !(c.2.2.any fun s => !decide (s.length ≤ 20))
def fewB (b : Book) : Bool :=
  bif !decide (b.1.length ≤ 8) || !decide (b.2.2.length ≤ 10) then false
  else !(b.1.any fun s => !decide (s.length ≤ 20)) && !(b.2.2.any fun c => !fewC c)

theorem v16_l0 (n : Nat) (hf : Fuel n) (l : List Txt) (b1 : Int) (b2 : List Cls) (h1 : Lt n l)
    (k0 : List Txt × Int × List Cls × Unit → Option Bool) (k1 : Bool × Unit → Option Bool) :
    loopG (s16_l0 n) n ((0 : Int), l, b1, b2, ()) (k0, k1, ()) =
      bif (l.any fun s => !decide (s.length ≤ 20)) then k1 (false, ()) else k0 (l, b1, b2, ()) := by
  refine (list_loop0 l (fun i => ((i : Int), l, b1, b2, ())) (fun i r => bif (r.any fun s => !decide (s.length ≤ 20)) then k1 (false, ()) else k0 (l, b1, b2, ())) (hf.le h1) ?_ ?_ h1)
  · intro i x r hi hx hd hg hlt hw again ih
    have a1 : decide (((List.length x : Nat) : Int) > (20 : Int)) = !decide (x.length ≤ 20) := dec_gt x 20
    simp only [s16_l0, hlt, cond_true, hg, Option.bind_some, hw, ih, a1, List.any_cons]
    cases h : decide (x.length ≤ 20) <;> rfl
  · intro hlt again
    simp only [s16_l0, hlt, cond_false]
    rfl

theorem v16_l1_0 (n : Nat) (hf : Fuel n) (i : Int) (l : List Txt) (b1 : Int) (b2 : List Cls) (c : Cls) (h1 : Lt n c.2.2)
    (k0 : Int × List Txt × Int × List Cls × Unit → Option Bool) (k1 : Bool × Unit → Option Bool) :
    loopG (s16_l1_0 n) n (i, (0 : Int), l, b1, b2, c.1, c.2.1, c.2.2, ()) (k0, k1, ()) =
      bif (c.2.2.any fun s => !decide (s.length ≤ 20)) then k1 (false, ()) else k0 (i, l, b1, b2, ()) := by
  refine (list_loop0 c.2.2 (fun k => (i, (k : Int), l, b1, b2, c.1, c.2.1, c.2.2, ())) (fun _ r => bif (r.any fun s => !decide (s.length ≤ 20)) then k1 (false, ()) else k0 (i, l, b1, b2, ())) (hf.le h1) ?_ ?_ h1)
  · intro k x r hi hx hd hg hlt hw again ih
    have a1 : decide (((List.length x : Nat) : Int) > (20 : Int)) = !decide (x.length ≤ 20) := dec_gt x 20
    simp only [s16_l1_0, hlt, cond_true, hg, Option.bind_some, hw, ih, a1, List.any_cons]
    cases h : decide (x.length ≤ 20) <;> rfl
  · intro hlt again
    simp only [s16_l1_0, hlt, cond_false]
    rfl

theorem v16_l1 (n : Nat) (hf : Fuel n) (l : List Txt) (b1 : Int) (cs : List Cls) (h1 : Lt n cs)
    (k0 : Unit → Option Bool) (k1 : Bool × Unit → Option Bool) :
    loopG (s16_l1 n) n ((0 : Int), l, b1, cs, ()) (k0, k1, ()) =
      bif (cs.any fun c => !fewC c) then k1 (false, ()) else k0 () := by
  have hlo := hf.lo
  refine (list_loop0 cs (fun k => ((k : Int), l, b1, cs, ())) (fun _ r => bif (r.any fun c => !fewC c) then k1 (false, ()) else k0 ()) (hf.le h1) ?_ ?_ h1)
  · intro k x r hi hx hd hg hlt hw again ih
    have a1 : decide (((List.length x.1 : Nat) : Int) > (20 : Int)) = !decide (x.1.length ≤ 20) := dec_gt x.1 20
    have a2 : decide (((List.length x.2.1 : Nat) : Int) > (8 : Int)) = !decide (x.2.1.length ≤ 8) := dec_gt x.2.1 8
    have a3 : decide (((List.length x.2.2 : Nat) : Int) > (8 : Int)) = !decide (x.2.2.length ≤ 8) := dec_gt x.2.2 8
    simp only [s16_l1, hlt, cond_true, hg, Option.bind_some, hw, ih, a1, a2, a3, List.any_cons, fewC]
    cases h : ((!decide (x.1.length ≤ 20) || !decide (x.2.1.length ≤ 8)) || !decide (x.2.2.length ≤ 8))
    · have h3 : x.2.2.length ≤ 8 := by
        simp only [Bool.or_eq_false_iff, Bool.not_eq_false', decide_eq_true_eq] at h
        exact h.2
      simp only [cond_false]
      rw [v16_l1_0 n hf k l b1 cs x (by unfold Lt; omega), hw, ih]
      cases h4 : x.2.2.any fun s => !decide (s.length ≤ 20) <;> rfl
    · rfl
  · intro hlt again
    simp only [s16_l1, hlt, cond_false]
    rfl

theorem v16 (n : Nat) (b : Book) (hf : Fuel n) : s16 n b = some (fewB b) := by
  have hlo := hf.lo
  unfold s16 fewB
  have a1 : decide (((List.length b.1 : Nat) : Int) > (8 : Int)) = !decide (b.1.length ≤ 8) := dec_gt b.1 8
  have a2 : decide (((List.length b.2.2 : Nat) : Int) > (10 : Int)) = !decide (b.2.2.length ≤ 10) := dec_gt b.2.2 10
  rw [a1, a2]
  cases h : (!decide (b.1.length ≤ 8) || !decide (b.2.2.length ≤ 10))
  · simp only [Bool.or_eq_false_iff, Bool.not_eq_false', decide_eq_true_eq] at h
    simp only [cond_false]
    rw [v16_l0 n hf b.1 _ _ (by unfold Lt; omega)]
    simp only [v16_l1 n hf b.1 b.2.1 b.2.2 (by unfold Lt; omega)]
    cases h1 : b.1.any fun s => !decide (s.length ≤ 20)
    · cases h2 : b.2.2.any fun c => !fewC c <;> rfl
    · rfl
  · rfl

theorem any_false {α : Type} {l : List α} {p : α → Bool} (h : l.any p = false) : ∀ x ∈ l, p x = false := by
  intro x hx
  exact Bool.eq_false_iff.2 fun he => by
    rw [List.any_eq_true.2 ⟨x, hx, he⟩] at h
    cases h

/-- A small one fits. -/
theorem few_fit {b : Book} (h : fewB b = true) {n : Nat} (hf : Fuel n) : fitB n b ∧ b.1.length ≤ 8 ∧ b.2.2.length ≤ 10 := by
  have hlo := hf.lo
  unfold fewB at h
  cases h1 : (!decide (b.1.length ≤ 8) || !decide (b.2.2.length ≤ 10))
  · rw [h1] at h
    simp only [cond_false, Bool.and_eq_true, Bool.not_eq_true'] at h
    simp only [Bool.or_eq_false_iff, Bool.not_eq_false', decide_eq_true_eq] at h1
    refine ⟨⟨by unfold Lt; omega, fun s hs => ?_, by unfold Lt; omega, fun c hc => ?_⟩, h1⟩
    · have := any_false h.1 s hs
      simp only [Bool.not_eq_false', decide_eq_true_eq] at this
      unfold Lt; omega
    · have := any_false h.2 c hc
      simp only [Bool.not_eq_false', fewC, Bool.and_eq_true, Bool.not_eq_true', Bool.or_eq_false_iff, decide_eq_true_eq] at this
      obtain ⟨⟨⟨g1, g2⟩, g3⟩, g4⟩ := this
      refine ⟨by unfold Lt; omega, by unfold Lt; omega, by unfold Lt; omega, fun s hs => ?_⟩
      have := any_false g4 s hs
      simp only [Bool.not_eq_false', decide_eq_true_eq] at this
      unfold Lt; omega
  · rw [h1] at h
    cases h

/-! Copies. -/
theorem v27 (n : Nat) (l : List Int) (hf : Fuel n) (h : Lt n l) : s27 n l = some l := by
  have := hf.hi
  unfold s27
  rw [chk_ok (by unfold Lt at h; simp; omega)]
  rfl
theorem v84 (n : Nat) (l : List Txt) (hf : Fuel n) (h : Lt n l) : s84 n l = some l := by
  have := hf.hi
  unfold s84
  rw [chk_ok (by unfold Lt at h; simp; omega)]
  rfl

theorem v21 (n : Nat) (b : Book) (hf : Fuel n) (hb : fitB n b) : s21 n b = some b := by
  have hhi := hf.hi
  obtain ⟨h1, h2, h3, h4⟩ := hb
  unfold s21
  rw [v84 n b.1 hf h1, Option.bind_some]
  refine (list_loop (A := List Cls) b.2.2 (fun i acc => ((i : Int), b.1, b.2.1, b.2.2, (0 : Int), b.1, b.2.1, acc, ())) (fun i acc r => some (b.1, b.2.1, acc ++ r)) (fun i acc => acc.length = i) (hf.le h3) ?_ ?_ [] rfl h3).trans ?_
  · intro i acc x r hi hx hd hg hlt hw hinv again ih
    obtain ⟨g1, g2, g3, g4⟩ := h4 x (List.mem_of_getElem? hx)
    have hch : chk (acc.length + ([(x.1, (x.2.1, x.2.2))] : List Cls).length) = some () := chk_ok (by unfold Lt at *; simp; omega)
    simp only [s21_l0, hlt, cond_true, hg, Option.bind_some, hw, v27 n _ hf g2, v84 n _ hf g3, hch]
    rw [ih (acc ++ [x]) (by simp [hinv])]
    simp
  · intro acc hlt hinv again
    simp only [s21_l0, hlt, cond_false, List.append_nil]
  · rfl

/-! The class of a sheet, the walk of marks. -/
def lastI (l : List Int) : Int := l.getLastD 0

theorem geti_last {l : List Int} {n : Nat} (hf : Fuel n) (h1 : Lt n l) (hne : l ≠ []) : geti l (IntKind.wrap .i64 ((l.length : Int) - 1)) = some (lastI l) := by
  have hpos : 0 < l.length := List.length_pos_iff.2 hne
  rw [cast_pred hpos (hf.le h1), geti_nat]
  unfold lastI
  rw [List.getLastD_eq_getLast?, List.getLast?_eq_getElem?, List.getElem?_eq_getElem (by omega)]
  rfl

theorem v41_ok (n : Nat) (b : Book) (s : Txt × List Int) (w : List Int) (c : Cls) (hf : Fuel n) (hb : fitB n b) (h1 : Lt n s.1) (h2 : s.2.length + 1 < n)
    (he : (bookErr b).2 = 0) (hs : sheetErr b s = 0) (hw : walkO b.2.2 b.2.1 s.2 = some w) (hc : geti b.2.2 (lastI w) = some c) : s41 n b s = some (c.1, 0) := by
  have hl : Lt n s.2 := by unfold Lt; omega
  obtain ⟨r, hr, hlen⟩ := walkO_ne hw
  unfold s41
  rw [show ((b.1, (b.2.1, b.2.2)) : Book) = b from rfl, show ((s.1, s.2) : Txt × List Int) = s from rfl, v104 n b s hf hb h1 hl, he]
  simp only [Option.bind_some, hs, bne, beq_self_eq_true, cond_true, Bool.not_true, cond_false]
  rw [show ((b.1, b.2.1, b.2.2) : Book) = b from rfl, v100 n b s.2 w hf h2 hw]
  simp only [Option.bind_some]
  rw [geti_last hf (by rw [hr]; unfold Lt; simp; omega) (by rw [hr]; simp), Option.bind_some, hc]
  rfl

theorem v41_bad (n : Nat) (b : Book) (s : Txt × List Int) (hf : Fuel n) (hb : fitB n b) (h1 : Lt n s.1) (h2 : Lt n s.2)
    (he : ((bif (bookErr b).2 == 0 then sheetErr b s else (bookErr b).2) == 0) = false) : s41 n b s = some ([], bif (bookErr b).2 == 0 then sheetErr b s else (bookErr b).2) := by
  unfold s41
  rw [show ((b.1, (b.2.1, b.2.2)) : Book) = b from rfl, show ((s.1, s.2) : Txt × List Int) = s from rfl, v104 n b s hf hb h1 h2]
  simp only [Option.bind_some, bne, he, Bool.not_false, cond_true]

theorem v38_ok (n : Nat) (b : Book) (l : List Int) (w : List Int) (hf : Fuel n) (hb : fitB n b) (h2 : l.length + 1 < n)
    (he : (bookErr b).2 = 0) (hs : marksErr b l = 0) (hw : walkO b.2.2 b.2.1 l = some w) : s38 n b l = some (w, 0) := by
  have hl : Lt n l := by unfold Lt; omega
  unfold s38
  rw [show ((b.1, (b.2.1, b.2.2)) : Book) = b from rfl, v79 n b hf hb, he]
  simp only [Option.bind_some, bne, beq_self_eq_true, Bool.not_true, cond_false]
  rw [show ((b.1, b.2.1, b.2.2) : Book) = b from rfl, v99 n b l hf hb.1 hl, hs]
  simp only [Option.bind_some, bne, beq_self_eq_true, Bool.not_true, cond_false]
  rw [v100 n b l w hf h2 hw]
  rfl

theorem v38_bad (n : Nat) (b : Book) (l : List Int) (hf : Fuel n) (hb : fitB n b) (h2 : Lt n l)
    (he : ((bif (bookErr b).2 == 0 then marksErr b l else (bookErr b).2) == 0) = false) : s38 n b l = some ([], bif (bookErr b).2 == 0 then marksErr b l else (bookErr b).2) := by
  unfold s38
  rw [show ((b.1, (b.2.1, b.2.2)) : Book) = b from rfl, v79 n b hf hb]
  simp only [Option.bind_some, bne]
  cases h : ((bookErr b).2 == 0)
  · rfl
  · rw [h] at he
    simp only [cond_true] at he
    simp only [Bool.not_true, cond_false, cond_true]
    rw [show ((b.1, b.2.1, b.2.2) : Book) = b from rfl, v99 n b l hf hb.1 h2]
    simp only [Option.bind_some, bne, he, Bool.not_false, cond_true]

/-! What it means that there is no error. -/
theorem firstErr_zero : {l : List Int} → firstErr l = 0 ↔ ∀ e ∈ l, e = 0
  | [] => by simp [firstErr]
  | e :: r => by
    simp only [firstErr]
    cases h : (e == 0)
    · have : e ≠ 0 := by simpa using h
      simp [this]
    · have : e = 0 := by simpa using h
      simp [this, firstErr_zero (l := r)]

theorem unl_zero {b : Bool} {e : Int} (he : e ≠ 0) : unl b e = 0 ↔ b = true := by
  cases b <;> simp [unl, he]

theorem inR_iff {x lo hi : Int} : inR x lo hi = true ↔ lo ≤ x ∧ x ≤ hi := by simp [inR]

theorem clsErr_zero {nm nc : Int} {pre : List Txt} {c : Cls} (h : clsErr nm nc pre c = 0) : (c.2.1.length : Int) = nm ∧ (c.2.2.length : Int) = nm ∧ (∀ k ∈ c.2.1, 0 ≤ k ∧ k < nc) := by
  have := firstErr_zero.1 h
  simp only [List.mem_cons, List.not_mem_nil, or_false, forall_eq_or_imp, forall_eq, unl_zero (show (10 : Int) ≠ 0 by decide), unl_zero (show (6 : Int) ≠ 0 by decide)] at this
  obtain ⟨_, h2, h3, _⟩ := this
  simp only [Bool.and_eq_true, beq_iff_eq] at h2
  refine ⟨h2.1, h2.2, fun k hk => ?_⟩
  rw [Bool.not_eq_true'] at h3
  have := any_false h3 k hk
  rw [Bool.not_eq_false', inR_iff] at this
  omega

theorem clsGo_all {nm nc : Int} : {l : List Cls} → {i : Nat} → {pre : List Txt} → (clsGo nm nc i pre l).2 = 0 → ∀ c ∈ l, (c.2.1.length : Int) = nm ∧ (c.2.2.length : Int) = nm ∧ (∀ k ∈ c.2.1, 0 ≤ k ∧ k < nc)
  | [], _, _, _ => by simp
  | c :: r, i, pre, h => by
    simp only [clsGo] at h
    cases hc : (clsErr nm nc pre c == 0)
    · rw [hc] at h
      simp only [cond_false] at h
      rw [h] at hc
      cases hc
    · rw [hc] at h
      simp only [cond_true] at h
      intro d hd
      rcases List.mem_cons.1 hd with rfl | hd
      · exact clsErr_zero (by simpa using hc)
      · exact clsGo_all h d hd

structure GoodB (b : Book) : Prop where
  marks : 0 < b.1.length ∧ b.1.length ≤ 6
  classes : 0 < b.2.2.length ∧ b.2.2.length ≤ 8
  begin' : 0 ≤ b.2.1 ∧ b.2.1 < b.2.2.length
  next : ∀ c ∈ b.2.2, c.2.1.length = b.1.length ∧ c.2.2.length = b.1.length ∧ ∀ k ∈ c.2.1, 0 ≤ k ∧ k < (b.2.2.length : Int)

theorem bookErr_good {b : Book} (h : (bookErr b).2 = 0) : GoodB b := by
  unfold bookErr at h
  cases h1 : (sizeErr b == 0)
  · rw [h1] at h
    simp only [cond_false] at h
    rw [h] at h1
    cases h1
  · rw [h1] at h
    simp only [cond_true] at h
    cases h2 : (marksGo [] b.1 == 0)
    · rw [h2] at h
      simp only [cond_false] at h
      rw [h] at h2
      cases h2
    · rw [h2] at h
      simp only [cond_true] at h
      cases h3 : inR b.2.1 0 ((b.2.2.length : Int) - 1)
      · rw [h3] at h
        simp at h
      · rw [h3] at h
        simp only [cond_true] at h
        have hs : sizeErr b = 0 := by simpa using h1
        have := firstErr_zero.1 hs
        simp only [List.mem_cons, List.not_mem_nil, or_false, forall_eq_or_imp, forall_eq, unl_zero (show (10 : Int) ≠ 0 by decide), unl_zero (show (8 : Int) ≠ 0 by decide), Bool.and_eq_true, decide_eq_true_eq] at this
        have hb := inR_iff.1 h3
        refine ⟨⟨this.1.1, this.2.1⟩, ⟨this.1.2, this.2.2⟩, by omega, fun c hc => ?_⟩
        obtain ⟨g1, g2, g3⟩ := clsGo_all h c hc
        exact ⟨by omega, by omega, g3⟩

theorem GoodB.step {b : Book} (h : GoodB b) {k m : Int} (hk : 0 ≤ k ∧ k < b.2.2.length) (hm : 0 ≤ m ∧ m < b.1.length) : ∃ k', stepTo b.2.2 k m = some k' ∧ 0 ≤ k' ∧ k' < b.2.2.length := by
  unfold stepTo
  rw [geti_of hk.1 hk.2, Option.bind_some]
  obtain ⟨g1, g2, g3⟩ := h.next b.2.2[k.toNat] (List.getElem_mem _)
  rw [geti_of hm.1 (by rw [g1]; exact hm.2)]
  exact ⟨_, rfl, g3 _ (List.getElem_mem _)⟩

theorem GoodB.walk {b : Book} (h : GoodB b) : (l : List Int) → (∀ m ∈ l, 0 ≤ m ∧ m < (b.1.length : Int)) → (k : Int) → 0 ≤ k ∧ k < b.2.2.length → ∃ w, walkO b.2.2 k l = some w ∧ ∀ x ∈ w, 0 ≤ x ∧ x < (b.2.2.length : Int)
  | [], _, k, hk => ⟨[k], rfl, by simpa using hk⟩
  | m :: l, hl, k, hk => by
    obtain ⟨k', h1, h2⟩ := h.step hk (hl m (List.mem_cons_self ..))
    obtain ⟨w, h3, h4⟩ := h.walk l (fun x hx => hl x (List.mem_cons_of_mem _ hx)) k' h2
    refine ⟨k :: w, ?_, fun x hx => ?_⟩
    · simp only [walkO, h1, Option.bind_some, h3, Option.map_some]
    · rcases List.mem_cons.1 hx with rfl | hx
      · exact hk
      · exact h4 x hx

theorem marksErr_zero {b : Book} {l : List Int} : marksErr b l = 0 ↔ l.length ≤ 40 ∧ ∀ m ∈ l, 0 ≤ m ∧ m < (b.1.length : Int) := by
  unfold marksErr
  rw [firstErr_zero]
  simp only [List.mem_cons, List.not_mem_nil, or_false, forall_eq_or_imp, forall_eq, unl_zero (show (8 : Int) ≠ 0 by decide), unl_zero (show (6 : Int) ≠ 0 by decide), decide_eq_true_eq, Bool.not_eq_true']
  refine and_congr Iff.rfl ⟨fun h m hm => ?_, fun h => ?_⟩
  · have := any_false h m hm
    rw [Bool.not_eq_false', inR_iff] at this
    omega
  · refine Bool.eq_false_iff.2 fun he => ?_
    obtain ⟨x, hx, hx2⟩ := List.any_eq_true.1 he
    have := h x hx
    rw [Bool.not_eq_true'] at hx2
    have hh := inR_iff.2 (show 0 ≤ x ∧ x ≤ (b.1.length : Int) - 1 by omega)
    rw [hh] at hx2
    cases hx2

end Go.Abs

set_option linter.unusedSimpArgs false
set_option linter.unusedVariables false
namespace Go.Abs
open Go

abbrev Pan := Int × Int × List Int × List (List Int)
def fitP (n : Nat) (p : Pan) : Prop := Lt n p.2.2.1 ∧ Lt n p.2.2.2 ∧ ∀ t ∈ p.2.2.2, Lt n t

def tstErr (p : Pan) (l : List Int) : Int := firstErr [unl ((l.length : Int) == (p.2.2.1.length : Int)) 10, unl (!(l.any fun k => !inR k 0 (p.2.1 - 1))) 6]
def tstGo (p : Pan) : Nat → List (List Int) → Int × Int
  | _, [] => (0, 0)
  | i, l :: r => bif tstErr p l == 0 then tstGo p (i + 1) r else ((i : Int), tstErr p l)
def panErr0 (p : Pan) : Int := firstErr [unl (inR p.1 1 30 && inR p.2.1 1 6) 2, unl (decide (0 < p.2.2.1.length) && decide (0 < p.2.2.2.length)) 10,
  unl (decide (p.2.2.1.length ≤ 30) && decide (p.2.2.2.length ≤ 8)) 8, unl (!(p.2.2.1.any fun k => !inR k 0 (p.1 - 1))) 6]
def panErr (p : Pan) : Int × Int := bif panErr0 p == 0 then tstGo p 0 p.2.2.2 else (0, panErr0 p)

theorem tstGo_ok (p : Pan) : (l : List (List Int)) → (i : Nat) → ((tstGo p i l).2 == 0) = true → tstGo p i l = (0, 0)
  | [], _, _ => rfl
  | c :: r, i, h => by
    simp only [tstGo] at h ⊢
    cases hc : (tstErr p c == 0)
    · rw [hc] at h; simp only [cond_false] at h; rw [hc] at h; cases h
    · rw [hc] at h; exact tstGo_ok p r _ h

theorem v50_l0 (n : Nat) (hf : Fuel n) (p : Pan) (hp : fitP n p) (hm : IntKind.wrap .i64 (p.2.1 - 1) = p.2.1 - 1)
    (k0 : Unit → Option (Int × Int)) (k1 : Int × Int × Unit → Option (Int × Int)) :
    loopG (s50_l0 n) n (p, p.2.2.2, (p.2.2.2.length : Int), (0 : Int), ()) (k0, k1, ()) =
      bif (tstGo p 0 p.2.2.2).2 == 0 then k0 () else k1 ((tstGo p 0 p.2.2.2).1, (tstGo p 0 p.2.2.2).2, ()) := by
  obtain ⟨h1, h2, h3⟩ := hp
  have hlo := hf.lo
  refine (list_loop0 p.2.2.2 (fun i => (p, p.2.2.2, (p.2.2.2.length : Int), (i : Int), ())) (fun i r => bif (tstGo p i r).2 == 0 then k0 () else k1 ((tstGo p i r).1, (tstGo p i r).2, ())) (hf.le h2) ?_ ?_ h2)
  · intro i x r hi hx hd hg hlt hw again ih
    have hx' := h3 x (List.mem_of_getElem? hx)
    have e1 : s94 n x (fun y0 => s108 n y0 p) = some (x.any fun k => !inR k 0 (p.2.1 - 1)) := by
      refine v94 n _ _ _ (fun k _ => ?_) (hf.le hx') hx'
      simp [s108, v82, hm]
    simp only [s50_l0, hlt, cond_true, hg, Option.bind_some, hw, ih, e1, v81, v80 n [_, _] (by simp [maxLen]) (by simp; omega), tstGo, bne]
    have e2 : firstErr [unl (((List.length x : Nat) : Int) == ((List.length p.2.2.1 : Nat) : Int)) (10 : Int), unl (!(x.any fun k => !inR k 0 (p.2.1 - 1))) 6] = tstErr p x := rfl
    rw [e2]
    cases h : (tstErr p x == 0) <;> simp [h]
  · intro hlt again
    simp only [s50_l0, hlt, cond_false, tstGo]
    rfl

theorem v50 (n : Nat) (p : Pan) (hf : Fuel n) (hp : fitP n p) : s50 n p = some (panErr p) := by
  have hp' := hp
  obtain ⟨h1, h2, h3⟩ := hp
  have hlo := hf.lo
  unfold s50
  have e1 : s94 n p.2.2.1 (fun y0 => s107 n y0 (p.1, (p.2.1, (p.2.2.1, p.2.2.2)))) = some (p.2.2.1.any fun k => !inR k 0 (IntKind.wrap .i64 (p.1 - 1))) := by
    refine v94 n _ _ _ (fun k _ => ?_) (hf.le h1) h1
    simp [s107, v82]
  have a1 : decide (((List.length p.2.2.1 : Nat) : Int) ≤ (30 : Int)) = decide (p.2.2.1.length ≤ 30) := dec_le _ 30
  have a2 : decide (((List.length p.2.2.2 : Nat) : Int) ≤ (8 : Int)) = decide (p.2.2.2.length ≤ 8) := dec_le _ 8
  simp only [v82, Option.bind_some, e1, v81, v80 n [_, _, _, _] (by simp [maxLen]) (by simp; omega), a1, a2, dec_gt0]
  have hpart : ∀ b : Bool, part b (some (inR p.2.1 1 6)) false = some (b && inR p.2.1 1 6) := fun b => by cases b <;> rfl
  rw [hpart]
  simp only [Option.bind_some]
  have hand : (inR p.1 1 30 && (inR p.1 1 30 && inR p.2.1 1 6)) = (inR p.1 1 30 && inR p.2.1 1 6) := by cases inR p.1 1 30 <;> rfl
  rw [hand]
  unfold panErr panErr0
  cases c1 : inR p.1 1 30 && inR p.2.1 1 6
  · rfl
  · simp only [Bool.and_eq_true] at c1
    have hc := inR_iff.1 c1.1
    have hm := inR_iff.1 c1.2
    have w1 : IntKind.wrap .i64 (p.1 - 1) = p.1 - 1 := by rw [wrap_id] <;> omega
    have w2 : IntKind.wrap .i64 (p.2.1 - 1) = p.2.1 - 1 := by rw [wrap_id] <;> omega
    rw [w1]
    simp only [bne]
    cases c2 : (firstErr [unl true 2, unl (decide (0 < p.2.2.1.length) && decide (0 < p.2.2.2.length)) 10, unl (decide (p.2.2.1.length ≤ 30) && decide (p.2.2.2.length ≤ 8)) 8, unl (!(p.2.2.1.any fun k => !inR k 0 (p.1 - 1))) 6] == 0)
    · rfl
    · simp only [Bool.not_true, cond_false, cond_true]
      rw [show ((p.1, p.2.1, p.2.2.1, p.2.2.2) : Pan) = p from rfl, v50_l0 n hf p hp' w2]
      cases c3 : ((tstGo p 0 p.2.2.2).2 == 0)
      · rfl
      · rw [tstGo_ok _ _ _ c3]; rfl

theorem v89 (n : Nat) (p : Pan) (hf : Fuel n) (hp : fitP n p) : s89 n p = some (p, (panErr p).2) := by
  unfold s89
  rw [show ((p.1, (p.2.1, (p.2.2.1, p.2.2.2))) : Pan) = p from rfl, v50 n p hf hp]
  rfl

/-! The reference: tasters of a wrong length are never looked through. -/
def fitQ (n : Nat) (p : Pan) : Prop := Lt n p.2.2.1 ∧ Lt n p.2.2.2
theorem fitP.q {n : Nat} {p : Pan} (h : fitP n p) : fitQ n p := ⟨h.1, h.2.1⟩
theorem v52_l0 (n : Nat) (hf : Fuel n) (p : Pan) (hp : fitQ n p) (hm : IntKind.wrap .i64 (p.1 - 1) = p.1 - 1)
    (k0 : Int × Int × List Int × List (List Int) × Unit → Option (Int × Int)) (k1 : Int × Int × Unit → Option (Int × Int)) :
    loopG (s52_l0 n) n ((0 : Int), p.1, p.2.1, p.2.2.1, p.2.2.2, ()) (k0, k1, ()) =
      bif (p.2.2.1.any fun k => !inR k 0 (p.1 - 1)) then k1 (0, 6, ()) else k0 (p.1, p.2.1, p.2.2.1, p.2.2.2, ()) := by
  obtain ⟨h1, h2⟩ := hp
  refine (list_loop0 p.2.2.1 (fun i => ((i : Int), p.1, p.2.1, p.2.2.1, p.2.2.2, ())) (fun i r => bif (r.any fun k => !inR k 0 (p.1 - 1)) then k1 (0, 6, ()) else k0 (p.1, p.2.1, p.2.2.1, p.2.2.2, ())) (hf.le h1) ?_ ?_ h1)
  · intro i x r hi hx hd hg hlt hw again ih
    simp only [s52_l0, hlt, cond_true, hg, Option.bind_some, hw, ih, v19, hm, List.any_cons]
    cases h : inR x 0 (p.1 - 1) <;> simp [h]
  · intro hlt again
    simp only [s52_l0, hlt, cond_false]
    rfl

theorem v52_l1_0 (n : Nat) (hf : Fuel n) (p : Pan) (hm : IntKind.wrap .i64 (p.2.1 - 1) = p.2.1 - 1) (i : Nat) (l : List Int) (hl : p.2.2.2[i]? = some l) (hll : Lt n l)
    (k0 : Int × Int × Int × List Int × List (List Int) × Unit → Option (Int × Int)) (k1 : Int × Int × Unit → Option (Int × Int)) :
    loopG (s52_l1_0 n) n ((i : Int), (0 : Int), p.1, p.2.1, p.2.2.1, p.2.2.2, ()) (k0, k1, ()) =
      bif (l.any fun k => !inR k 0 (p.2.1 - 1)) then k1 (i, 6, ()) else k0 (i, p.1, p.2.1, p.2.2.1, p.2.2.2, ()) := by
  have hgl : geti p.2.2.2 (i : Int) = some l := by rw [geti_nat, hl]
  refine (list_loop0 l (fun k => ((i : Int), (k : Int), p.1, p.2.1, p.2.2.1, p.2.2.2, ())) (fun _ r => bif (r.any fun k => !inR k 0 (p.2.1 - 1)) then k1 (i, 6, ()) else k0 (i, p.1, p.2.1, p.2.2.1, p.2.2.2, ())) (hf.le hll) ?_ ?_ hll)
  · intro k x r hk hx hd hg hlt hw again ih
    simp only [s52_l1_0, hgl, hlt, cond_true, hg, Option.bind_some, hw, ih, v19, hm, List.any_cons]
    cases h : inR x 0 (p.2.1 - 1) <;> simp [h]
  · intro hlt again
    simp only [s52_l1_0, hgl, Option.bind_some, hlt, cond_false]
    rfl

theorem v52_l1 (n : Nat) (hf : Fuel n) (p : Pan) (hp : fitQ n p) (hm : IntKind.wrap .i64 (p.2.1 - 1) = p.2.1 - 1)
    (k0 : Unit → Option (Int × Int)) (k1 : Int × Int × Unit → Option (Int × Int)) :
    loopG (s52_l1 n) n ((0 : Int), p.1, p.2.1, p.2.2.1, p.2.2.2, ()) (k0, k1, ()) =
      bif (tstGo p 0 p.2.2.2).2 == 0 then k0 () else k1 ((tstGo p 0 p.2.2.2).1, (tstGo p 0 p.2.2.2).2, ()) := by
  obtain ⟨h1, h2⟩ := hp
  refine (list_loop0 p.2.2.2 (fun i => ((i : Int), p.1, p.2.1, p.2.2.1, p.2.2.2, ())) (fun i r => bif (tstGo p i r).2 == 0 then k0 () else k1 ((tstGo p i r).1, (tstGo p i r).2, ())) (hf.le h2) ?_ ?_ h2)
  · intro i x r hi hx hd hg hlt hw again ih
    have e := fun h k0 k1 => v52_l1_0 n hf p hm i x hx h k0 k1
    simp only [s52_l1, hlt, cond_true, hg, Option.bind_some, tstGo, tstErr, bne]
    cases c1 : (((List.length x : Nat) : Int) == ((List.length p.2.2.1 : Nat) : Int))
    · rfl
    · have hlx : (x.length : Int) = (p.2.2.1.length : Int) := by simpa using c1
      rw [e (by unfold Lt at *; omega)]
      simp only [hw, ih]
      cases c2 : (x.any fun k => !inR k 0 (p.2.1 - 1)) <;> rfl
  · intro hlt again
    simp only [s52_l1, hlt, cond_false, tstGo]
    rfl

theorem v52 (n : Nat) (p : Pan) (hf : Fuel n) (hp : fitQ n p) : s52 n p = some (panErr p) := by
  have hp' := hp
  obtain ⟨h1, h2⟩ := hp
  unfold s52
  have a1 : decide (((List.length p.2.2.1 : Nat) : Int) > (30 : Int)) = !decide (p.2.2.1.length ≤ 30) := dec_gt _ 30
  have a2 : decide (((List.length p.2.2.2 : Nat) : Int) > (8 : Int)) = !decide (p.2.2.2.length ≤ 8) := dec_gt _ 8
  simp only [v19, Option.bind_some, a1, a2, beq_zero]
  unfold panErr panErr0
  cases c1 : inR p.1 1 30
  · rfl
  · simp only [Bool.not_true, Bool.not_false, part_true, Option.bind_some]
    cases c1' : inR p.2.1 1 6
    · rfl
    · have hc := inR_iff.1 c1
      have hm := inR_iff.1 c1'
      have w1 : IntKind.wrap .i64 (p.1 - 1) = p.1 - 1 := by rw [wrap_id] <;> omega
      have w2 : IntKind.wrap .i64 (p.2.1 - 1) = p.2.1 - 1 := by rw [wrap_id] <;> omega
      simp only [v52_l0 n hf p hp' w1, v52_l1 n hf p hp' w2]
      cases c2 : decide (0 < p.2.2.1.length)
      · rfl
      · cases c3 : decide (0 < p.2.2.2.length)
        · rfl
        · cases c4 : decide (p.2.2.1.length ≤ 30)
          · rfl
          · cases c5 : decide (p.2.2.2.length ≤ 8)
            · rfl
            · cases c6 : (p.2.2.1.any fun k => !inR k 0 (p.1 - 1))
              · cases c7 : ((tstGo p 0 p.2.2.2).2 == 0)
                · simp [firstErr, unl, c7]
                · rw [tstGo_ok _ _ _ c7]; rfl
              · rfl

theorem v29 (n : Nat) (p : Pan) (hf : Fuel n) (hp : fitQ n p) : s29 n p = some (panErr p).2 := by
  unfold s29
  rw [show ((p.1, (p.2.1, (p.2.2.1, p.2.2.2))) : Pan) = p from rfl, v52 n p hf hp]
  rfl

/-! Copies. -/
theorem v72 (n : Nat) (l : List (List Int)) (hf : Fuel n) (h : Lt n l) (h2 : ∀ t ∈ l, Lt n t) : s72 n l = some l := by
  have hhi := hf.hi
  unfold s72
  refine (list_loop (A := List (List Int)) l (fun i acc => (l, (i : Int), acc, ())) (fun i acc r => some (acc ++ r)) (fun i acc => acc.length = i) (hf.le h) ?_ ?_ [] rfl h)
  · intro i acc x r hi hx hd hg hlt hw hinv again ih
    have hch : chk (acc.length + ([x] : List (List Int)).length) = some () := chk_ok (by unfold Lt at *; simp; omega)
    simp only [s72_l0, hlt, cond_true, hg, Option.bind_some, hw, v27 n _ hf (h2 x (List.mem_of_getElem? hx)), hch]
    rw [ih (acc ++ [x]) (by simp [hinv])]
    simp
  · intro acc hlt hinv again
    simp only [s72_l0, hlt, cond_false, List.append_nil]

theorem v26 (n : Nat) (p : Pan) (hf : Fuel n) (hp : fitP n p) : s26 n p = some p := by
  obtain ⟨h1, h2, h3⟩ := hp
  unfold s26
  rw [v27 n _ hf h1, Option.bind_some, v72 n _ hf h2 h3]
  rfl

theorem v32 (n : Nat) (a b : List Int) (hf : Fuel n) (h : Lt n a) : s32 n a b = some (a == b) := by
  unfold s32
  cases c : (((List.length a : Nat) : Int) == ((List.length b : Nat) : Int))
  · have hne : a ≠ b := by
      rintro rfl
      simp at c
    simp only [bne, c, Bool.not_false, cond_true]
    rw [(by simpa using hne : (a == b) = false)]
  · have hlen' : (a.length : Int) = (b.length : Int) := by simpa using c
    have hlen : a.length = b.length := by omega
    simp only [bne, c, Bool.not_true, cond_false]
    refine (list_loop0 a (fun i => (a, b, (i : Int), ())) (fun i r => some (r == b.drop i)) (hf.le h) ?_ ?_ h).trans (by simp)
    · intro i x r hi hx hd hg hlt hw again ih
      have hb : b[i]? = some b[i] := List.getElem?_eq_getElem (by omega)
      have hgb : geti b (i : Int) = some b[i] := by rw [geti_nat, hb]
      have hdb : b.drop i = b[i] :: b.drop (i + 1) := List.drop_eq_getElem_cons (by omega)
      simp only [s32_l0, hlt, cond_true, hg, hgb, Option.bind_some, hw, ih, bne]
      rw [hdb, List.cons_beq_cons]
      cases h : (x == b[i]) <;> rfl
    · intro hlt again
      simp only [s32_l0, hlt, cond_false]
      rw [hlen, List.drop_length]
      rfl

end Go.Abs

set_option linter.unusedSimpArgs false
set_option linter.unusedVariables false
namespace Go.Abs
open Go

/-- A list of numbers, by place. -/
def tab (M : Nat) (f : Nat → Nat) : List Int := (List.range M).map fun m => ((f m : Nat) : Int)
theorem tab_len (M : Nat) (f : Nat → Nat) : (tab M f).length = M := by simp [tab]
theorem tab_get {M : Nat} {f : Nat → Nat} {i : Nat} (h : i < M) : geti (tab M f) (i : Int) = some ((f i : Nat) : Int) := by
  rw [geti_nat]; simp [tab, h]
theorem tab_set {M : Nat} {f : Nat → Nat} {i v : Nat} (h : i < M) : seti (tab M f) (i : Int) (v : Int) = some (tab M fun m => if m = i then v else f m) := by
  rw [seti_nat _ _ _ (by rw [tab_len]; exact h)]
  congr 1
  apply List.ext_getElem
  · simp [tab]
  · intro j h1 h2
    simp only [tab, List.getElem_set, List.getElem_map, List.getElem_range]
    by_cases hj : i = j
    · subst hj; simp
    · rw [if_neg hj, if_neg (fun e => hj e.symm)]
theorem tab_ext {M : Nat} {f g : Nat → Nat} (h : ∀ m, m < M → f m = g m) : tab M f = tab M g := by
  unfold tab
  apply List.map_congr_left
  intro m hm
  rw [h m (by simpa using hm)]
theorem tab_zero (M : Nat) : List.replicate M (0 : Int) = tab M fun _ => 0 := by
  apply List.ext_getElem <;> simp [tab]

/-- How often a mark is given to a cask's glasses. -/
def cntZ (cask : Int) (m : Nat) : List Int → List Int → Nat
  | g :: gs, x :: xs => (if g = cask ∧ x = (m : Int) then 1 else 0) + cntZ cask m gs xs
  | _, _ => 0
theorem cntZ_le (cask : Int) (m : Nat) : (gs xs : List Int) → cntZ cask m gs xs ≤ gs.length
  | g :: gs, x :: xs => by
    have := cntZ_le cask m gs xs
    simp only [cntZ, List.length_cons]
    split <;> omega
  | [], _ => by simp [cntZ]
  | _ :: _, [] => by simp [cntZ]

/-- The taster's marks. -/
def tst (p : Pan) (t : Int) : List Int := p.2.2.2.getD t.toNat []
def cnt (p : Pan) (cask : Int) (ts : List Int) (m : Nat) : Nat := (ts.map fun t => cntZ cask m p.2.2.1 (tst p t)).sum

structure GoodP (p : Pan) : Prop where
  casks : 1 ≤ p.1 ∧ p.1 ≤ 30
  marks : 1 ≤ p.2.1 ∧ p.2.1 ≤ 6
  glasses : 0 < p.2.2.1.length ∧ p.2.2.1.length ≤ 1000
  tasters : 0 < p.2.2.2.length ∧ p.2.2.2.length ≤ 1000
  glass : ∀ g ∈ p.2.2.1, 0 ≤ g ∧ g < p.1
  each : ∀ l ∈ p.2.2.2, l.length = p.2.2.1.length ∧ ∀ k ∈ l, 0 ≤ k ∧ k < p.2.1

theorem tstErr_zero {p : Pan} {l : List Int} (h : tstErr p l = 0) : l.length = p.2.2.1.length ∧ ∀ k ∈ l, 0 ≤ k ∧ k < p.2.1 := by
  have := firstErr_zero.1 h
  simp only [List.mem_cons, List.not_mem_nil, or_false, forall_eq_or_imp, forall_eq, unl_zero (show (10 : Int) ≠ 0 by decide), unl_zero (show (6 : Int) ≠ 0 by decide), beq_iff_eq, Bool.not_eq_true'] at this
  obtain ⟨h2, h3⟩ := this
  refine ⟨by omega, fun k hk => ?_⟩
  have := any_false h3 k hk
  rw [Bool.not_eq_false', inR_iff] at this
  omega

theorem tstGo_all {p : Pan} : {l : List (List Int)} → {i : Nat} → (tstGo p i l).2 = 0 → ∀ t ∈ l, tstErr p t = 0
  | [], _, _ => by simp
  | c :: r, i, h => by
    simp only [tstGo] at h
    cases hc : (tstErr p c == 0)
    · rw [hc] at h
      simp only [cond_false] at h
      rw [h] at hc
      cases hc
    · rw [hc] at h
      simp only [cond_true] at h
      intro d hd
      rcases List.mem_cons.1 hd with rfl | hd
      · simpa using hc
      · exact tstGo_all h d hd

theorem panErr_good {p : Pan} (h : (panErr p).2 = 0) : GoodP p := by
  unfold panErr at h
  cases h1 : (panErr0 p == 0)
  · rw [h1] at h
    simp only [cond_false] at h
    rw [h] at h1
    cases h1
  · rw [h1] at h
    simp only [cond_true] at h
    have hs : panErr0 p = 0 := by simpa using h1
    have := firstErr_zero.1 hs
    simp only [List.mem_cons, List.not_mem_nil, or_false, forall_eq_or_imp, forall_eq, unl_zero (show (10 : Int) ≠ 0 by decide), unl_zero (show (8 : Int) ≠ 0 by decide), unl_zero (show (2 : Int) ≠ 0 by decide), unl_zero (show (6 : Int) ≠ 0 by decide), Bool.and_eq_true, decide_eq_true_eq, inR_iff, Bool.not_eq_true'] at this
    obtain ⟨⟨g1, g2⟩, ⟨g3, g4⟩, ⟨g5, g6⟩, g7⟩ := this
    refine ⟨g1, g2, ⟨g3, by omega⟩, ⟨g4, by omega⟩, fun g hg => ?_, fun l hl => tstErr_zero (tstGo_all h l hl)⟩
    have := any_false g7 g hg
    rw [Bool.not_eq_false', inR_iff] at this
    omega

theorem tst_get {p : Pan} {t : Int} (h : 0 ≤ t ∧ t < (p.2.2.2.length : Int)) : geti p.2.2.2 t = some (tst p t) ∧ tst p t ∈ p.2.2.2 := by
  have hg := geti_of h.1 h.2
  have : tst p t = p.2.2.2[t.toNat]'(by omega) := by
    unfold tst
    rw [List.getD_eq_getElem?_getD, List.getElem?_eq_getElem (by omega)]
    rfl
  rw [this]
  exact ⟨hg, List.getElem_mem _⟩

theorem v87_l0_0 (n : Nat) (hf : Fuel n) (p : Pan) (hp : GoodP p) (cask : Int) (a16 : List Int) (a17 a18 : Int) (l : List Int) (hl : l ∈ p.2.2.2) (f : Nat → Nat) (B : Nat) (hB : B ≤ 1000000) (hfB : ∀ m, f m ≤ B)
    (k0 : Int × List Int × Int × Int × Int × Int × List Int × List (List Int) × List Int × Unit → Option (List Int)) :
    loopG (s87_l0_0 n) n (cask, a16, a17, a18, l, (l.length : Int), (0 : Int), p.1, p.2.1, p.2.2.1, p.2.2.2, tab p.2.1.toNat f, ()) (k0, ()) =
      k0 (cask, a16, a17, a18, p.1, p.2.1, p.2.2.1, p.2.2.2, tab p.2.1.toNat (fun m => f m + cntZ cask m p.2.2.1 l), ()) := by
  have hlo := hf.lo
  obtain ⟨e1, e2⟩ := hp.each l hl
  have hg := hp.glasses
  have hlm : l.length ≤ maxLen := by unfold maxLen; omega
  have hn : l.length < n := by omega
  · refine (list_loop (A := Nat → Nat) l (fun i f => (cask, a16, a17, a18, l, (l.length : Int), (i : Int), p.1, p.2.1, p.2.2.1, p.2.2.2, tab p.2.1.toNat f, ()))
      (fun i f r => k0 (cask, a16, a17, a18, p.1, p.2.1, p.2.2.1, p.2.2.2, tab p.2.1.toNat (fun m => f m + cntZ cask m (p.2.2.1.drop i) r), ())) (fun i f => ∀ m, f m ≤ B + i) hlm ?_ ?_ f hfB hn)
    · intro i f x r hi hx hd hgx hlt hw hinv again ih
      have hgl : p.2.2.1[i]? = some p.2.2.1[i] := List.getElem?_eq_getElem (by omega)
      have hgg : geti p.2.2.1 (i : Int) = some p.2.2.1[i] := by rw [geti_nat, hgl]
      have hdg : p.2.2.1.drop i = p.2.2.1[i] :: p.2.2.1.drop (i + 1) := List.drop_eq_getElem_cons (by omega)
      have hxm := e2 x (List.mem_of_getElem? hx)
      obtain ⟨mx, rfl⟩ := Int.eq_ofNat_of_zero_le hxm.1
      have hmx : mx < p.2.1.toNat := by omega
      have hi1 : i < 1001 := by omega
      simp only [s87_l0_0, hlt, cond_true, hgx, hgg, Option.bind_some, hw]
      cases c : (p.2.2.1[i] == cask)
      · simp only [cond_false]
        rw [ih f (fun m => by have := hinv m; omega)]
        congr 6
        rw [hdg]
        have hne : ¬ p.2.2.1[i] = cask := by simpa using c
        have : tab p.2.1.toNat (fun m => f m + cntZ cask m (p.2.2.1.drop (i + 1)) r) = tab p.2.1.toNat (fun m => f m + cntZ cask m (p.2.2.1[i] :: p.2.2.1.drop (i + 1)) ((mx : Int) :: r)) := by
          refine tab_ext fun m _ => ?_
          simp [cntZ, hne]
        rw [this]
      · have he : p.2.2.1[i] = cask := by simpa using c
        simp only [cond_true]
        rw [tab_get hmx]
        simp only [Option.bind_some]
        have hfm := hinv mx
        have hwr : IntKind.wrap .i64 (((f mx : Nat) : Int) + 1) = ((f mx + 1 : Nat) : Int) := by rw [wrap_id] <;> omega
        rw [hwr, tab_set hmx]
        simp only [Option.bind_some]
        rw [ih (fun m => if m = mx then f mx + 1 else f m) (fun m => by have h1 := hinv m; have h2 := hinv mx; split <;> omega)]
        have : tab p.2.1.toNat (fun m => (if m = mx then f mx + 1 else f m) + cntZ cask m (p.2.2.1.drop (i + 1)) r) = tab p.2.1.toNat (fun m => f m + cntZ cask m (p.2.2.1.drop i) ((mx : Int) :: r)) := by
          refine tab_ext fun m _ => ?_
          rw [hdg]
          simp only [cntZ, he]
          by_cases hm : m = mx
          · subst hm; simp; omega
          · have : ¬ ((mx : Int) = (m : Int)) := by omega
            simp [hm, this]
        rw [this]
    · intro f hlt hinv again
      simp only [s87_l0_0, hlt, cond_false]
      have : tab p.2.1.toNat (fun m => f m + cntZ cask m (p.2.2.1.drop l.length) []) = tab p.2.1.toNat f := by
        refine tab_ext fun m _ => ?_
        cases p.2.2.1.drop l.length <;> simp [cntZ]
      rw [this]


def okTs (p : Pan) (ts : List Int) : Prop := ∀ t ∈ ts, 0 ≤ t ∧ t < (p.2.2.2.length : Int)

theorem v87 (n : Nat) (hf : Fuel n) (p : Pan) (hp : GoodP p) (cask : Int) (ts : List Int) (hts : okTs p ts) (hl : ts.length ≤ 1000) :
    s87 n p cask ts = some (tab p.2.1.toNat (cnt p cask ts)) := by
  have hlo := hf.lo
  have hm := hp.marks
  have hg := hp.glasses
  unfold s87
  rw [chki_ok (by omega) (by omega)]
  simp only [Option.bind_some]
  rw [tab_zero]
  refine (list_loop (A := Nat → Nat) ts (fun i f => (cask, ts, (ts.length : Int), (i : Int), p.1, p.2.1, p.2.2.1, p.2.2.2, tab p.2.1.toNat f, ()))
    (fun i f r => some (tab p.2.1.toNat (fun m => f m + cnt p cask r m))) (fun i f => ∀ m, f m ≤ i * 1000) (by unfold maxLen; omega) ?_ ?_ (fun _ => 0) (by simp) (by omega)).trans ?_
  · intro i f x r hi hx hd hgx hlt hw hinv again ih
    obtain ⟨h1, h2⟩ := tst_get (hts x (List.mem_of_getElem? hx))
    simp only [s87_l0, hlt, cond_true, hgx, h1, Option.bind_some]
    rw [v87_l0_0 n hf p hp cask ts (ts.length : Int) (i : Int) (tst p x) h2 f (i * 1000) (by omega) hinv]
    simp only [hw]
    rw [ih (fun m => f m + cntZ cask m p.2.2.1 (tst p x)) (fun m => by have := hinv m; have := cntZ_le cask m p.2.2.1 (tst p x); omega)]
    simp only [cnt, List.map_cons, List.sum_cons, Nat.add_assoc]
  · intro f hlt hinv again
    simp only [s87_l0, hlt, cond_false, cnt, List.map_nil, List.sum_nil, Nat.add_zero]
  · simp

/-- The greatest. -/
def maxL : List Int → Int
  | [] => 0
  | x :: r => r.foldl imax x

theorem v126 (n : Nat) (l : List Int) (hl : l.length ≤ maxLen) (hn : l.length < n) (hne : 0 < l.length) : s126 n l = some (maxL l) := by
  unfold s126
  cases l with
  | nil => simp at hne
  | cons a r =>
    have h1 : decide (((List.length (a :: r) : Nat) : Int) < (1 : Int)) = false := by simp; omega
    simp only [h1, cond_false]
    rw [show geti (a :: r) (0 : Int) = some a from rfl]
    simp only [Option.bind_some]
    simp only [List.length_cons] at hl hn
    have key := list_loop (body := s126_l0 n) (ks := ((fun (m_1, _) => some (m_1) : Int × Unit → Option Int), ())) (n := n) (A := Int) r (fun i m => (a :: r, m, ((i + 1 : Nat) : Int), ())) (fun i m s => some (s.foldl imax m)) (fun _ _ => True) (by omega) ?_ ?_ a trivial (by omega)
    · exact key
    · intro i m x s hi hx hd hg hlt hw _ again ih
      have hlt' : decide (((i + 1 : Nat) : Int) < ((List.length (a :: r) : Nat) : Int)) = true := by simp; omega
      have hg' : geti (a :: r) ((i + 1 : Nat) : Int) = some x := by rw [geti_nat]; simpa using hx
      have hw' : IntKind.wrap .i64 (((i + 1 : Nat) : Int) + 1) = ((i + 1 + 1 : Nat) : Int) := by unfold maxLen at hl; rw [wrap_id] <;> omega
      simp only [s126_l0, hlt', cond_true, hg', Option.bind_some, hw', List.foldl_cons]
      exact ih _ trivial
    · intro m hlt _ again
      have hlt' : decide (((r.length + 1 : Nat) : Int) < ((List.length (a :: r) : Nat) : Int)) = false := by simp
      simp only [s126_l0, hlt', cond_false, List.foldl_nil]

def markOf (l : List Int) : Int :=
  bif (maxL l == 0) || ((l.drop (idxF (fun x => maxL l == x) 0 l + 1).toNat).any fun x => maxL l == x) then -1 else idxF (fun x => maxL l == x) 0 l

theorem idxF_bounds {α : Type} (p : α → Bool) : (l : List α) → (i : Nat) → idxF p i l = -1 ∨ ((i : Int) ≤ idxF p i l ∧ idxF p i l < (i : Int) + l.length)
  | [], i => .inl rfl
  | x :: r, i => by
    simp only [idxF]
    cases p x
    · simp only [cond_false]
      rcases idxF_bounds p r (i + 1) with h | h
      · exact .inl h
      · right; simp only [List.length_cons]; omega
    · simp only [cond_true, List.length_cons]; omega

theorem imax_mem (a b : Int) : imax a b = a ∨ imax a b = b := by unfold imax; split <;> simp

theorem foldl_imax_mem : (l : List Int) → (a : Int) → l.foldl imax a = a ∨ l.foldl imax a ∈ l
  | [], a => .inl rfl
  | x :: r, a => by
    rw [List.foldl_cons]
    rcases foldl_imax_mem r (imax a x) with h | h
    · rcases imax_mem a x with g | g
      · left; rw [h, g]
      · right; rw [h, g]; exact List.mem_cons_self ..
    · right; exact List.mem_cons_of_mem _ h
theorem maxL_mem {l : List Int} (h : 0 < l.length) : maxL l ∈ l := by
  cases l with
  | nil => simp at h
  | cons a r =>
    rcases foldl_imax_mem r a with g | g
    · simp only [maxL, g]; exact List.mem_cons_self ..
    · exact List.mem_cons_of_mem _ g

theorem idxF_found {α : Type} {p : α → Bool} {l : List α} {i : Nat} (h : l.any p = true) : (i : Int) ≤ idxF p i l ∧ idxF p i l < (i : Int) + l.length := by
  have := idxF_any p l i
  rw [h, decide_eq_true_eq] at this
  rcases idxF_bounds p l i with h | h
  · omega
  · exact h

theorem mark_idx {l : List Int} (h : 0 < l.length) : 0 ≤ idxF (fun x => maxL l == x) 0 l ∧ idxF (fun x => maxL l == x) 0 l < l.length := by
  have := idxF_found (p := fun x => maxL l == x) (l := l) (i := 0) (List.any_eq_true.2 ⟨maxL l, maxL_mem h, by simp⟩)
  omega

theorem v88 (n : Nat) (hf : Fuel n) (p : Pan) (hp : GoodP p) (cask : Int) (ts : List Int) (hts : okTs p ts) (hl : ts.length ≤ 1000) :
    s88 n p cask ts = some (markOf (tab p.2.1.toNat (cnt p cask ts))) := by
  have hlo := hf.lo
  have hm := hp.marks
  unfold s88
  rw [show ((p.1, (p.2.1, (p.2.2.1, p.2.2.2))) : Pan) = p from rfl, v87 n hf p hp cask ts hts hl]
  simp only [Option.bind_some]
  generalize hL : tab p.2.1.toNat (cnt p cask ts) = l
  have hlen : l.length = p.2.1.toNat := by rw [← hL, tab_len]
  have h1 : 0 < l.length := by omega
  have h2 : l.length ≤ maxLen := by unfold maxLen; omega
  rw [v126 n l h2 (by omega) h1, Option.bind_some, v127 n l _ h2 (by omega)]
  simp only [Option.bind_some]
  have hi := mark_idx h1
  unfold markOf
  generalize maxL l = mx at *
  generalize hix : idxF (fun x => mx == x) 0 l = ix at *
  cases c : (mx == 0)
  · obtain ⟨j, rfl⟩ := Int.eq_ofNat_of_zero_le hi.1
    have hw : IntKind.wrap .i64 ((j : Int) + 1) = ((j + 1 : Nat) : Int) := by rw [wrap_id] <;> omega
    rw [hw, cut_nat _ _ _ (by omega) (Nat.le_refl _)]
    simp only [Bool.not_false, part_true, Option.bind_some, List.take_length]
    rw [v128 n _ _ (by simp; omega) (by simp; omega)]
    simp only [Option.bind_some, Bool.false_or]
    rw [show (((j : Nat) : Int) + 1).toNat = j + 1 from by omega]
    cases c2 : ((l.drop (j + 1)).any fun x => mx == x) <;> rfl
  · rfl

theorem v124 (n : Nat) (p : Pan) (x : Int) (hp : GoodP p) : s124 n p x = some (unl (inR x 0 (p.1 - 1)) 6) := by
  have := hp.casks
  unfold s124
  rw [v82, Option.bind_some, v81, wrap_id (by omega) (by omega)]
  rfl
theorem v90 (n : Nat) (p : Pan) (x : Int) (hl : p.2.2.2.length ≤ 1000) : s90 n p x = some (unl (inR x 0 ((p.2.2.2.length : Int) - 1)) 6) := by
  unfold s90
  rw [v82, Option.bind_some, v81, wrap_id (by omega) (by omega)]
  rfl

end Go.Abs

set_option linter.unusedSimpArgs false
set_option linter.unusedVariables false
namespace Go.Abs
open Go

abbrev ZZ := List (Int × Int)
def same1 (z w : Int × Int) : Nat := if w.1 = z.1 ∧ z.2 = w.2 then 1 else 0
def glass1 (z w : Int × Int) : Nat := if w.1 = z.1 then 1 else 0
def sumN (f : Int × Int → Nat) (l : ZZ) : Nat := (l.map f).sum
theorem sumN_cons (f : Int × Int → Nat) (z : Int × Int) (l : ZZ) : sumN f (z :: l) = f z + sumN f l := by simp [sumN]
theorem sumN_snoc (f : Int × Int → Nat) (z : Int × Int) (l : ZZ) : sumN f (l ++ [z]) = sumN f l + f z := by simp [sumN]
theorem sumN_le (f : Int × Int → Nat) (h : ∀ z, f z ≤ 1) : (l : ZZ) → sumN f l ≤ l.length
  | [] => by simp [sumN]
  | z :: l => by have := sumN_le f h l; have := h z; rw [sumN_cons, List.length_cons]; omega
theorem same1_le (z w : Int × Int) : same1 z w ≤ 1 := by unfold same1; split <;> omega
theorem glass1_le (z w : Int × Int) : glass1 z w ≤ 1 := by unfold glass1; split <;> omega

/-- Pairs of glasses with the same cask, of the same mark: each glass with those before. -/
def steadyI (h : Int × Int → Int × Int → Nat) : ZZ → ZZ → Nat
  | _, [] => 0
  | pre, z :: r => sumN (h z) pre + steadyI h (pre ++ [z]) r

theorem v91_l0_0 (n : Nat) (hf : Fuel n) (p : Pan) (l : List Int) (a18 : List Int) (a19 t4 t41 : Int) (i : Nat) (z : Int × Int)
    (hlen : l.length = p.2.2.1.length) (hg : p.2.2.1.length ≤ 1000) (hi : i < p.2.2.1.length) (hz : (p.2.2.1.zip l)[i]? = some z) (a b : Nat) (ha : a ≤ 1000000) (hb : b ≤ 1000000)
    (k0 : List Int × List Int × Int × Int × Int × Int × List Int × List (List Int) × Int × Int × Int × Int × Unit → Option (Int × Int)) :
    loopG (s91_l0_0 n) n (l, (i : Int), z.1, a18, a19, (i : Int), (i : Int), (0 : Int), p.1, p.2.1, p.2.2.1, p.2.2.2, t4, t41, (a : Int), (b : Int), ()) (k0, ()) =
      k0 (l, a18, a19, (i : Int), p.1, p.2.1, p.2.2.1, p.2.2.2, t4, t41, ((a + sumN (same1 z) ((p.2.2.1.zip l).take i) : Nat) : Int), ((b + sumN (glass1 z) ((p.2.2.1.zip l).take i) : Nat) : Int), ()) := by
  have hlo := hf.lo
  have hZ : (p.2.2.1.zip l).length = p.2.2.1.length := by simp [hlen]
  have hT : ((p.2.2.1.zip l).take i).length = i := by simp [hlen]; omega
  have hli : geti l (i : Int) = some z.2 := by
    rw [geti_nat]
    rw [List.getElem?_zip_eq_some] at hz
    exact hz.2
  refine (list_loop (A := Nat × Nat) ((p.2.2.1.zip l).take i) (fun k c => (l, (i : Int), z.1, a18, a19, (i : Int), (i : Int), (k : Int), p.1, p.2.1, p.2.2.1, p.2.2.2, t4, t41, (c.1 : Int), (c.2 : Int), ()))
    (fun k c r => k0 (l, a18, a19, (i : Int), p.1, p.2.1, p.2.2.1, p.2.2.2, t4, t41, ((c.1 + sumN (same1 z) r : Nat) : Int), ((c.2 + sumN (glass1 z) r : Nat) : Int), ())) (fun k c => c.1 ≤ a + k ∧ c.2 ≤ b + k) (by rw [hT]; unfold maxLen; omega) ?_ ?_ (a, b) ⟨Nat.le_refl _, Nat.le_refl _⟩ (by rw [hT]; omega))
  · rintro k ⟨c, d⟩ ⟨g, y⟩ r hk hx hd _ hlt hw ⟨hc, hd'⟩ again ih
    rw [hT] at hk hlt
    rw [List.getElem?_take_of_lt hk, List.getElem?_zip_eq_some] at hx
    have hgk : geti p.2.2.1 (k : Int) = some g := by rw [geti_nat]; exact hx.1
    have hlk : geti l (k : Int) = some y := by rw [geti_nat]; exact hx.2
    dsimp only at hc hd'
    simp only [s91_l0_0, hlt, cond_true, hgk, hlk, hli, Option.bind_some, hw, sumN_cons, bne]
    have w1 : IntKind.wrap .i64 ((c : Int) + 1) = ((c + 1 : Nat) : Int) := by rw [wrap_id] <;> omega
    have w2 : IntKind.wrap .i64 ((d : Int) + 1) = ((d + 1 : Nat) : Int) := by rw [wrap_id] <;> omega
    rw [w1, w2]
    cases h1 : (g == z.1)
    · have e1 : ¬ g = z.1 := by simpa using h1
      simp only [Bool.not_false, cond_true]
      rw [ih (c, d) ⟨by dsimp only; omega, by dsimp only; omega⟩]
      simp [same1, glass1, e1]
    · have e1 : g = z.1 := by simpa using h1
      simp only [Bool.not_true, cond_false]
      cases h2 : (z.2 == y)
      · have e2 : ¬ z.2 = y := by simpa using h2
        simp only [cond_false]
        rw [ih (c, d + 1) ⟨by dsimp only; omega, by dsimp only; omega⟩]
        simp only [same1, glass1, e1, e2, and_false, if_false, if_true, Nat.zero_add, Nat.add_assoc]
      · have e2 : z.2 = y := by simpa using h2
        simp only [cond_true]
        rw [ih (c + 1, d + 1) ⟨by dsimp only; omega, by dsimp only; omega⟩]
        simp only [same1, glass1, e1, e2, and_self, if_true, Nat.add_assoc]
  · rintro ⟨c, d⟩ hlt _ again
    rw [hT] at hlt ⊢
    simp only [s91_l0_0, hlt, cond_false]
    rfl

def steady (p : Pan) (t : Int) : Nat × Nat := (steadyI same1 [] (p.2.2.1.zip (tst p t)), steadyI glass1 [] (p.2.2.1.zip (tst p t)))

theorem v91 (n : Nat) (hf : Fuel n) (p : Pan) (hp : GoodP p) (t : Int) (ht : 0 ≤ t ∧ t < (p.2.2.2.length : Int)) : s91 n p t = some (((steady p t).1 : Int), ((steady p t).2 : Int)) := by
  have hlo := hf.lo
  obtain ⟨h1, h2⟩ := tst_get ht
  obtain ⟨e1, _⟩ := hp.each _ h2
  have hg := hp.glasses
  unfold s91
  rw [h1]
  simp only [Option.bind_some]
  unfold steady
  generalize tst p t = l at *
  have hZ : (p.2.2.1.zip l).length = p.2.2.1.length := by simp [e1]
  refine (list_loop (A := Nat × Nat) (p.2.2.1.zip l) (fun i c => (l, p.2.2.1, (p.2.2.1.length : Int), (i : Int), p.1, p.2.1, p.2.2.1, p.2.2.2, (0 : Int), (0 : Int), (c.1 : Int), (c.2 : Int), ()))
    (fun i c r => some (((c.1 + steadyI same1 ((p.2.2.1.zip l).take i) r : Nat) : Int), ((c.2 + steadyI glass1 ((p.2.2.1.zip l).take i) r : Nat) : Int)))
    (fun i c => c.1 ≤ i * 1000 ∧ c.2 ≤ i * 1000) (by rw [hZ]; unfold maxLen; omega) ?_ ?_ (0, 0) (by simp) (by rw [hZ]; omega)).trans ?_
  · rintro i ⟨c, d⟩ z r hi hx hd _ hlt hw ⟨hc, hd'⟩ again ih
    rw [hZ] at hi hlt
    dsimp only at hc hd'
    have hx' := List.getElem?_zip_eq_some.1 hx
    have hgi : geti p.2.2.1 (i : Int) = some z.1 := by rw [geti_nat]; exact hx'.1
    simp only [s91_l0, hlt, cond_true, hgi, Option.bind_some]
    rw [v91_l0_0 n hf p l _ _ _ _ i z e1 hg.2 hi hx c d (by omega) (by omega)]
    simp only [hw]
    have l1 := sumN_le (same1 z) (same1_le z) ((p.2.2.1.zip l).take i)
    have l2 := sumN_le (glass1 z) (glass1_le z) ((p.2.2.1.zip l).take i)
    have hT : ((p.2.2.1.zip l).take i).length ≤ i := by simp; omega
    have ht1 : (p.2.2.1.zip l).take (i + 1) = (p.2.2.1.zip l).take i ++ [z] := by rw [List.take_add_one, hx]; rfl
    rw [ih (c + sumN (same1 z) ((p.2.2.1.zip l).take i), d + sumN (glass1 z) ((p.2.2.1.zip l).take i)) ⟨by dsimp only; omega, by dsimp only; omega⟩, ht1]
    simp only [steadyI, Nat.add_assoc]
  · rintro ⟨c, d⟩ hlt _ again
    rw [hZ] at hlt ⊢
    simp only [s91_l0, hlt, cond_false, steadyI]
    rfl
  · simp

def isSteady (p : Pan) (least : Int × Int) (t : Nat) : Bool := decide (IntKind.wrap .i64 (((steady p t).1 : Int) * least.2) ≥ IntKind.wrap .i64 (least.1 * ((steady p t).2 : Int)))
def steadiest (p : Pan) (least : Int × Int) : List Int := ((List.range p.2.2.2.length).filter (isSteady p least)).map fun t => ((t : Nat) : Int)

theorem v110 (n : Nat) (hf : Fuel n) (p : Pan) (hp : GoodP p) (least : Int × Int) : s110 n p least = some (steadiest p least) := by
  have hlo := hf.lo
  have hT := hp.tasters
  unfold s110 steadiest
  refine (count_loop (A := List Int) p.2.2.2.length (fun i acc => ((p.2.2.2.length : Int), (i : Int), p.1, p.2.1, p.2.2.1, p.2.2.2, least.1, least.2, acc, ()))
    (fun i acc => some (((List.range p.2.2.2.length).filter (isSteady p least)).map fun t => ((t : Nat) : Int))) (fun i acc => acc = ((List.range i).filter (isSteady p least)).map fun t => ((t : Nat) : Int)) (by unfold maxLen; omega) ?_ ?_ [] (by simp) (by omega))
  · intro i acc hi hlt hw hinv again ih
    have e := v91 n hf p hp (i : Int) ⟨by omega, by omega⟩
    have hal : acc.length ≤ i := by
      rw [hinv, List.length_map]
      exact Nat.le_trans (List.length_filter_le _ _) (by simp)
    have hch : chk (acc.length + ([(i : Int)] : List Int).length) = some () := chk_ok (by simp; omega)
    simp only [s110_l0, hlt, cond_true, show ((p.1, p.2.1, p.2.2.1, p.2.2.2) : Pan) = p from rfl, e, Option.bind_some, hw, hch]
    have hr : ((List.range (i + 1)).filter (isSteady p least)).map (fun t => ((t : Nat) : Int)) = acc ++ (bif isSteady p least i then [((i : Nat) : Int)] else []) := by
      rw [List.range_succ, List.filter_append, List.map_append, ← hinv]
      cases h : isSteady p least i <;> simp [h]
    have hd : decide (IntKind.wrap .i64 (((steady p i).1 : Int) * least.2) ≥ IntKind.wrap .i64 (least.1 * ((steady p i).2 : Int))) = isSteady p least i := rfl
    rw [hd]
    cases h : isSteady p least i
    · simp only [cond_false]
      exact ih acc (by rw [hr, h]; simp)
    · simp only [cond_true]
      exact ih (acc ++ [(i : Int)]) (by rw [hr, h]; rfl)
  · intro acc hlt hinv again
    simp only [s110_l0, hlt, cond_false, hinv]

def marked (p : Pan) (ts : List Int) : List Int := (List.range p.1.toNat).map fun (c : Nat) => markOf (tab p.2.1.toNat (cnt p (c : Int) ts))

theorem steadiest_ok (p : Pan) (least : Int × Int) (hT : p.2.2.2.length ≤ 1000) : okTs p (steadiest p least) ∧ (steadiest p least).length ≤ 1000 := by
  refine ⟨fun t ht => ?_, ?_⟩
  · unfold steadiest at ht
    obtain ⟨k, hk, rfl⟩ := List.mem_map.1 ht
    have := List.mem_range.1 (List.mem_filter.1 hk).1
    omega
  · unfold steadiest
    rw [List.length_map]
    exact Nat.le_trans (List.length_filter_le _ _) (by simpa using hT)

theorem v56_loop (n : Nat) (hf : Fuel n) (p : Pan) (hp : GoodP p) (ts : List Int) (hts : okTs p ts) (hl : ts.length ≤ 1000) (k0 : List Int × Unit → Option (List Int × Int)) :
    loopG (s56_l0 n) n (ts, p.1, (0 : Int), p.1, p.2.1, p.2.2.1, p.2.2.2, ([] : List Int), ()) (k0, ()) = k0 (marked p ts, ()) := by
  have hlo := hf.lo
  have hc := hp.casks
  have hC : ((p.1.toNat : Nat) : Int) = p.1 := by omega
  refine (count_loop (A := List Int) p.1.toNat (fun i acc => (ts, p.1, (i : Int), p.1, p.2.1, p.2.2.1, p.2.2.2, acc, ())) (fun i acc => k0 (marked p ts, ()))
    (fun i acc => acc = (List.range i).map fun (c : Nat) => markOf (tab p.2.1.toNat (cnt p (c : Int) ts))) (by unfold maxLen; omega) ?_ ?_ [] (by simp) (by omega))
  · intro i acc hi hlt hw hinv again ih
    rw [hC] at hlt
    have hal : acc.length = i := by rw [hinv]; simp
    have hch : ∀ x : Int, chk (acc.length + ([x] : List Int).length) = some () := fun x => chk_ok (by simp; omega)
    simp only [s56_l0, hlt, cond_true, show ((p.1, p.2.1, p.2.2.1, p.2.2.2) : Pan) = p from rfl, v88 n hf p hp (i : Int) ts hts hl, Option.bind_some, hw, hch]
    exact ih _ (by rw [List.range_succ, List.map_append, hinv]; rfl)
  · intro acc hlt hinv again
    rw [hC] at hlt
    have hE : decide (((p.1.toNat : Nat) : Int) < p.1) = false := by rw [hC]; exact hlt
    simp only [s56_l0, hE, cond_false]
    rw [hinv]
    rfl

theorem v56_ok (n : Nat) (hf : Fuel n) (p : Pan) (hp : fitP n p) (he : (panErr p).2 = 0) (least : Int × Int) (hs : s109 n least = some 0) : s56 n p least = some (marked p (steadiest p least), 0) := by
  have hlo := hf.lo
  have hg := panErr_good he
  obtain ⟨g1, g2⟩ := steadiest_ok p least hg.tasters.2
  unfold s56
  rw [show ((p.1, (p.2.1, (p.2.2.1, p.2.2.2))) : Pan) = p from rfl, show ((least.1, least.2) : Int × Int) = least from rfl, v89 n p hf hp, he]
  simp only [Option.bind_some, hs, v80 n [_, _] (by simp [maxLen]) (by simp; omega)]
  have e0 : (firstErr [(0 : Int), 0] != 0) = false := rfl
  rw [e0]
  simp only [cond_false]
  rw [show ((p.1, p.2.1, p.2.2.1, p.2.2.2) : Pan) = p from rfl, v110 n hf p hg least]
  simp only [Option.bind_some]
  rw [v56_loop n hf p hg _ g1 g2]

end Go.Abs

set_option linter.unusedSimpArgs false
set_option linter.unusedVariables false
namespace Go.Abs
open Go

theorem awake_ok (m : Nat) : s15 (m + 2000) = some true := by kernel_rfl

theorem marksErr_eq (b : Book) (l : List Int) : marksErr b l = bif !decide (l.length ≤ 40) then 8 else bif l.any (fun k => !inR k 0 ((b.1.length : Int) - 1)) then 6 else 0 := by
  unfold marksErr
  cases decide (l.length ≤ 40) <;> cases l.any (fun k => !inR k 0 ((b.1.length : Int) - 1)) <;> rfl

theorem v18 (n : Nat) (b : Book) (l : List Int) (hf : Fuel n) (hb : Lt n b.1) (hl : Lt n l) : s18 n b l = some (marksErr b l) := by
  rw [marksErr_eq]
  unfold s18
  rw [show decide (((List.length l : Nat) : Int) > (40 : Int)) = !decide (l.length ≤ 40) from dec_gt _ 40]
  cases hc : (!decide (l.length ≤ 40))
  · simp only [cond_false]
    refine list_loop0 l (fun i => (l, (i : Int), b.1, b.2.1, b.2.2, ())) (fun _ r => some (bif r.any (fun k => !inR k 0 ((b.1.length : Int) - 1)) then 6 else 0)) (hf.le hl) ?_ ?_ hl
    · intro i x r hi hx hd hg hlt hw again ih
      simp only [s18_l0, hlt, cond_true, hg, Option.bind_some, v19, lenPred hf hb, List.any_cons]
      cases inR x 0 ((b.1.length : Int) - 1)
      · rfl
      · simp only [Bool.not_true, cond_false, Bool.false_or, hw]
        exact ih
    · intro hlt again
      simp only [s18_l0, hlt, cond_false, List.any_nil]
  · rfl

theorem v40 (n : Nat) (b : Book) (l : List Int) (w : List Int) (hf : Fuel n) (hl : l.length + 1 < n) (hw : walkO b.2.2 b.2.1 l = some w) : s40 n b l = some w := by
  have hhi := hf.hi
  have hll : Lt n l := by unfold Lt; omega
  unfold s40
  refine (list_loop (A := List Int × Int) l (fun i a => (l, (i : Int), b.1, b.2.1, b.2.2, a.1 ++ [a.2], ())) (fun i a r => (walkO b.2.2 a.2 r).map (a.1 ++ ·)) (fun i a => a.1.length = i) (hf.le hll) ?_ ?_ ([], b.2.1) rfl hll).trans ?_
  · rintro i ⟨pre, k⟩ x r hi hx hd hg hlt hw' hinv again ih
    have h1 : pre.length = i := hinv
    have hlast : geti (pre ++ [k]) ((i : Nat) : Int) = some k := by rw [geti_nat, ← h1]; simp
    simp only [s40_l0, hlt, cond_true, hg, Option.bind_some, hw', hlast]
    simp only [walkO, stepTo]
    cases hc : geti b.2.2 k with
    | none => rfl
    | some c =>
      simp only [Option.bind_some]
      cases hm : geti c.2.1 x with
      | none => rfl
      | some k' =>
        have hch : chk ((pre ++ [k]).length + ([k'] : List Int).length) = some () := chk_ok (by simp; omega)
        simp only [Option.bind_some, hch]
        rw [ih (pre ++ [k], k') (by simp [h1])]
        simp [Option.map_map, Function.comp_def]
  · rintro ⟨pre, k⟩ hlt hinv again
    simp only [s40_l0, hlt, cond_false, walkO]
    rfl
  · rw [hw]; rfl

/-- A list of marks that is short, or a little too long. -/
def fewM (l : List Int) : Bool := decide (((List.length l : Nat) : Int) ≤ (12 : Int)) || (decide (((List.length l : Nat) : Int) > (40 : Int)) && decide (((List.length l : Nat) : Int) ≤ (42 : Int)))

theorem fewM_le {l : List Int} (h : fewM l = true) : l.length ≤ 42 := by
  simp only [fewM, Bool.or_eq_true, Bool.and_eq_true, decide_eq_true_eq] at h
  omega

theorem v36 (n : Nat) (l : List Int) : s36 n l = some (fewM l) := rfl

theorem taste_books (b : Book) (l : List Int) : ∃ n, s6 n b l = some true := by
  refine ⟨0 + 2000, ?_⟩
  generalize hm : (0 : Nat) = m
  have hm0 : m = 0 := hm.symm
  clear hm
  have hf : Fuel (m + 2000) := ⟨by omega, by omega⟩
  have ht := awake_ok m
  generalize hn : m + 2000 = n at *
  unfold s6
  simp only [ht, Option.bind_some, Bool.not_true, cond_false, show ((b.1, b.2.1, b.2.2) : Book) = b from rfl, v16 n b hf]
  cases c1 : fewB b
  · rfl
  · obtain ⟨hb, _⟩ := few_fit c1 hf
    simp only [Bool.not_true, Bool.not_false, part_true, v36, Option.bind_some, Bool.false_or]
    cases c2 : fewM l
    · rfl
    · have hl := fewM_le c2
      have hlt : Lt n l := by unfold Lt; omega
      have hl1 : l.length + 1 < n := by omega
      simp only [Bool.not_true, cond_false, v21 n b hf hb, Option.bind_some, v37 n b hf hb, v27 n l hf hlt, v39 n b hf hb, bne, beq_self_eq_true, Bool.or_self, v18 n b l hf hb.1 hlt]
      cases c3 : ((bookErr b).2 == 0)
      · have he : ((bif (bookErr b).2 == 0 then marksErr b l else (bookErr b).2) == 0) = false := by rw [c3]; exact c3
        rw [v38_bad n b l hf hb hlt he, c3]
        simp
      · have he0 : (bookErr b).2 = 0 := by simpa using c3
        simp only [cond_true]
        cases c4 : (marksErr b l == 0)
        · have he : ((bif (bookErr b).2 == 0 then marksErr b l else (bookErr b).2) == 0) = false := by rw [c3]; exact c4
          rw [v38_bad n b l hf hb hlt he, c3]
          simp
        · have hm0' : marksErr b l = 0 := by simpa using c4
          have hg := bookErr_good he0
          obtain ⟨w, hw, _⟩ := hg.walk l (marksErr_zero.1 hm0').2 b.2.1 hg.begin'
          obtain ⟨r, rfl, hr⟩ := walkO_ne hw
          rw [v38_ok n b l _ hf hb hl1 he0 hm0' hw]
          have hwl : IntKind.wrap .i64 ((l.length : Int) + 1) = (l.length : Int) + 1 := by rw [wrap_id] <;> omega
          simp only [Option.bind_some, Bool.not_true, cond_false, beq_self_eq_true, part_true, v40 n b l _ hf hl1 hw, v32 n (b.2.1 :: r) _ hf (by unfold Lt; simp; omega), hwl, Bool.true_and, List.length_cons, hr]
          simp
end Go.Abs

set_option linter.unusedSimpArgs false
set_option linter.unusedVariables false
namespace Go.Abs
open Go

theorem v45 (n : Nat) (a b : List Txt) (hf : Fuel n) (h : Lt n a) : s45 n a b = some (a == b) := by
  unfold s45
  cases c : (((List.length a : Nat) : Int) == ((List.length b : Nat) : Int))
  · have hne : a ≠ b := by
      rintro rfl
      simp at c
    simp only [bne, c, Bool.not_false, cond_true]
    rw [(by simpa using hne : (a == b) = false)]
  · have hlen' : (a.length : Int) = (b.length : Int) := by simpa using c
    have hlen : a.length = b.length := by omega
    simp only [bne, c, Bool.not_true, cond_false]
    refine (list_loop0 a (fun i => (a, b, (i : Int), ())) (fun i r => some (r == b.drop i)) (hf.le h) ?_ ?_ h).trans (by simp)
    · intro i x r hi hx hd hg hlt hw again ih
      have hb : b[i]? = some b[i] := List.getElem?_eq_getElem (by omega)
      have hgb : geti b (i : Int) = some b[i] := by rw [geti_nat, hb]
      have hdb : b.drop i = b[i] :: b.drop (i + 1) := List.drop_eq_getElem_cons (by omega)
      simp only [s45_l0, hlt, cond_true, hg, hgb, Option.bind_some, hw, ih, bne]
      rw [hdb, List.cons_beq_cons]
      cases h : (x == b[i]) <;> rfl
    · intro hlt again
      simp only [s45_l0, hlt, cond_false]
      rw [hlen, List.drop_length]
      rfl

/-- What is said on a walk. -/
def sayO (cs : List Cls) : List Int → List Int → Option (List Txt)
  | _, [] => some []
  | k :: w, m :: l => (geti cs k).bind fun c => (geti c.2.2 m).bind fun t => (sayO cs w l).map (t :: ·)
  | [], _ :: _ => none

theorem v43_loop (n : Nat) (hf : Fuel n) (b : Book) (w l : List Int) (hl : Lt n l) (k0 : List Txt × Unit → Option (List Txt × Int)) :
    loopG (s43_l0 n) n (w, l, ((List.length l : Nat) : Int), (0 : Int), b.1, b.2.1, b.2.2, ([] : List Txt), ()) (k0, ()) = (sayO b.2.2 w l).bind fun o => k0 (o, ()) := by
  have hhi := hf.hi
  refine (list_loop (A := List Txt) l (fun i acc => (w, l, (l.length : Int), (i : Int), b.1, b.2.1, b.2.2, acc, ())) (fun i acc r => (sayO b.2.2 (w.drop i) r).bind fun o => k0 (acc ++ o, ())) (fun i acc => acc.length = i) (hf.le hl) ?_ ?_ [] rfl hl)
  · intro i acc x r hi hx hd hg hlt hw' hinv again ih
    simp only [s43_l0, hlt, cond_true, hg, Option.bind_some, hw', geti_nat w i]
    cases hwi : w[i]? with
    | none =>
      have hwl : w.length ≤ i := List.getElem?_eq_none_iff.1 hwi
      rw [List.drop_eq_nil_of_le hwl]
      rfl
    | some k =>
      have hil : i < w.length := (List.getElem?_eq_some_iff.1 hwi).1
      have hk : w[i] = k := (List.getElem?_eq_some_iff.1 hwi).2
      rw [List.drop_eq_getElem_cons hil, hk]
      simp only [sayO, Option.bind_some]
      cases hc : geti b.2.2 k with
      | none => rfl
      | some c =>
        simp only [Option.bind_some]
        cases hm : geti c.2.2 x with
        | none => rfl
        | some t =>
          have hch : chk (acc.length + ([t] : List Txt).length) = some () := chk_ok (by unfold Lt at hl; simp; omega)
          simp only [Option.bind_some, hch]
          rw [ih (acc ++ [t]) (by simp [hinv])]
          cases sayO b.2.2 (w.drop (i + 1)) r <;> simp
  · intro acc hlt hinv again
    simp only [s43_l0, hlt, cond_false, sayO, Option.bind_some, List.append_nil]

theorem v46_loop (n : Nat) (hf : Fuel n) (b : Book) (w l : List Int) (hl : Lt n l) (k0 : List Txt × Unit → Option (List Txt)) :
    loopG (s46_l0 n) n (l, w, (0 : Int), b.1, b.2.1, b.2.2, ([] : List Txt), ()) (k0, ()) = (sayO b.2.2 w l).bind fun o => k0 (o, ()) := by
  have hhi := hf.hi
  refine (list_loop (A := List Txt) l (fun i acc => (l, w, (i : Int), b.1, b.2.1, b.2.2, acc, ())) (fun i acc r => (sayO b.2.2 (w.drop i) r).bind fun o => k0 (acc ++ o, ())) (fun i acc => acc.length = i) (hf.le hl) ?_ ?_ [] rfl hl)
  · intro i acc x r hi hx hd hg hlt hw' hinv again ih
    simp only [s46_l0, hlt, cond_true, hg, Option.bind_some, hw', geti_nat w i]
    cases hwi : w[i]? with
    | none =>
      have hwl : w.length ≤ i := List.getElem?_eq_none_iff.1 hwi
      rw [List.drop_eq_nil_of_le hwl]
      rfl
    | some k =>
      have hil : i < w.length := (List.getElem?_eq_some_iff.1 hwi).1
      have hk : w[i] = k := (List.getElem?_eq_some_iff.1 hwi).2
      rw [List.drop_eq_getElem_cons hil, hk]
      simp only [sayO, Option.bind_some]
      cases hc : geti b.2.2 k with
      | none => rfl
      | some c =>
        simp only [Option.bind_some]
        cases hm : geti c.2.2 x with
        | none => rfl
        | some t =>
          have hch : chk (acc.length + ([t] : List Txt).length) = some () := chk_ok (by unfold Lt at hl; simp; omega)
          simp only [Option.bind_some, hch]
          rw [ih (acc ++ [t]) (by simp [hinv])]
          cases sayO b.2.2 (w.drop (i + 1)) r <;> simp
  · intro acc hlt hinv again
    simp only [s46_l0, hlt, cond_false, sayO, Option.bind_some, List.append_nil]

theorem v43_ok (n : Nat) (b : Book) (s : Txt × List Int) (w : List Int) (o : List Txt) (hf : Fuel n) (hb : fitB n b) (h1 : Lt n s.1) (h2 : s.2.length + 1 < n)
    (he : (bookErr b).2 = 0) (hs : sheetErr b s = 0) (hw : walkO b.2.2 b.2.1 s.2 = some w) (ho : sayO b.2.2 w s.2 = some o) : s43 n b s = some (o, 0) := by
  have hl : Lt n s.2 := by unfold Lt; omega
  unfold s43
  rw [show ((b.1, (b.2.1, b.2.2)) : Book) = b from rfl, show ((s.1, s.2) : Txt × List Int) = s from rfl, v104 n b s hf hb h1 hl, he]
  simp only [Option.bind_some, hs, bne, beq_self_eq_true, cond_true, Bool.not_true, cond_false]
  rw [show ((b.1, b.2.1, b.2.2) : Book) = b from rfl, v100 n b s.2 w hf h2 hw]
  simp only [Option.bind_some]
  rw [v43_loop n hf b w s.2 hl, ho]
  rfl

theorem v43_bad (n : Nat) (b : Book) (s : Txt × List Int) (hf : Fuel n) (hb : fitB n b) (h1 : Lt n s.1) (h2 : Lt n s.2)
    (he : ((bif (bookErr b).2 == 0 then sheetErr b s else (bookErr b).2) == 0) = false) : s43 n b s = some ([], bif (bookErr b).2 == 0 then sheetErr b s else (bookErr b).2) := by
  unfold s43
  rw [show ((b.1, (b.2.1, b.2.2)) : Book) = b from rfl, show ((s.1, s.2) : Txt × List Int) = s from rfl, v104 n b s hf hb h1 h2]
  simp only [Option.bind_some, bne, he, Bool.not_false, cond_true]

theorem v46_ok (n : Nat) (b : Book) (l w : List Int) (o : List Txt) (hf : Fuel n) (h2 : l.length + 1 < n) (hw : walkO b.2.2 b.2.1 l = some w) (ho : sayO b.2.2 w l = some o) : s46 n b l = some o := by
  have hl : Lt n l := by unfold Lt; omega
  unfold s46
  rw [show ((b.1, (b.2.1, b.2.2)) : Book) = b from rfl, v40 n b l w hf h2 hw]
  simp only [Option.bind_some]
  rw [v46_loop n hf b w l hl, ho]
  rfl

theorem v22_ok (n : Nat) (b : Book) (l w : List Int) (hf : Fuel n) (h2 : l.length + 1 < n) (hw : walkO b.2.2 b.2.1 l = some w) : s22 n b l = some (lastI w) := by
  obtain ⟨r, hr, hlen⟩ := walkO_ne hw
  unfold s22
  rw [show ((b.1, (b.2.1, b.2.2)) : Book) = b from rfl, v40 n b l w hf h2 hw]
  simp only [Option.bind_some]
  rw [geti_last hf (by rw [hr]; unfold Lt; simp; omega) (by rw [hr]; simp)]
  rfl

theorem v44 (n : Nat) (b : Book) (s : Txt × List Int) (hf : Fuel n) (hb : Lt n b.1) (h1 : Lt n s.1) (h2 : Lt n s.2) : s44 n b s = some (sheetErr b s) := by
  unfold s44 sheetErr
  rw [v101 n s.1 (hf.le h1) h1]
  simp only [Option.bind_some, firstErr]
  cases nameOk s.1
  · rfl
  · simp only [Bool.not_true, cond_false, show ((b.1, (b.2.1, b.2.2)) : Book) = b from rfl, v18 n b s.2 hf hb h2, Option.bind_some]
    cases h : (marksErr b s.2 == 0)
    · simp [unl, h]
    · have : marksErr b s.2 = 0 := by simpa using h
      simp [unl, this]

theorem GoodB.say {b : Book} (h : GoodB b) : (l w : List Int) → (∀ m ∈ l, 0 ≤ m ∧ m < (b.1.length : Int)) → (∀ x ∈ w, 0 ≤ x ∧ x < (b.2.2.length : Int)) → l.length ≤ w.length → ∃ o, sayO b.2.2 w l = some o ∧ o.length = l.length
  | [], w, _, _, _ => ⟨[], by cases w <;> rfl, rfl⟩
  | m :: l, [], _, _, hlen => by simp at hlen
  | m :: l, k :: w, hl, hw, hlen => by
    obtain ⟨o, h1, h2⟩ := h.say l w (fun x hx => hl x (List.mem_cons_of_mem _ hx)) (fun x hx => hw x (List.mem_cons_of_mem _ hx)) (by simpa using hlen)
    have hk := hw k (List.mem_cons_self ..)
    have hm := hl m (List.mem_cons_self ..)
    obtain ⟨_, g2, _⟩ := h.next b.2.2[k.toNat] (List.getElem_mem _)
    refine ⟨(b.2.2[k.toNat]'(by omega)).2.2[m.toNat]'(by rw [g2]; omega) :: o, ?_, by simp [h2]⟩
    simp only [sayO, geti_of hk.1 hk.2, Option.bind_some]
    rw [geti_of hm.1 (by rw [g2]; exact hm.2)]
    simp [h1]

theorem sheetErr_zero {b : Book} {s : Txt × List Int} (h : sheetErr b s = 0) : marksErr b s.2 = 0 := by
  have := firstErr_zero.1 h
  exact this _ (by simp)

theorem lastI_mem {l : List Int} (h : l ≠ []) : lastI l ∈ l := by
  unfold lastI
  rw [List.getLastD_eq_getLast?, List.getLast?_eq_some_getLast h]
  exact List.getLast_mem h

theorem taste_sheets (b : Book) (s : Txt × List Int) : ∃ n, s7 n b s = some true := by
  refine ⟨0 + 2000, ?_⟩
  generalize hm : (0 : Nat) = m
  have hm0 : m = 0 := hm.symm
  clear hm
  have hf : Fuel (m + 2000) := ⟨by omega, by omega⟩
  have ht := awake_ok m
  generalize hn : m + 2000 = n at *
  unfold s7
  simp only [ht, Option.bind_some, Bool.not_true, cond_false, show ((b.1, b.2.1, b.2.2) : Book) = b from rfl, show ((s.1, s.2) : Txt × List Int) = s from rfl, v16 n b hf]
  rw [show decide (((List.length s.1 : Nat) : Int) > (20 : Int)) = !decide (s.1.length ≤ 20) from dec_gt _ 20]
  cases c1 : fewB b
  · rfl
  · obtain ⟨hb, _⟩ := few_fit c1 hf
    simp only [Bool.not_true, Bool.not_false, part_true, v36, Option.bind_some, Bool.false_or]
    cases c2 : fewM s.2
    · rfl
    · cases c0 : decide (s.1.length ≤ 20)
      · rfl
      · have hs1 : s.1.length ≤ 20 := by simpa using c0
        have hl := fewM_le c2
        have h1 : Lt n s.1 := by unfold Lt; omega
        have hlt : Lt n s.2 := by unfold Lt; omega
        have hl1 : s.2.length + 1 < n := by omega
        have v42 : s42 n s = some s := by
          unfold s42
          rw [v27 n s.2 hf hlt]
          rfl
        simp only [Bool.not_true, Bool.or_self, cond_false, v21 n b hf hb, Option.bind_some, v42, v17 n b hf hb]
        cases c3 : ((bookErr b).2 == 0)
        · have he : ((bif (bookErr b).2 == 0 then sheetErr b s else (bookErr b).2) == 0) = false := by rw [c3]; exact c3
          rw [v41_bad n b s hf hb h1 hlt he, v43_bad n b s hf hb h1 hlt he, c3]
          simp [bne, c3]
        · have he0 : (bookErr b).2 = 0 := by simpa using c3
          simp only [cond_true, v44 n b s hf hb.1 h1 hlt]
          cases c4 : (sheetErr b s == 0)
          · have he : ((bif (bookErr b).2 == 0 then sheetErr b s else (bookErr b).2) == 0) = false := by rw [c3]; exact c4
            rw [v41_bad n b s hf hb h1 hlt he, v43_bad n b s hf hb h1 hlt he, c3]
            simp [bne, c4]
          · have hs0 : sheetErr b s = 0 := by simpa using c4
            have hm0' := sheetErr_zero hs0
            have hg := bookErr_good he0
            have hmk := (marksErr_zero.1 hm0').2
            obtain ⟨w, hw, hwr⟩ := hg.walk s.2 hmk b.2.1 hg.begin'
            obtain ⟨r, hr, hrl⟩ := walkO_ne hw
            obtain ⟨o, ho, hol⟩ := hg.say s.2 w hmk hwr (by rw [hr]; simp; omega)
            have hla := hwr _ (lastI_mem (by rw [hr]; simp : w ≠ []))
            have hc := geti_of (l := b.2.2) hla.1 hla.2
            rw [v41_ok n b s w _ hf hb h1 hl1 he0 hs0 hw hc, v43_ok n b s w o hf hb h1 hl1 he0 hs0 hw ho]
            simp only [Option.bind_some, bne, c4, Bool.not_true, cond_false, beq_self_eq_true, part_true, v22_ok n b s.2 w hf hl1 hw, hc, Bool.true_and, Bool.and_self, v46_ok n b s.2 w o hf hl1 hw ho, v45 n o o hf (by unfold Lt; omega), hs0]

end Go.Abs

set_option linter.unusedSimpArgs false
set_option linter.unusedVariables false
namespace Go.Abs
open Go

/-- In how many places two lists are the same. -/
def eqs : List Int → List Int → Nat
  | x :: l, y :: m => (bif y == x then 1 else 0) + eqs l m
  | _, _ => 0

theorem eqs_comm : (l m : List Int) → eqs l m = eqs m l
  | [], [] => rfl
  | [], _ :: _ => rfl
  | _ :: _, [] => rfl
  | x :: l, y :: m => by
    simp only [eqs, eqs_comm l m]
    have : (y == x) = (x == y) := BEq.comm
    rw [this]

theorem eqs_self : (l : List Int) → eqs l l = l.length
  | [] => rfl
  | x :: l => by simp only [eqs, eqs_self l, beq_self_eq_true, cond_true, List.length_cons]; omega

theorem eqs_le : (l m : List Int) → eqs l m ≤ l.length
  | [], _ => by simp [eqs]
  | _ :: _, [] => by simp [eqs]
  | x :: l, y :: m => by
    have := eqs_le l m
    simp only [eqs, List.length_cons]
    cases y == x <;> simp <;> omega

theorem qrem_nat (a b : Nat) (hb : b ≠ 0) : qrem (a : Int) (b : Int) = some ((a % b : Nat) : Int) := by
  unfold qrem
  rw [if_neg (by omega)]
  rfl

theorem gcd_loop {n : Nat} (k0 : Int × Unit → Option Int) : ∀ (m a b : Nat), b < m → loopG (s105_l0 n) m ((a : Int), (b : Int), ()) (k0, ()) = k0 (((Nat.gcd a b : Nat) : Int), ())
  | 0, a, b, h => by omega
  | m + 1, a, b, h => by
    rw [loopG]
    by_cases hb : b = 0
    · subst hb
      simp [s105_l0]
    · have e : (((b : Nat) : Int) != (0 : Int)) = true := by simpa using hb
      simp only [s105_l0, e, cond_true, qrem_nat a b hb, Option.bind_some]
      have hlt : a % b < b := Nat.mod_lt _ (Nat.pos_of_ne_zero hb)
      rw [gcd_loop k0 m b (a % b) (by omega)]
      rw [Nat.gcd_comm a b, Nat.gcd_rec b a, Nat.gcd_comm (a % b) b]

theorem imax_abs (g : Nat) (hg : g ≤ 1000000) : imax (g : Int) (IntKind.wrap .i64 (0 - (g : Int))) = (g : Int) := by
  rw [wrap_id (by omega) (by omega)]
  unfold imax
  split <;> omega

theorem v105 (n a b : Nat) (hb : b < n) (hg : Nat.gcd a b ≤ 1000000) : s105 n (a : Int) (b : Int) = some ((Nat.gcd a b : Nat) : Int) := by
  unfold s105
  rw [gcd_loop _ n a b hb]
  show some (imax ((Nat.gcd a b : Nat) : Int) (IntKind.wrap .i64 (0 - ((Nat.gcd a b : Nat) : Int)))) = _
  rw [imax_abs _ hg]

theorem v133 (n : Nat) (a b : Int) : s133 n a b = s105 n a b := rfl

theorem v47_loop (n : Nat) (hf : Fuel n) (p : Pan) (bb : Int) (la lb : List Int) (hlb : geti p.2.2.2 bb = some lb) (hla : la.length ≤ 1000) (hlen : la.length = lb.length) (all : Int) (k0 : Int × Int × Int × Int × Unit → Option ((Int × Int) × Int)) :
    loopG (s47_l0 n) n (bb, (0 : Int), all, la, ((List.length la : Nat) : Int), (0 : Int), p.1, p.2.1, p.2.2.1, p.2.2.2, (0 : Int), (0 : Int), ()) (k0, ()) = k0 (((eqs la lb : Nat) : Int), all, (0 : Int), (0 : Int), ()) := by
  have hlo := hf.lo
  refine (list_loop (A := Nat) la (fun i c => (bb, (c : Int), all, la, (la.length : Int), (i : Int), p.1, p.2.1, p.2.2.1, p.2.2.2, (0 : Int), (0 : Int), ())) (fun i c r => k0 (((c + eqs r (lb.drop i) : Nat) : Int), all, (0 : Int), (0 : Int), ())) (fun i c => c ≤ i) (by unfold maxLen; omega) ?_ ?_ 0 (Nat.le_refl _) (by omega)).trans (by simp)
  · intro i c x r hi hx hd hg hlt hw hinv again ih
    have hb : lb[i]? = some lb[i] := List.getElem?_eq_getElem (by omega)
    have hgb : geti lb (i : Int) = some lb[i] := by rw [geti_nat, hb]
    have hdb : lb.drop i = lb[i] :: lb.drop (i + 1) := List.drop_eq_getElem_cons (by omega)
    have hwc : IntKind.wrap .i64 ((c : Int) + 1) = ((c + 1 : Nat) : Int) := by rw [wrap_id] <;> omega
    simp only [s47_l0, hlt, cond_true, hg, Option.bind_some, hlb, hgb, hw, hwc]
    rw [hdb]
    simp only [eqs]
    cases h : (lb[i] == x)
    · simp only [cond_false, Nat.zero_add]
      exact ih c (by omega)
    · simp only [cond_true]
      rw [ih (c + 1) (by omega), Nat.add_assoc]
  · intro c hlt hinv again
    simp only [s47_l0, hlt, cond_false]
    rw [hlen, List.drop_length]
    rfl

theorem v48_loop (n : Nat) (hf : Fuel n) (p : Pan) (aa bb : Int) (la lb : List Int) (hla : geti p.2.2.2 aa = some la) (hlb : geti p.2.2.2 bb = some lb) (hl : p.2.2.1.length ≤ 1000) (h1 : la.length = p.2.2.1.length) (h2 : lb.length = p.2.2.1.length)
    (k0 : Int × Int × Int × List Int × List (List Int) × Int × Int × Unit → Option (Int × Int)) :
    loopG (s48_l0 n) n (aa, bb, (0 : Int), (0 : Int), p.1, p.2.1, p.2.2.1, p.2.2.2, (0 : Int), (0 : Int), ()) (k0, ()) = k0 (((eqs la lb : Nat) : Int), p.1, p.2.1, p.2.2.1, p.2.2.2, (0 : Int), (0 : Int), ()) := by
  have hlo := hf.lo
  refine (list_loop (A := Nat) p.2.2.1 (fun i c => (aa, bb, (c : Int), (i : Int), p.1, p.2.1, p.2.2.1, p.2.2.2, (0 : Int), (0 : Int), ())) (fun i c _ => k0 (((c + eqs (la.drop i) (lb.drop i) : Nat) : Int), p.1, p.2.1, p.2.2.1, p.2.2.2, (0 : Int), (0 : Int), ())) (fun i c => c ≤ i) (by unfold maxLen; omega) ?_ ?_ 0 (Nat.le_refl _) (by omega)).trans (by simp)
  · intro i c x r hi hx hd hg hlt hw hinv again ih
    have ha : la[i]? = some la[i] := List.getElem?_eq_getElem (by omega)
    have hga : geti la (i : Int) = some la[i] := by rw [geti_nat, ha]
    have hda : la.drop i = la[i] :: la.drop (i + 1) := List.drop_eq_getElem_cons (by omega)
    have hb : lb[i]? = some lb[i] := List.getElem?_eq_getElem (by omega)
    have hgb : geti lb (i : Int) = some lb[i] := by rw [geti_nat, hb]
    have hdb : lb.drop i = lb[i] :: lb.drop (i + 1) := List.drop_eq_getElem_cons (by omega)
    have hwc : IntKind.wrap .i64 ((c : Int) + 1) = ((c + 1 : Nat) : Int) := by rw [wrap_id] <;> omega
    simp only [s48_l0, hlt, cond_true, Option.bind_some, hla, hlb, hga, hgb, hw, hwc]
    rw [hda, hdb]
    simp only [eqs]
    have hc : (lb[i] == la[i]) = (la[i] == lb[i]) := BEq.comm
    rw [hc]
    cases h : (la[i] == lb[i])
    · simp only [cond_false, Nat.zero_add]
      exact ih c (by omega)
    · simp only [cond_true]
      rw [ih (c + 1) (by omega), Nat.add_assoc]
  · intro c hlt hinv again
    simp only [s48_l0, hlt, cond_false]
    rw [← h1, List.drop_length, h1, ← h2, List.drop_length]
    rfl

/-- The parts of the marks that are the same, in lowest terms. -/
def agreeO (c L : Nat) : Int × Int := (IntKind.wrap .i64 (((c : Int)).tdiv ((Nat.gcd c L : Nat) : Int)), IntKind.wrap .i64 (((L : Int)).tdiv ((Nat.gcd c L : Nat) : Int)))

def agErr (p : Pan) (a b : Int) : Int := firstErr [(panErr p).2, unl (inR a 0 ((p.2.2.2.length : Int) - 1)) 6, unl (inR b 0 ((p.2.2.2.length : Int) - 1)) 6]

theorem v47_bad (n : Nat) (hf : Fuel n) (p : Pan) (hp : fitP n p) (hl : p.2.2.2.length ≤ 1000) (a b : Int) (he : (agErr p a b == 0) = false) : s47 n p a b = some ((0, 0), agErr p a b) := by
  have hlo := hf.lo
  unfold s47
  simp only [show ((p.1, (p.2.1, (p.2.2.1, p.2.2.2))) : Pan) = p from rfl, v89 n p hf hp, Option.bind_some, show ((p.1, p.2.1, p.2.2.1, p.2.2.2) : Pan) = p from rfl, v90 n p _ hl, v80 n [_, _, _] (by simp [maxLen]) (by simp; omega), bne]
  rw [show firstErr [(panErr p).2, unl (inR a 0 ((p.2.2.2.length : Int) - 1)) 6, unl (inR b 0 ((p.2.2.2.length : Int) - 1)) 6] = agErr p a b from rfl, he]
  rfl

theorem v47_ok (n : Nat) (hf : Fuel n) (p : Pan) (hp : fitP n p) (hg : GoodP p) (a b : Int) (he : agErr p a b = 0) (ha : 0 ≤ a ∧ a < (p.2.2.2.length : Int)) (hb : 0 ≤ b ∧ b < (p.2.2.2.length : Int)) :
    s47 n p a b = some (agreeO (eqs (tst p a) (tst p b)) p.2.2.1.length, 0) := by
  have hlo := hf.lo
  have hgl := hg.glasses
  obtain ⟨a1, a2⟩ := tst_get ha
  obtain ⟨b1, b2⟩ := tst_get hb
  have ea := (hg.each _ a2).1
  have eb := (hg.each _ b2).1
  have hle := eqs_le (tst p a) (tst p b)
  unfold s47
  simp only [show ((p.1, (p.2.1, (p.2.2.1, p.2.2.2))) : Pan) = p from rfl, v89 n p hf hp, Option.bind_some, show ((p.1, p.2.1, p.2.2.1, p.2.2.2) : Pan) = p from rfl, v90 n p _ hg.tasters.2, v80 n [_, _, _] (by simp [maxLen]) (by simp; omega), bne]
  rw [show firstErr [(panErr p).2, unl (inR a 0 ((p.2.2.2.length : Int) - 1)) 6, unl (inR b 0 ((p.2.2.2.length : Int) - 1)) 6] = agErr p a b from rfl, he]
  simp only [beq_self_eq_true, Bool.not_true, cond_false, a1, Option.bind_some]
  rw [v47_loop n hf p b _ _ b1 (by omega) (by omega)]
  have hgp : 0 < Nat.gcd (eqs (tst p a) (tst p b)) p.2.2.1.length := Nat.gcd_pos_of_pos_right _ hgl.1
  have hgl2 : Nat.gcd (eqs (tst p a) (tst p b)) p.2.2.1.length ≤ p.2.2.1.length := Nat.gcd_le_right _ hgl.1
  simp only [v105 n (eqs (tst p a) (tst p b)) p.2.2.1.length (by omega) (by omega), Option.bind_some]
  unfold qdiv
  simp only [if_neg (show ¬ ((Nat.gcd (eqs (tst p a) (tst p b)) p.2.2.1.length : Nat) : Int) = 0 by omega), Option.bind_some]
  rfl

theorem v48_ok (n : Nat) (hf : Fuel n) (p : Pan) (hg : GoodP p) (a b : Int) (ha : 0 ≤ a ∧ a < (p.2.2.2.length : Int)) (hb : 0 ≤ b ∧ b < (p.2.2.2.length : Int)) :
    s48 n p a b = some (agreeO (eqs (tst p a) (tst p b)) p.2.2.1.length) := by
  have hlo := hf.lo
  have hgl := hg.glasses
  obtain ⟨a1, a2⟩ := tst_get ha
  obtain ⟨b1, b2⟩ := tst_get hb
  have ea := (hg.each _ a2).1
  have eb := (hg.each _ b2).1
  unfold s48
  rw [v48_loop n hf p a b _ _ a1 b1 hgl.2 ea eb]
  have hgp : 0 < Nat.gcd (eqs (tst p a) (tst p b)) p.2.2.1.length := Nat.gcd_pos_of_pos_right _ hgl.1
  have hgl2 : Nat.gcd (eqs (tst p a) (tst p b)) p.2.2.1.length ≤ p.2.2.1.length := Nat.gcd_le_right _ hgl.1
  simp only [s106, v133, v105 n (eqs (tst p a) (tst p b)) p.2.2.1.length (by omega) (by omega), Option.bind_some]
  rw [show decide (((p.2.2.1.length : Nat) : Int) < (0 : Int)) = false from by simp]
  simp only [cond_false]
  unfold qdiv
  simp only [if_neg (show ¬ ((Nat.gcd (eqs (tst p a) (tst p b)) p.2.2.1.length : Nat) : Int) = 0 by omega), Option.bind_some]
  rfl

theorem agree_self (L : Nat) (hL : 0 < L) : agreeO L L = (1, 1) := by
  unfold agreeO
  rw [Nat.gcd_self, Int.tdiv_self (by omega)]
  rfl

end Go.Abs

set_option linter.unusedSimpArgs false
set_option linter.unusedVariables false
namespace Go.Abs
open Go

def fewP (p : Pan) : Bool := bif !decide (p.2.2.1.length ≤ 32) || !decide (p.2.2.2.length ≤ 10) then false else !(p.2.2.2.any fun l => !decide (l.length ≤ 32))

theorem v24_l0 (n : Nat) (hf : Fuel n) (p : Pan) (h1 : Lt n p.2.2.2) (k0 : Unit → Option Bool) (k1 : Bool × Unit → Option Bool) :
    loopG (s24_l0 n) n ((0 : Int), p.1, p.2.1, p.2.2.1, p.2.2.2, ()) (k0, k1, ()) = bif (p.2.2.2.any fun l => !decide (l.length ≤ 32)) then k1 (false, ()) else k0 () := by
  refine list_loop0 p.2.2.2 (fun i => ((i : Int), p.1, p.2.1, p.2.2.1, p.2.2.2, ())) (fun _ r => bif (r.any fun l => !decide (l.length ≤ 32)) then k1 (false, ()) else k0 ()) (hf.le h1) ?_ ?_ h1
  · intro i x r hi hx hd hg hlt hw again ih
    simp only [s24_l0, hlt, cond_true, hg, Option.bind_some, hw, show decide (((List.length x : Nat) : Int) > (32 : Int)) = !decide (x.length ≤ 32) from dec_gt _ 32, List.any_cons]
    cases decide (x.length ≤ 32)
    · rfl
    · simp only [Bool.not_true, cond_false, Bool.false_or]
      exact ih
  · intro hlt again
    simp only [s24_l0, hlt, cond_false, List.any_nil]

theorem v24 (n : Nat) (p : Pan) (hf : Fuel n) : s24 n p = some (fewP p) := by
  have hlo := hf.lo
  unfold s24 fewP
  rw [show decide (((List.length p.2.2.1 : Nat) : Int) > (32 : Int)) = !decide (p.2.2.1.length ≤ 32) from dec_gt _ 32, show decide (((List.length p.2.2.2 : Nat) : Int) > (10 : Int)) = !decide (p.2.2.2.length ≤ 10) from dec_gt _ 10]
  cases h1 : (!decide (p.2.2.1.length ≤ 32) || !decide (p.2.2.2.length ≤ 10))
  · simp only [Bool.or_eq_false_iff, Bool.not_eq_false', decide_eq_true_eq] at h1
    simp only [cond_false]
    rw [v24_l0 n hf p (by unfold Lt; omega)]
    cases p.2.2.2.any fun l => !decide (l.length ≤ 32) <;> rfl
  · rfl

theorem fewP_fit {p : Pan} (h : fewP p = true) {n : Nat} (hf : Fuel n) : fitP n p ∧ p.2.2.1.length ≤ 32 ∧ p.2.2.2.length ≤ 10 := by
  have hlo := hf.lo
  unfold fewP at h
  cases h1 : (!decide (p.2.2.1.length ≤ 32) || !decide (p.2.2.2.length ≤ 10))
  · rw [h1] at h
    simp only [cond_false, Bool.not_eq_true'] at h
    simp only [Bool.or_eq_false_iff, Bool.not_eq_false', decide_eq_true_eq] at h1
    refine ⟨⟨by unfold Lt; omega, by unfold Lt; omega, fun t ht => ?_⟩, h1⟩
    have := any_false h t ht
    rw [Bool.not_eq_false', decide_eq_true_eq] at this
    unfold Lt
    omega
  · rw [h1] at h
    cases h

theorem v30 (n : Nat) (i : Int) (L : Nat) (hL : L ≤ 1000) : s30 n i ((L : Nat) : Int) = some (unl (inR i 0 ((L : Int) - 1)) 6) := by
  unfold s30
  rw [v19, Option.bind_some, wrap_id (by omega) (by omega)]
  cases inR i 0 ((L : Int) - 1) <;> rfl

theorem taste_agrees (p : Pan) (a b : Int) : ∃ n, s8 n p a b = some true := by
  refine ⟨0 + 2000, ?_⟩
  generalize hm : (0 : Nat) = m
  have hm0 : m = 0 := hm.symm
  clear hm
  have hf : Fuel (m + 2000) := ⟨by omega, by omega⟩
  have ht := awake_ok m
  generalize hn : m + 2000 = n at *
  unfold s8
  simp only [ht, Option.bind_some, Bool.not_true, cond_false, show ((p.1, (p.2.1, (p.2.2.1, p.2.2.2))) : Pan) = p from rfl, v24 n p hf]
  cases c1 : fewP p
  · rfl
  · obtain ⟨hp, l1, l2⟩ := fewP_fit c1 hf
    have hq : fitQ n p := ⟨hp.1, hp.2.1⟩
    simp only [Bool.not_true, cond_false, v26 n p hf hp, Option.bind_some, show ((p.1, p.2.1, p.2.2.1, p.2.2.2) : Pan) = p from rfl, v29 n p hf hq, v30 n _ p.2.2.2.length (by omega), bne]
    have hE : agErr p a b = bif (panErr p).2 == 0 then (bif unl (inR a 0 ((p.2.2.2.length : Int) - 1)) 6 == 0 then (bif unl (inR b 0 ((p.2.2.2.length : Int) - 1)) 6 == 0 then 0 else unl (inR b 0 ((p.2.2.2.length : Int) - 1)) 6) else unl (inR a 0 ((p.2.2.2.length : Int) - 1)) 6) else (panErr p).2 := rfl
    cases c3 : ((panErr p).2 == 0)
    · rw [c3] at hE
      simp only [cond_false] at hE
      rw [v47_bad n hf p hp (by omega) a b (by rw [hE]; exact c3), hE]
      simp [c3]
    · rw [c3] at hE
      simp only [cond_true] at hE
      cases c4 : (unl (inR a 0 ((p.2.2.2.length : Int) - 1)) 6 == 0)
      · rw [c4] at hE
        simp only [cond_false] at hE
        rw [v47_bad n hf p hp (by omega) a b (by rw [hE]; exact c4), hE]
        simp [c4]
      · rw [c4] at hE
        simp only [cond_true] at hE
        cases c5 : (unl (inR b 0 ((p.2.2.2.length : Int) - 1)) 6 == 0)
        · rw [c5] at hE
          simp only [cond_false] at hE
          rw [v47_bad n hf p hp (by omega) a b (by rw [hE]; exact c5), hE]
          simp [c5]
        · rw [c5] at hE
          simp only [cond_true] at hE
          have hpe : (panErr p).2 = 0 := by simpa using c3
          have ua : unl (inR a 0 ((p.2.2.2.length : Int) - 1)) 6 = 0 := by simpa using c4
          have ub : unl (inR b 0 ((p.2.2.2.length : Int) - 1)) 6 = 0 := by simpa using c5
          have hg := panErr_good hpe
          have ra := inR_iff.1 ((unl_zero (show (6 : Int) ≠ 0 by decide)).1 ua)
          have rb := inR_iff.1 ((unl_zero (show (6 : Int) ≠ 0 by decide)).1 ub)
          have ha : 0 ≤ a ∧ a < (p.2.2.2.length : Int) := ⟨ra.1, by omega⟩
          have hb : 0 ≤ b ∧ b < (p.2.2.2.length : Int) := ⟨rb.1, by omega⟩
          have e2 : agErr p b a = 0 := by simp [agErr, firstErr, hpe, ua, ub]
          have e3 : agErr p a a = 0 := by simp [agErr, firstErr, hpe, ua]
          have hgl := hg.glasses
          have ea := (hg.each _ (tst_get ha).2).1
          have es : eqs (tst p a) (tst p a) = p.2.2.1.length := by rw [eqs_self, ea]
          rw [v47_ok n hf p hp hg a b hE ha hb, v47_ok n hf p hp hg b a e2 hb ha, v47_ok n hf p hp hg a a e3 ha ha, v48_ok n hf p hg a b ha hb, es, agree_self _ hgl.1, eqs_comm (tst p b) (tst p a)]
          simp [part, s49]

end Go.Abs

set_option linter.unusedSimpArgs false
set_option linter.unusedVariables false
namespace Go.Abs
open Go

theorem qrem_int (a b : Int) (hb : b ≠ 0) : qrem a b = some (a.tmod b) := by
  unfold qrem
  rw [if_neg hb]

theorem euclid_zero {n : Nat} (k0 : Int × Unit → Option Int) (m : Nat) (a : Int) : loopG (s105_l0 n) (m + 1) (a, (0 : Int), ()) (k0, ()) = k0 (a, ()) := by
  rw [loopG]
  simp [s105_l0]

theorem euclid_step {n : Nat} (k0 : Int × Unit → Option Int) (m : Nat) (a b : Int) (hb : b ≠ 0) : loopG (s105_l0 n) (m + 1) (a, b, ()) (k0, ()) = loopG (s105_l0 n) m (b, a.tmod b, ()) (k0, ()) := by
  rw [loopG]
  have e : (b != (0 : Int)) = true := by simpa using hb
  simp only [s105_l0, e, cond_true, qrem_int a b hb, Option.bind_some]

/-- Two steps halve the smaller number: Euclid's way ends soon. -/
theorem euclid_some {n : Nat} (k0 : Int × Unit → Option Int) : ∀ (k m : Nat) (a b : Int), b.natAbs < 2 ^ k → 2 * k + 1 ≤ m → ∃ g, loopG (s105_l0 n) m (a, b, ()) (k0, ()) = k0 (g, ())
  | 0, m, a, b, hb, hm => by
    have : b = 0 := by
      have : b.natAbs < 1 := by simpa using hb
      omega
    subst this
    obtain ⟨m', rfl⟩ : ∃ m', m = m' + 1 := ⟨m - 1, by omega⟩
    exact ⟨a, euclid_zero k0 m' a⟩
  | k + 1, m, a, b, hb, hm => by
    obtain ⟨m', rfl⟩ : ∃ m', m = m' + 1 + 1 := ⟨m - 2, by omega⟩
    by_cases h0 : b = 0
    · subst h0
      exact ⟨a, euclid_zero k0 _ a⟩
    · rw [euclid_step k0 _ a b h0]
      by_cases h1 : a.tmod b = 0
      · rw [h1]
        exact ⟨b, euclid_zero k0 _ b⟩
      · rw [euclid_step k0 _ b _ h1]
        refine euclid_some k0 k m' _ _ ?_ (by omega)
        have e1 : (a.tmod b).natAbs = a.natAbs % b.natAbs := Int.natAbs_tmod a b
        have e2 : (b.tmod (a.tmod b)).natAbs = b.natAbs % (a.tmod b).natAbs := Int.natAbs_tmod b (a.tmod b)
        have hbp : 0 < b.natAbs := by omega
        have hrp : 0 < (a.tmod b).natAbs := by omega
        have hr : (a.tmod b).natAbs < b.natAbs := by rw [e1]; exact Nat.mod_lt _ hbp
        have h2 : b.natAbs % (a.tmod b).natAbs < (a.tmod b).natAbs := Nat.mod_lt _ hrp
        have h3 : b.natAbs % (a.tmod b).natAbs ≤ b.natAbs - (a.tmod b).natAbs := by
          rw [Nat.mod_eq_sub_mod (Nat.le_of_lt hr)]
          exact Nat.mod_le _ _
        rw [e2]
        have : 2 ^ (k + 1) = 2 * 2 ^ k := by rw [Nat.pow_succ]; omega
        omega

theorem v105_some (n : Nat) (hf : Fuel n) (a b : Int) (hb : b.natAbs < 2 ^ 64) : ∃ g, s105 n a b = some g := by
  have hlo := hf.lo
  unfold s105
  obtain ⟨g, h⟩ := euclid_some (n := n) (fun x => match x with | (a_2, _) => some (imax a_2 (IntKind.wrap .i64 (0 - a_2)))) 64 n a b hb (by omega)
  exact ⟨_, h⟩

/-- The two tests of a share. -/
theorem share_same (n : Nat) (hf : Fuel n) (f : Int × Int) (h : f.2.natAbs < 2 ^ 64) : ∃ e, s109 n f = some e ∧ s54 n f = some e := by
  obtain ⟨g, hg⟩ := v105_some n hf f.1 f.2 h
  unfold s109 s54 s111
  simp only [show ((f.1, f.2) : Int × Int) = f from rfl, v133, hg, v82, v81]
  by_cases h1 : f.2 < 1
  · have a1 : decide (f.2 < (1 : Int)) = true := by simpa using h1
    have a2 : decide (f.2 > (0 : Int)) = false := by simp; omega
    rw [a1, a2]
    exact ⟨3, rfl, rfl⟩
  · have a1 : decide (f.2 < (1 : Int)) = false := by simpa using h1
    have a2 : decide (f.2 > (0 : Int)) = true := by simp; omega
    rw [a1, a2]
    simp only [Bool.not_false, part_true, Option.bind_some, Bool.false_or, Bool.true_and, bne]
    cases h2 : (g == 1)
    · exact ⟨3, rfl, rfl⟩
    · simp only [Bool.not_true, cond_false]
      refine ⟨_, rfl, ?_⟩
      have e : (decide (f.1 < (0 : Int)) || decide (f.1 > f.2) || decide (f.2 > (1000000000 : Int))) = !(inR f.1 0 f.2 && decide (f.2 ≤ (1000000000 : Int))) := by
        rw [Bool.eq_iff_iff]
        simp only [Bool.or_eq_true, decide_eq_true_eq, Bool.not_eq_true', Bool.and_eq_false_iff, decide_eq_false_iff_not]
        have : inR f.1 0 f.2 = false ↔ ¬ (0 ≤ f.1 ∧ f.1 ≤ f.2) := by
          rw [← inR_iff]
          simp
        rw [this]
        omega
      rw [e]
      unfold unl
      cases inR f.1 0 f.2 && decide (f.2 ≤ (1000000000 : Int)) <;> rfl

end Go.Abs
