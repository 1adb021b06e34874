/- The other functions of the program as plain Lean functions, and that each call does what its function says. Printed by a program of ours. No condition but those that each theorem names. -/
import Derived.Test.YtbcbiemjokpghaaNG4a
set_option linter.unusedVariables false
namespace Go.Abs
open Go


/-- criadera/criaderalaw07.TasteShortest -/
def s3 (n : Nat) (b : (List (List UInt8)) × Int × (List ((List UInt8) × (List Int) × (List (List UInt8))))) (v_class : Int) (marks : List Int) : Option (Bool) :=
  (s15 n).bind fun x =>
  bif (!x) then
    some (false)
  else
    (s16 n (b.1, (b.2.1, b.2.2))).bind fun x_1 =>
    (part (!((!x_1) || (decide (((List.length marks : Nat) : Int) > (12 : Int))))) (s17 n (b.1, (b.2.1, b.2.2))) (0 : Int)).bind fun x_2 =>
    (part (!(((!x_1) || (decide (((List.length marks : Nat) : Int) > (12 : Int)))) || (x_2 != (0 : Int)))) (s18 n (b.1, (b.2.1, b.2.2)) marks) (0 : Int)).bind fun x_3 =>
    (part (!((((!x_1) || (decide (((List.length marks : Nat) : Int) > (12 : Int)))) || (x_2 != (0 : Int))) || (x_3 != (0 : Int)))) (s19 n v_class (0 : Int) (IntKind.wrap .i64 (((List.length b.2.2 : Nat) : Int) - (1 : Int)))) false).bind fun x_4 =>
    bif (((((!x_1) || (decide (((List.length marks : Nat) : Int) > (12 : Int)))) || (x_2 != (0 : Int))) || (x_3 != (0 : Int))) || (!x_4)) then
      some (true)
    else
      (s21 n (b.1, (b.2.1, b.2.2))).bind fun x_5 =>
      (s20 n x_5 v_class).bind fun x_6 =>
      (s22 n (b.1, (b.2.1, b.2.2)) marks).bind fun x_7 =>
      bif (x_6.2 != (0 : Int)) then
        some (((x_6.2 == (12 : Int)) && (!(x_7 == v_class))))
      else
        (s18 n (b.1, (b.2.1, b.2.2)) x_6.1).bind fun x_8 =>
        (part (x_8 == (0 : Int)) (s22 n (b.1, (b.2.1, b.2.2)) x_6.1) (0 : Int)).bind fun x_9 =>
        (part (((x_8 == (0 : Int)) && (x_9 == v_class)) && (x_7 == v_class)) (s23 n marks x_6.1) false).bind fun x_10 =>
        some ((((x_8 == (0 : Int)) && (x_9 == v_class)) && (!((x_7 == v_class) && x_10))))

def s3_c (n : Nat) : Con := ⟨[(.pair (.slice .str) (.pair (.int .i64) (.slice (.pair .str (.pair (.slice (.int .i64)) (.slice .str)))))), (.int .i64), (.slice (.int .i64))], [], [.bool], fun x y => s3 n x.1 x.2.1 x.2.2, false⟩
theorem s3_eq (n : Nat) (x : denL [(.pair (.slice .str) (.pair (.int .i64) (.slice (.pair .str (.pair (.slice (.int .i64)) (.slice .str)))))), (.int .i64), (.slice (.int .i64))]) (y : denL []) : funR (e62 n) Go.Proofs.Try.f3 [(.pair (.slice .str) (.pair (.int .i64) (.slice (.pair .str (.pair (.slice (.int .i64)) (.slice .str)))))), (.int .i64), (.slice (.int .i64))] [] [.bool] false [] x y = (s3_c n).fn x y := by kernel_rfl
theorem s3_ok (n : Nat) : ConOK Go.Proofs.Try.prog 3 (s3_c n) := func_ok (h62 n) hP Go.Proofs.Try.func3 (by kernel_rfl) (by kernel_rfl) (O := []) trivial (s3_eq n)
def e63 (n : Nat) : Env := ⟨gT, (3, s3_c n) :: (e62 n).C, gQ, (e62 n).I⟩
theorem h63 (n : Nat) : EnvOK Go.Proofs.Try.prog (e63 n) := env_add (h62 n) (s3_ok n)

def s24_l0 (n : Nat) (d : Int × Int × Int × (List Int) × (List (List Int)) × Unit) (again : (Int × Int × Int × (List Int) × (List (List Int)) × Unit) → Option (Bool)) (ks : (Unit → Option (Bool)) × (Bool × Unit → Option (Bool)) × Unit) : Option (Bool) :=
  match d, ks with
  | (i, p, p_1, p_2, p_3, _), (k0, k1, _) =>
  bif (decide (i < ((List.length p_3 : Nat) : Int))) then
    (geti p_3 i).bind fun e =>
    bif (decide (((List.length e : Nat) : Int) > (32 : Int))) then
      k1 (false, ())
    else
      again ((IntKind.wrap .i64 (i + (1 : Int))), p, p_1, p_2, p_3, ())
  else
    k0 (())

/-- criadera/criaderalaw07.panel -/
def s24 (n : Nat) (p : Int × Int × (List Int) × (List (List Int))) : Option (Bool) :=
  bif ((decide (((List.length p.2.2.1 : Nat) : Int) > (32 : Int))) || (decide (((List.length p.2.2.2 : Nat) : Int) > (10 : Int)))) then
    some (false)
  else
    loopG (s24_l0 n) n ((0 : Int), p.1, p.2.1, p.2.2.1, p.2.2.2, ())
      (fun (_) =>
        some (true),
      fun (t2, _) =>
        some (t2), ())

def s24_t0 : Templ := ⟨28, [(.int .i64), (.int .i64), (.int .i64), (.slice (.int .i64)), (.slice (.slice (.int .i64)))], [(1, .v (.bptr 28 0)), (3, .v (.hole (.int .i64)))], [(28, .box (.pair (.int .i64) (.pair (.int .i64) (.pair (.slice (.int .i64)) (.slice (.slice (.int .i64)))))) [.hole (.int .i64), .hole (.int .i64), .hole (.slice (.int .i64)), .hole (.slice (.slice (.int .i64)))])], []⟩
def s24_x0 : List (Way × Templ) := [(.exit 0, ⟨28, [], [], [], []⟩), (.ret, ⟨28, [.bool], [(2, .v (.hole .bool))], [], []⟩)]
def s24_o0 (n : Nat) : Ev (denL [.bool]) := loopO n (e63 n) s24_t0 s24_x0 (s24_l0 n)
theorem s24_b0 (n : Nat) (d) (again) (ks) : codeR (R := (denL [.bool])) (e63 n) (Hdl.no (R := (denL [.bool]))) (inn (lp (bd Go.Proofs.Try.f24) 0)) [] (mk s24_t0 d) (turnR (e63 n) s24_t0 s24_x0 again ks) = s24_l0 n d again ks := by kernel_rfl
theorem s24_s0 (n : Nat) : Sound Go.Proofs.Try.prog (Hdl.no (R := (denL [.bool]))) false (lp (bd Go.Proofs.Try.f24) 0) (s24_o0 n) := loop_ok (h63 n) hP (by kernel_rfl) (O := []) trivial (s24_b0 n)
def s24_c (n : Nat) : Con := ⟨[(.pair (.int .i64) (.pair (.int .i64) (.pair (.slice (.int .i64)) (.slice (.slice (.int .i64))))))], [], [.bool], fun x y => s24 n x, false⟩
theorem s24_eq (n : Nat) (x : denL [(.pair (.int .i64) (.pair (.int .i64) (.pair (.slice (.int .i64)) (.slice (.slice (.int .i64))))))]) (y : denL []) : funR (e63 n) Go.Proofs.Try.f24 [(.pair (.int .i64) (.pair (.int .i64) (.pair (.slice (.int .i64)) (.slice (.slice (.int .i64))))))] [] [.bool] false [s24_o0 n] x y = (s24_c n).fn x y := by kernel_rfl
theorem s24_ok (n : Nat) : ConOK Go.Proofs.Try.prog 24 (s24_c n) := func_ok (h63 n) hP Go.Proofs.Try.func24 (by kernel_rfl) (by kernel_rfl) (O := [s24_o0 n]) ⟨s24_s0 n, trivial⟩ (s24_eq n)
def e64 (n : Nat) : Env := ⟨gT, (24, s24_c n) :: (e63 n).C, gQ, (e63 n).I⟩
theorem h64 (n : Nat) : EnvOK Go.Proofs.Try.prog (e64 n) := env_add (h63 n) (s24_ok n)

def s72_l0 (n : Nat) (d : (List (List Int)) × Int × (List (List Int)) × Unit) (again : ((List (List Int)) × Int × (List (List Int)) × Unit) → Option ((List (List Int)))) (ks : ((List (List Int)) × Unit → Option ((List (List Int)))) × Unit) : Option ((List (List Int))) :=
  match d, ks with
  | (l, i, out, _), (k0, _) =>
  bif (decide (i < ((List.length l : Nat) : Int))) then
    (geti l i).bind fun e =>
    (s27 n e).bind fun x =>
    (chk (List.length out + List.length ([x] : List (List Int)))).bind fun u =>
    again (l, (IntKind.wrap .i64 (i + (1 : Int))), (out ++ ([x] : List (List Int))), ())
  else
    k0 (out, ())

/-- criadera/criaderabase.CopyLists -/
def s72 (n : Nat) (l : List (List Int)) : Option ((List (List Int))) :=
  loopG (s72_l0 n) n (l, (0 : Int), ([] : List (List Int)), ())
    (fun (out_1, _) =>
      some out_1, ())

def s72_t0 : Templ := ⟨20, [(.slice (.slice (.int .i64))), (.int .i64), (.slice (.slice (.int .i64)))], [(0, .v (.hole (.slice (.slice (.int .i64))))), (3, .v (.hand 20)), (4, .v (.hole (.int .i64)))], [(20, .buf (.slice (.int .i64)))], []⟩
def s72_x0 : List (Way × Templ) := [(.exit 0, ⟨20, [(.slice (.slice (.int .i64)))], [(3, .v (.hand 20))], [(20, .buf (.slice (.int .i64)))], []⟩)]
def s72_o0 (n : Nat) : Ev (denL [(.slice (.slice (.int .i64)))]) := loopO n (e64 n) s72_t0 s72_x0 (s72_l0 n)
theorem s72_b0 (n : Nat) (d) (again) (ks) : codeR (R := (denL [(.slice (.slice (.int .i64)))])) (e64 n) (Hdl.no (R := (denL [(.slice (.slice (.int .i64)))]))) (inn (lp (bd Go.Proofs.Try.f72) 0)) [] (mk s72_t0 d) (turnR (e64 n) s72_t0 s72_x0 again ks) = s72_l0 n d again ks := by kernel_rfl
theorem s72_s0 (n : Nat) : Sound Go.Proofs.Try.prog (Hdl.no (R := (denL [(.slice (.slice (.int .i64)))]))) false (lp (bd Go.Proofs.Try.f72) 0) (s72_o0 n) := loop_ok (h64 n) hP (by kernel_rfl) (O := []) trivial (s72_b0 n)
def s72_c (n : Nat) : Con := ⟨[(.slice (.slice (.int .i64)))], [], [(.slice (.slice (.int .i64)))], fun x y => s72 n x, true⟩
theorem s72_eq (n : Nat) (x : denL [(.slice (.slice (.int .i64)))]) (y : denL []) : funR (e64 n) Go.Proofs.Try.f72 [(.slice (.slice (.int .i64)))] [] [(.slice (.slice (.int .i64)))] true [s72_o0 n] x y = (s72_c n).fn x y := by kernel_rfl
theorem s72_ok (n : Nat) : ConOK Go.Proofs.Try.prog 72 (s72_c n) := func_ok (h64 n) hP Go.Proofs.Try.func72 (by kernel_rfl) (by kernel_rfl) (O := [s72_o0 n]) ⟨s72_s0 n, trivial⟩ (s72_eq n)
def e65 (n : Nat) : Env := ⟨gT, (72, s72_c n) :: (e64 n).C, gQ, (e64 n).I⟩
theorem h65 (n : Nat) : EnvOK Go.Proofs.Try.prog (e65 n) := env_add (h64 n) (s72_ok n)

/-- criadera/criaderaref07.CopyPanel -/
def s26 (n : Nat) (p : Int × Int × (List Int) × (List (List Int))) : Option ((Int × Int × (List Int) × (List (List Int)))) :=
  (s27 n p.2.2.1).bind fun x =>
  (s72 n p.2.2.2).bind fun x_1 =>
  some (p.1, (p.2.1, (x, x_1)))

def s26_c (n : Nat) : Con := ⟨[(.pair (.int .i64) (.pair (.int .i64) (.pair (.slice (.int .i64)) (.slice (.slice (.int .i64))))))], [], [(.pair (.int .i64) (.pair (.int .i64) (.pair (.slice (.int .i64)) (.slice (.slice (.int .i64))))))], fun x y => s26 n x, true⟩
theorem s26_eq (n : Nat) (x : denL [(.pair (.int .i64) (.pair (.int .i64) (.pair (.slice (.int .i64)) (.slice (.slice (.int .i64))))))]) (y : denL []) : funR (e65 n) Go.Proofs.Try.f26 [(.pair (.int .i64) (.pair (.int .i64) (.pair (.slice (.int .i64)) (.slice (.slice (.int .i64))))))] [] [(.pair (.int .i64) (.pair (.int .i64) (.pair (.slice (.int .i64)) (.slice (.slice (.int .i64))))))] true [] x y = (s26_c n).fn x y := by kernel_rfl
theorem s26_ok (n : Nat) : ConOK Go.Proofs.Try.prog 26 (s26_c n) := func_ok (h65 n) hP Go.Proofs.Try.func26 (by kernel_rfl) (by kernel_rfl) (O := []) trivial (s26_eq n)
def e66 (n : Nat) : Env := ⟨gT, (26, s26_c n) :: (e65 n).C, gQ, (e65 n).I⟩
theorem h66 (n : Nat) : EnvOK Go.Proofs.Try.prog (e66 n) := env_add (h65 n) (s26_ok n)

/-- criadera/taste.CountsOf -/
def s25 (n : Nat) (p : Int × Int × (List Int) × (List (List Int))) (cask : Int) (tasters : List Int) : Option ((List Int) × Int) :=
  (s86 n (p.1, (p.2.1, (p.2.2.1, p.2.2.2))) cask tasters).bind fun x =>
  bif (x.2 != (0 : Int)) then
    some (([] : List Int), x.2)
  else
    (s87 n (x.1.1, (x.1.2.1, (x.1.2.2.1, x.1.2.2.2))) cask tasters).bind fun x_1 =>
    some (x_1, (0 : Int))

def s25_c (n : Nat) : Con := ⟨[(.pair (.int .i64) (.pair (.int .i64) (.pair (.slice (.int .i64)) (.slice (.slice (.int .i64)))))), (.int .i64), (.slice (.int .i64))], [], [(.slice (.int .i64)), (.int .i64)], fun x y => s25 n x.1 x.2.1 x.2.2, false⟩
theorem s25_eq (n : Nat) (x : denL [(.pair (.int .i64) (.pair (.int .i64) (.pair (.slice (.int .i64)) (.slice (.slice (.int .i64)))))), (.int .i64), (.slice (.int .i64))]) (y : denL []) : funR (e66 n) Go.Proofs.Try.f25 [(.pair (.int .i64) (.pair (.int .i64) (.pair (.slice (.int .i64)) (.slice (.slice (.int .i64)))))), (.int .i64), (.slice (.int .i64))] [] [(.slice (.int .i64)), (.int .i64)] false [] x y = (s25_c n).fn x y := by kernel_rfl
theorem s25_ok (n : Nat) : ConOK Go.Proofs.Try.prog 25 (s25_c n) := func_ok (h66 n) hP Go.Proofs.Try.func25 (by kernel_rfl) (by kernel_rfl) (O := []) trivial (s25_eq n)
def e67 (n : Nat) : Env := ⟨gT, (25, s25_c n) :: (e66 n).C, gQ, (e66 n).I⟩
theorem h67 (n : Nat) : EnvOK Go.Proofs.Try.prog (e67 n) := env_add (h66 n) (s25_ok n)

def s52_l0 (n : Nat) (d : Int × Int × Int × (List Int) × (List (List Int)) × Unit) (again : (Int × Int × Int × (List Int) × (List (List Int)) × Unit) → Option (Int × Int)) (ks : (Int × Int × (List Int) × (List (List Int)) × Unit → Option (Int × Int)) × (Int × Int × Unit → Option (Int × Int)) × Unit) : Option (Int × Int) :=
  match d, ks with
  | (i, p, p_1, p_2, p_3, _), (k0, k1, _) =>
  bif (decide (i < ((List.length p_2 : Nat) : Int))) then
    (geti p_2 i).bind fun e =>
    (s19 n e (0 : Int) (IntKind.wrap .i64 (p - (1 : Int)))).bind fun x =>
    bif (!x) then
      k1 ((0 : Int), (6 : Int), ())
    else
      again ((IntKind.wrap .i64 (i + (1 : Int))), p, p_1, p_2, p_3, ())
  else
    k0 (p, p_1, p_2, p_3, ())

def s52_l1_0 (n : Nat) (d : Int × Int × Int × Int × (List Int) × (List (List Int)) × Unit) (again : (Int × Int × Int × Int × (List Int) × (List (List Int)) × Unit) → Option (Int × Int)) (ks : (Int × Int × Int × (List Int) × (List (List Int)) × Unit → Option (Int × Int)) × (Int × Int × Unit → Option (Int × Int)) × Unit) : Option (Int × Int) :=
  match d, ks with
  | (i, v_k, p, p_1, p_2, p_3, _), (k0, k1, _) =>
  (geti p_3 i).bind fun e =>
  bif (decide (v_k < ((List.length e : Nat) : Int))) then
    (geti p_3 i).bind fun e_1 =>
    (geti e_1 v_k).bind fun e_2 =>
    (s19 n e_2 (0 : Int) (IntKind.wrap .i64 (p_1 - (1 : Int)))).bind fun x =>
    bif (!x) then
      k1 (i, (6 : Int), ())
    else
      again (i, (IntKind.wrap .i64 (v_k + (1 : Int))), p, p_1, p_2, p_3, ())
  else
    k0 (i, p, p_1, p_2, p_3, ())

def s52_l1 (n : Nat) (d : Int × Int × Int × (List Int) × (List (List Int)) × Unit) (again : (Int × Int × Int × (List Int) × (List (List Int)) × Unit) → Option (Int × Int)) (ks : (Unit → Option (Int × Int)) × (Int × Int × Unit → Option (Int × Int)) × Unit) : Option (Int × Int) :=
  match d, ks with
  | (i, p, p_1, p_2, p_3, _), (k0, k1, _) =>
  bif (decide (i < ((List.length p_3 : Nat) : Int))) then
    (geti p_3 i).bind fun e =>
    bif (((List.length e : Nat) : Int) != ((List.length p_2 : Nat) : Int)) then
      k1 (i, (10 : Int), ())
    else
      loopG (s52_l1_0 n) n (i, (0 : Int), p, p_1, p_2, p_3, ())
        (fun (i_2, p_8, p_9, p_10, p_11, _) =>
          again ((IntKind.wrap .i64 (i_2 + (1 : Int))), p_8, p_9, p_10, p_11, ()),
        fun (t2, t3, _) =>
          k1 (t2, t3, ()), ())
  else
    k0 (())

/-- criadera/criaderaref07.CheckPanel -/
def s52 (n : Nat) (p : Int × Int × (List Int) × (List (List Int))) : Option (Int × Int) :=
  (s19 n p.1 (1 : Int) (30 : Int)).bind fun x =>
  (part (!(!x)) (s19 n p.2.1 (1 : Int) (6 : Int)) false).bind fun x_1 =>
  bif ((!x) || (!x_1)) then
    some ((0 : Int), (2 : Int))
  else
    bif ((((List.length p.2.2.1 : Nat) : Int) == (0 : Int)) || (((List.length p.2.2.2 : Nat) : Int) == (0 : Int))) then
      some ((0 : Int), (10 : Int))
    else
      bif ((decide (((List.length p.2.2.1 : Nat) : Int) > (30 : Int))) || (decide (((List.length p.2.2.2 : Nat) : Int) > (8 : Int)))) then
        some ((0 : Int), (8 : Int))
      else
        loopG (s52_l0 n) n ((0 : Int), p.1, p.2.1, p.2.2.1, p.2.2.2, ())
          (fun (p_5, p_6, p_7, p_8, _) =>
            loopG (s52_l1 n) n ((0 : Int), p_5, p_6, p_7, p_8, ())
              (fun (_) =>
                some ((0 : Int), (0 : Int)),
              fun (t2_1, t3_1, _) =>
                some (t2_1, t3_1), ()),
          fun (t2_2, t3_2, _) =>
            some (t2_2, t3_2), ())

def s52_t1_0 : Templ := ⟨96, [(.int .i64), (.int .i64), (.int .i64), (.int .i64), (.slice (.int .i64)), (.slice (.slice (.int .i64)))], [(1, .v (.bptr 96 0)), (5, .v (.hole (.int .i64))), (6, .v (.hole (.int .i64)))], [(96, .box (.pair (.int .i64) (.pair (.int .i64) (.pair (.slice (.int .i64)) (.slice (.slice (.int .i64)))))) [.hole (.int .i64), .hole (.int .i64), .hole (.slice (.int .i64)), .hole (.slice (.slice (.int .i64)))])], []⟩
def s52_x1_0 : List (Way × Templ) := [(.exit 4, ⟨96, [(.int .i64), (.int .i64), (.int .i64), (.slice (.int .i64)), (.slice (.slice (.int .i64)))], [(1, .v (.bptr 96 0)), (5, .v (.hole (.int .i64)))], [(96, .box (.pair (.int .i64) (.pair (.int .i64) (.pair (.slice (.int .i64)) (.slice (.slice (.int .i64)))))) [.hole (.int .i64), .hole (.int .i64), .hole (.slice (.int .i64)), .hole (.slice (.slice (.int .i64)))])], []⟩), (.ret, ⟨96, [(.int .i64), (.int .i64)], [(2, .v (.hole (.int .i64))), (3, .v (.hole (.int .i64)))], [], []⟩)]
def s52_o1_0 (n : Nat) : Ev (denL [(.int .i64), (.int .i64)]) := loopO n (e67 n) s52_t1_0 s52_x1_0 (s52_l1_0 n)
theorem s52_b1_0 (n : Nat) (d) (again) (ks) : codeR (R := (denL [(.int .i64), (.int .i64)])) (e67 n) (Hdl.no (R := (denL [(.int .i64), (.int .i64)]))) (inn (lp (inn (lp (bd Go.Proofs.Try.f52) 1)) 0)) [] (mk s52_t1_0 d) (turnR (e67 n) s52_t1_0 s52_x1_0 again ks) = s52_l1_0 n d again ks := by kernel_rfl
theorem s52_s1_0 (n : Nat) : Sound Go.Proofs.Try.prog (Hdl.no (R := (denL [(.int .i64), (.int .i64)]))) false (lp (inn (lp (bd Go.Proofs.Try.f52) 1)) 0) (s52_o1_0 n) := loop_ok (h67 n) hP (by kernel_rfl) (O := []) trivial (s52_b1_0 n)
def s52_t0 : Templ := ⟨96, [(.int .i64), (.int .i64), (.int .i64), (.slice (.int .i64)), (.slice (.slice (.int .i64)))], [(1, .v (.bptr 96 0)), (4, .v (.hole (.int .i64)))], [(96, .box (.pair (.int .i64) (.pair (.int .i64) (.pair (.slice (.int .i64)) (.slice (.slice (.int .i64)))))) [.hole (.int .i64), .hole (.int .i64), .hole (.slice (.int .i64)), .hole (.slice (.slice (.int .i64)))])], []⟩
def s52_x0 : List (Way × Templ) := [(.exit 0, ⟨96, [(.int .i64), (.int .i64), (.slice (.int .i64)), (.slice (.slice (.int .i64)))], [(1, .v (.bptr 96 0))], [(96, .box (.pair (.int .i64) (.pair (.int .i64) (.pair (.slice (.int .i64)) (.slice (.slice (.int .i64)))))) [.hole (.int .i64), .hole (.int .i64), .hole (.slice (.int .i64)), .hole (.slice (.slice (.int .i64)))])], []⟩), (.ret, ⟨96, [(.int .i64), (.int .i64)], [(2, .v (.hole (.int .i64))), (3, .v (.hole (.int .i64)))], [], []⟩)]
def s52_o0 (n : Nat) : Ev (denL [(.int .i64), (.int .i64)]) := loopO n (e67 n) s52_t0 s52_x0 (s52_l0 n)
theorem s52_b0 (n : Nat) (d) (again) (ks) : codeR (R := (denL [(.int .i64), (.int .i64)])) (e67 n) (Hdl.no (R := (denL [(.int .i64), (.int .i64)]))) (inn (lp (bd Go.Proofs.Try.f52) 0)) [] (mk s52_t0 d) (turnR (e67 n) s52_t0 s52_x0 again ks) = s52_l0 n d again ks := by kernel_rfl
theorem s52_s0 (n : Nat) : Sound Go.Proofs.Try.prog (Hdl.no (R := (denL [(.int .i64), (.int .i64)]))) false (lp (bd Go.Proofs.Try.f52) 0) (s52_o0 n) := loop_ok (h67 n) hP (by kernel_rfl) (O := []) trivial (s52_b0 n)
def s52_t1 : Templ := ⟨96, [(.int .i64), (.int .i64), (.int .i64), (.slice (.int .i64)), (.slice (.slice (.int .i64)))], [(1, .v (.bptr 96 0)), (5, .v (.hole (.int .i64)))], [(96, .box (.pair (.int .i64) (.pair (.int .i64) (.pair (.slice (.int .i64)) (.slice (.slice (.int .i64)))))) [.hole (.int .i64), .hole (.int .i64), .hole (.slice (.int .i64)), .hole (.slice (.slice (.int .i64)))])], []⟩
def s52_x1 : List (Way × Templ) := [(.exit 2, ⟨96, [], [], [], []⟩), (.ret, ⟨96, [(.int .i64), (.int .i64)], [(2, .v (.hole (.int .i64))), (3, .v (.hole (.int .i64)))], [], []⟩)]
def s52_o1 (n : Nat) : Ev (denL [(.int .i64), (.int .i64)]) := loopO n (e67 n) s52_t1 s52_x1 (s52_l1 n)
theorem s52_b1 (n : Nat) (d) (again) (ks) : codeR (R := (denL [(.int .i64), (.int .i64)])) (e67 n) (Hdl.no (R := (denL [(.int .i64), (.int .i64)]))) (inn (lp (bd Go.Proofs.Try.f52) 1)) [s52_o1_0 n] (mk s52_t1 d) (turnR (e67 n) s52_t1 s52_x1 again ks) = s52_l1 n d again ks := by kernel_rfl
theorem s52_s1 (n : Nat) : Sound Go.Proofs.Try.prog (Hdl.no (R := (denL [(.int .i64), (.int .i64)]))) false (lp (bd Go.Proofs.Try.f52) 1) (s52_o1 n) := loop_ok (h67 n) hP (by kernel_rfl) (O := [s52_o1_0 n]) ⟨s52_s1_0 n, trivial⟩ (s52_b1 n)
def s52_c (n : Nat) : Con := ⟨[(.pair (.int .i64) (.pair (.int .i64) (.pair (.slice (.int .i64)) (.slice (.slice (.int .i64))))))], [], [(.int .i64), (.int .i64)], fun x y => s52 n x, false⟩
theorem s52_eq (n : Nat) (x : denL [(.pair (.int .i64) (.pair (.int .i64) (.pair (.slice (.int .i64)) (.slice (.slice (.int .i64))))))]) (y : denL []) : funR (e67 n) Go.Proofs.Try.f52 [(.pair (.int .i64) (.pair (.int .i64) (.pair (.slice (.int .i64)) (.slice (.slice (.int .i64))))))] [] [(.int .i64), (.int .i64)] false [s52_o0 n, s52_o1 n] x y = (s52_c n).fn x y := by kernel_rfl
theorem s52_ok (n : Nat) : ConOK Go.Proofs.Try.prog 52 (s52_c n) := func_ok (h67 n) hP Go.Proofs.Try.func52 (by kernel_rfl) (by kernel_rfl) (O := [s52_o0 n, s52_o1 n]) ⟨s52_s0 n, s52_s1 n, trivial⟩ (s52_eq n)
def e68 (n : Nat) : Env := ⟨gT, (52, s52_c n) :: (e67 n).C, gQ, (e67 n).I⟩
theorem h68 (n : Nat) : EnvOK Go.Proofs.Try.prog (e68 n) := env_add (h67 n) (s52_ok n)

/-- criadera/criaderaref07.PanelErr -/
def s29 (n : Nat) (p : Int × Int × (List Int) × (List (List Int))) : Option (Int) :=
  (s52 n (p.1, (p.2.1, (p.2.2.1, p.2.2.2)))).bind fun x =>
  some (x.2)

def s29_c (n : Nat) : Con := ⟨[(.pair (.int .i64) (.pair (.int .i64) (.pair (.slice (.int .i64)) (.slice (.slice (.int .i64))))))], [], [(.int .i64)], fun x y => s29 n x, false⟩
theorem s29_eq (n : Nat) (x : denL [(.pair (.int .i64) (.pair (.int .i64) (.pair (.slice (.int .i64)) (.slice (.slice (.int .i64))))))]) (y : denL []) : funR (e68 n) Go.Proofs.Try.f29 [(.pair (.int .i64) (.pair (.int .i64) (.pair (.slice (.int .i64)) (.slice (.slice (.int .i64))))))] [] [(.int .i64)] false [] x y = (s29_c n).fn x y := by kernel_rfl
theorem s29_ok (n : Nat) : ConOK Go.Proofs.Try.prog 29 (s29_c n) := func_ok (h68 n) hP Go.Proofs.Try.func29 (by kernel_rfl) (by kernel_rfl) (O := []) trivial (s29_eq n)
def e69 (n : Nat) : Env := ⟨gT, (29, s29_c n) :: (e68 n).C, gQ, (e68 n).I⟩
theorem h69 (n : Nat) : EnvOK Go.Proofs.Try.prog (e69 n) := env_add (h68 n) (s29_ok n)

/-- criadera/criaderaref07.NumberErr -/
def s30 (n : Nat) (i : Int) (v_n : Int) : Option (Int) :=
  (s19 n i (0 : Int) (IntKind.wrap .i64 (v_n - (1 : Int)))).bind fun x =>
  bif (!x) then
    some ((6 : Int))
  else
    some ((0 : Int))

def s30_c (n : Nat) : Con := ⟨[(.int .i64), (.int .i64)], [], [(.int .i64)], fun x y => s30 n x.1 x.2, false⟩
theorem s30_eq (n : Nat) (x : denL [(.int .i64), (.int .i64)]) (y : denL []) : funR (e69 n) Go.Proofs.Try.f30 [(.int .i64), (.int .i64)] [] [(.int .i64)] false [] x y = (s30_c n).fn x y := by kernel_rfl
theorem s30_ok (n : Nat) : ConOK Go.Proofs.Try.prog 30 (s30_c n) := func_ok (h69 n) hP Go.Proofs.Try.func30 (by kernel_rfl) (by kernel_rfl) (O := []) trivial (s30_eq n)
def e70 (n : Nat) : Env := ⟨gT, (30, s30_c n) :: (e69 n).C, gQ, (e69 n).I⟩
theorem h70 (n : Nat) : EnvOK Go.Proofs.Try.prog (e70 n) := env_add (h69 n) (s30_ok n)

def s31_l0 (n : Nat) (d : (List Int) × Int × Int × Int × (List Int) × (List (List Int)) × Unit) (again : ((List Int) × Int × Int × Int × (List Int) × (List (List Int)) × Unit) → Option (Int)) (ks : (Unit → Option (Int)) × (Int × Unit → Option (Int)) × Unit) : Option (Int) :=
  match d, ks with
  | (l, i, p, p_1, p_2, p_3, _), (k0, k1, _) =>
  bif (decide (i < ((List.length l : Nat) : Int))) then
    (geti l i).bind fun e =>
    (s30 n e ((List.length p_3 : Nat) : Int)).bind fun x =>
    bif (x != (0 : Int)) then
      k1 (x, ())
    else
      (part (decide (i > (0 : Int))) (geti l i) (0 : Int)).bind fun e_1 =>
      (part (decide (i > (0 : Int))) (geti l (IntKind.wrap .i64 (i - (1 : Int)))) (0 : Int)).bind fun e_2 =>
      bif ((decide (i > (0 : Int))) && (decide (e_1 ≤ e_2))) then
        k1 ((9 : Int), ())
      else
        again (l, (IntKind.wrap .i64 (i + (1 : Int))), p, p_1, p_2, p_3, ())
  else
    k0 (())

/-- criadera/criaderaref07.TastersErr -/
def s31 (n : Nat) (p : Int × Int × (List Int) × (List (List Int))) (l : List Int) : Option (Int) :=
  loopG (s31_l0 n) n (l, (0 : Int), p.1, p.2.1, p.2.2.1, p.2.2.2, ())
    (fun (_) =>
      some ((0 : Int)),
    fun (t4, _) =>
      some (t4), ())

def s31_t0 : Templ := ⟨38, [(.slice (.int .i64)), (.int .i64), (.int .i64), (.int .i64), (.slice (.int .i64)), (.slice (.slice (.int .i64)))], [(1, .v (.hole (.slice (.int .i64)))), (2, .v (.bptr 38 0)), (5, .v (.hole (.int .i64)))], [(38, .box (.pair (.int .i64) (.pair (.int .i64) (.pair (.slice (.int .i64)) (.slice (.slice (.int .i64)))))) [.hole (.int .i64), .hole (.int .i64), .hole (.slice (.int .i64)), .hole (.slice (.slice (.int .i64)))])], []⟩
def s31_x0 : List (Way × Templ) := [(.exit 0, ⟨38, [], [], [], []⟩), (.ret, ⟨38, [(.int .i64)], [(4, .v (.hole (.int .i64)))], [], []⟩)]
def s31_o0 (n : Nat) : Ev (denL [(.int .i64)]) := loopO n (e70 n) s31_t0 s31_x0 (s31_l0 n)
theorem s31_b0 (n : Nat) (d) (again) (ks) : codeR (R := (denL [(.int .i64)])) (e70 n) (Hdl.no (R := (denL [(.int .i64)]))) (inn (lp (bd Go.Proofs.Try.f31) 0)) [] (mk s31_t0 d) (turnR (e70 n) s31_t0 s31_x0 again ks) = s31_l0 n d again ks := by kernel_rfl
theorem s31_s0 (n : Nat) : Sound Go.Proofs.Try.prog (Hdl.no (R := (denL [(.int .i64)]))) false (lp (bd Go.Proofs.Try.f31) 0) (s31_o0 n) := loop_ok (h70 n) hP (by kernel_rfl) (O := []) trivial (s31_b0 n)
def s31_c (n : Nat) : Con := ⟨[(.pair (.int .i64) (.pair (.int .i64) (.pair (.slice (.int .i64)) (.slice (.slice (.int .i64)))))), (.slice (.int .i64))], [], [(.int .i64)], fun x y => s31 n x.1 x.2, false⟩
theorem s31_eq (n : Nat) (x : denL [(.pair (.int .i64) (.pair (.int .i64) (.pair (.slice (.int .i64)) (.slice (.slice (.int .i64)))))), (.slice (.int .i64))]) (y : denL []) : funR (e70 n) Go.Proofs.Try.f31 [(.pair (.int .i64) (.pair (.int .i64) (.pair (.slice (.int .i64)) (.slice (.slice (.int .i64)))))), (.slice (.int .i64))] [] [(.int .i64)] false [s31_o0 n] x y = (s31_c n).fn x y := by kernel_rfl
theorem s31_ok (n : Nat) : ConOK Go.Proofs.Try.prog 31 (s31_c n) := func_ok (h70 n) hP Go.Proofs.Try.func31 (by kernel_rfl) (by kernel_rfl) (O := [s31_o0 n]) ⟨s31_s0 n, trivial⟩ (s31_eq n)
def e71 (n : Nat) : Env := ⟨gT, (31, s31_c n) :: (e70 n).C, gQ, (e70 n).I⟩
theorem h71 (n : Nat) : EnvOK Go.Proofs.Try.prog (e71 n) := env_add (h70 n) (s31_ok n)

def s33_l0_0 (n : Nat) (d : Int × (List Int) × Int × Int × Int × Int × (List Int) × (List (List Int)) × (List Int) × Unit) (again : (Int × (List Int) × Int × Int × Int × Int × (List Int) × (List (List Int)) × (List Int) × Unit) → Option ((List Int))) (ks : (Int × (List Int) × Int × Int × Int × (List Int) × (List (List Int)) × (List Int) × Unit → Option ((List Int))) × Unit) : Option ((List Int)) :=
  match d, ks with
  | (cask, tasters, i, v_k, p, p_1, p_2, p_3, out, _), (k0, _) =>
  (part (decide (v_k < ((List.length tasters : Nat) : Int))) (geti p_2 i) (0 : Int)).bind fun e =>
  bif ((decide (v_k < ((List.length tasters : Nat) : Int))) && (e == cask)) then
    (geti tasters v_k).bind fun e_1 =>
    (geti p_3 e_1).bind fun e_2 =>
    (geti e_2 i).bind fun e_3 =>
    (geti out e_3).bind fun e_4 =>
    (geti out e_3).bind fun x =>
    (geti out e_3).bind fun e_5 =>
    (seti out e_3 (IntKind.wrap .i64 (x + (1 : Int)))).bind fun l =>
    again (cask, tasters, i, (IntKind.wrap .i64 (v_k + (1 : Int))), p, p_1, p_2, p_3, l, ())
  else
    k0 (cask, tasters, i, p, p_1, p_2, p_3, out, ())

def s33_l0 (n : Nat) (d : Int × (List Int) × Int × Int × Int × (List Int) × (List (List Int)) × (List Int) × Unit) (again : (Int × (List Int) × Int × Int × Int × (List Int) × (List (List Int)) × (List Int) × Unit) → Option ((List Int))) (ks : ((List Int) × Unit → Option ((List Int))) × Unit) : Option ((List Int)) :=
  match d, ks with
  | (cask, tasters, i, p, p_1, p_2, p_3, out, _), (k0, _) =>
  bif (decide (i < ((List.length p_2 : Nat) : Int))) then
    loopG (s33_l0_0 n) n (cask, tasters, i, (0 : Int), p, p_1, p_2, p_3, out, ())
      (fun (cask_2, tasters_2, i_2, p_8, p_9, p_10, p_11, out_2, _) =>
        again (cask_2, tasters_2, (IntKind.wrap .i64 (i_2 + (1 : Int))), p_8, p_9, p_10, p_11, out_2, ()), ())
  else
    k0 (out, ())

/-- criadera/criaderaref07.CountsOf -/
def s33 (n : Nat) (p : Int × Int × (List Int) × (List (List Int))) (cask : Int) (tasters : List Int) : Option ((List Int)) :=
  (chki p.2.1).bind fun u =>
  loopG (s33_l0 n) n (cask, tasters, (0 : Int), p.1, p.2.1, p.2.2.1, p.2.2.2, (List.replicate (Int.toNat p.2.1) (0 : Int)), ())
    (fun (out_3, _) =>
      some (out_3), ())

def s33_t0_0 : Templ := ⟨56, [(.int .i64), (.slice (.int .i64)), (.int .i64), (.int .i64), (.int .i64), (.int .i64), (.slice (.int .i64)), (.slice (.slice (.int .i64))), (.slice (.int .i64))], [(1, .v (.hole (.int .i64))), (2, .v (.hole (.slice (.int .i64)))), (3, .v (.bptr 56 0)), (7, .v (.hand 57)), (8, .v (.hole (.int .i64))), (9, .v (.hole (.int .i64)))], [(56, .box (.pair (.int .i64) (.pair (.int .i64) (.pair (.slice (.int .i64)) (.slice (.slice (.int .i64)))))) [.hole (.int .i64), .hole (.int .i64), .hole (.slice (.int .i64)), .hole (.slice (.slice (.int .i64)))]), (57, .buf (.int .i64))], []⟩
def s33_x0_0 : List (Way × Templ) := [(.exit 2, ⟨56, [(.int .i64), (.slice (.int .i64)), (.int .i64), (.int .i64), (.int .i64), (.slice (.int .i64)), (.slice (.slice (.int .i64))), (.slice (.int .i64))], [(1, .v (.hole (.int .i64))), (2, .v (.hole (.slice (.int .i64)))), (3, .v (.bptr 56 0)), (7, .v (.hand 57)), (8, .v (.hole (.int .i64)))], [(56, .box (.pair (.int .i64) (.pair (.int .i64) (.pair (.slice (.int .i64)) (.slice (.slice (.int .i64)))))) [.hole (.int .i64), .hole (.int .i64), .hole (.slice (.int .i64)), .hole (.slice (.slice (.int .i64)))]), (57, .buf (.int .i64))], []⟩)]
def s33_o0_0 (n : Nat) : Ev (denL [(.slice (.int .i64))]) := loopO n (e71 n) s33_t0_0 s33_x0_0 (s33_l0_0 n)
theorem s33_b0_0 (n : Nat) (d) (again) (ks) : codeR (R := (denL [(.slice (.int .i64))])) (e71 n) (Hdl.no (R := (denL [(.slice (.int .i64))]))) (inn (lp (inn (lp (bd Go.Proofs.Try.f33) 0)) 0)) [] (mk s33_t0_0 d) (turnR (e71 n) s33_t0_0 s33_x0_0 again ks) = s33_l0_0 n d again ks := by kernel_rfl
theorem s33_s0_0 (n : Nat) : Sound Go.Proofs.Try.prog (Hdl.no (R := (denL [(.slice (.int .i64))]))) false (lp (inn (lp (bd Go.Proofs.Try.f33) 0)) 0) (s33_o0_0 n) := loop_ok (h71 n) hP (by kernel_rfl) (O := []) trivial (s33_b0_0 n)
def s33_t0 : Templ := ⟨56, [(.int .i64), (.slice (.int .i64)), (.int .i64), (.int .i64), (.int .i64), (.slice (.int .i64)), (.slice (.slice (.int .i64))), (.slice (.int .i64))], [(1, .v (.hole (.int .i64))), (2, .v (.hole (.slice (.int .i64)))), (3, .v (.bptr 56 0)), (7, .v (.hand 57)), (8, .v (.hole (.int .i64)))], [(56, .box (.pair (.int .i64) (.pair (.int .i64) (.pair (.slice (.int .i64)) (.slice (.slice (.int .i64)))))) [.hole (.int .i64), .hole (.int .i64), .hole (.slice (.int .i64)), .hole (.slice (.slice (.int .i64)))]), (57, .buf (.int .i64))], []⟩
def s33_x0 : List (Way × Templ) := [(.exit 0, ⟨56, [(.slice (.int .i64))], [(7, .v (.hand 56))], [(56, .buf (.int .i64))], []⟩)]
def s33_o0 (n : Nat) : Ev (denL [(.slice (.int .i64))]) := loopO n (e71 n) s33_t0 s33_x0 (s33_l0 n)
theorem s33_b0 (n : Nat) (d) (again) (ks) : codeR (R := (denL [(.slice (.int .i64))])) (e71 n) (Hdl.no (R := (denL [(.slice (.int .i64))]))) (inn (lp (bd Go.Proofs.Try.f33) 0)) [s33_o0_0 n] (mk s33_t0 d) (turnR (e71 n) s33_t0 s33_x0 again ks) = s33_l0 n d again ks := by kernel_rfl
theorem s33_s0 (n : Nat) : Sound Go.Proofs.Try.prog (Hdl.no (R := (denL [(.slice (.int .i64))]))) false (lp (bd Go.Proofs.Try.f33) 0) (s33_o0 n) := loop_ok (h71 n) hP (by kernel_rfl) (O := [s33_o0_0 n]) ⟨s33_s0_0 n, trivial⟩ (s33_b0 n)
def s33_c (n : Nat) : Con := ⟨[(.pair (.int .i64) (.pair (.int .i64) (.pair (.slice (.int .i64)) (.slice (.slice (.int .i64)))))), (.int .i64), (.slice (.int .i64))], [], [(.slice (.int .i64))], fun x y => s33 n x.1 x.2.1 x.2.2, false⟩
theorem s33_eq (n : Nat) (x : denL [(.pair (.int .i64) (.pair (.int .i64) (.pair (.slice (.int .i64)) (.slice (.slice (.int .i64)))))), (.int .i64), (.slice (.int .i64))]) (y : denL []) : funR (e71 n) Go.Proofs.Try.f33 [(.pair (.int .i64) (.pair (.int .i64) (.pair (.slice (.int .i64)) (.slice (.slice (.int .i64)))))), (.int .i64), (.slice (.int .i64))] [] [(.slice (.int .i64))] false [s33_o0 n] x y = (s33_c n).fn x y := by kernel_rfl
theorem s33_ok (n : Nat) : ConOK Go.Proofs.Try.prog 33 (s33_c n) := func_ok (h71 n) hP Go.Proofs.Try.func33 (by kernel_rfl) (by kernel_rfl) (O := [s33_o0 n]) ⟨s33_s0 n, trivial⟩ (s33_eq n)
def e72 (n : Nat) : Env := ⟨gT, (33, s33_c n) :: (e71 n).C, gQ, (e71 n).I⟩
theorem h72 (n : Nat) : EnvOK Go.Proofs.Try.prog (e72 n) := env_add (h71 n) (s33_ok n)

def s34_l0 (n : Nat) (d : (List Int) × Int × Bool × Int × Unit) (again : ((List Int) × Int × Bool × Int × Unit) → Option (Int)) (ks : ((List Int) × Int × Bool × Unit → Option (Int)) × Unit) : Option (Int) :=
  match d, ks with
  | (l, best, twice, m, _), (k0, _) =>
  bif (decide (m < ((List.length l : Nat) : Int))) then
    (geti l m).bind fun e =>
    (geti l best).bind fun e_1 =>
    bif (e == e_1) then
      (geti l m).bind fun e_2 =>
      (geti l best).bind fun e_3 =>
      bif (decide (e_2 > e_3)) then
        again (l, m, false, (IntKind.wrap .i64 (m + (1 : Int))), ())
      else
        again (l, best, true, (IntKind.wrap .i64 (m + (1 : Int))), ())
    else
      (geti l m).bind fun e_4 =>
      (geti l best).bind fun e_5 =>
      bif (decide (e_4 > e_5)) then
        again (l, m, false, (IntKind.wrap .i64 (m + (1 : Int))), ())
      else
        again (l, best, twice, (IntKind.wrap .i64 (m + (1 : Int))), ())
  else
    k0 (l, best, twice, ())

/-- criadera/criaderaref07.MarkOf -/
def s34 (n : Nat) (p : Int × Int × (List Int) × (List (List Int))) (cask : Int) (tasters : List Int) : Option (Int) :=
  (s33 n (p.1, (p.2.1, (p.2.2.1, p.2.2.2))) cask tasters).bind fun x =>
  loopG (s34_l0 n) n (x, (0 : Int), false, (1 : Int), ())
    (fun (l_1, best_1, twice_1, _) =>
      (part (!twice_1) (geti l_1 best_1) (0 : Int)).bind fun e_6 =>
      bif (twice_1 || (e_6 == (0 : Int))) then
        some ((-1 : Int))
      else
        some (best_1), ())

def s34_t0 : Templ := ⟨49, [(.slice (.int .i64)), (.int .i64), .bool, (.int .i64)], [(7, .v (.hole (.slice (.int .i64)))), (8, .v (.hole (.int .i64))), (9, .v (.hole .bool)), (10, .v (.hole (.int .i64)))], [], []⟩
def s34_x0 : List (Way × Templ) := [(.exit 0, ⟨49, [(.slice (.int .i64)), (.int .i64), .bool], [(7, .v (.hole (.slice (.int .i64)))), (8, .v (.hole (.int .i64))), (9, .v (.hole .bool))], [], []⟩)]
def s34_o0 (n : Nat) : Ev (denL [(.int .i64)]) := loopO n (e72 n) s34_t0 s34_x0 (s34_l0 n)
theorem s34_b0 (n : Nat) (d) (again) (ks) : codeR (R := (denL [(.int .i64)])) (e72 n) (Hdl.no (R := (denL [(.int .i64)]))) (inn (lp (bd Go.Proofs.Try.f34) 0)) [] (mk s34_t0 d) (turnR (e72 n) s34_t0 s34_x0 again ks) = s34_l0 n d again ks := by kernel_rfl
theorem s34_s0 (n : Nat) : Sound Go.Proofs.Try.prog (Hdl.no (R := (denL [(.int .i64)]))) false (lp (bd Go.Proofs.Try.f34) 0) (s34_o0 n) := loop_ok (h72 n) hP (by kernel_rfl) (O := []) trivial (s34_b0 n)
def s34_c (n : Nat) : Con := ⟨[(.pair (.int .i64) (.pair (.int .i64) (.pair (.slice (.int .i64)) (.slice (.slice (.int .i64)))))), (.int .i64), (.slice (.int .i64))], [], [(.int .i64)], fun x y => s34 n x.1 x.2.1 x.2.2, false⟩
theorem s34_eq (n : Nat) (x : denL [(.pair (.int .i64) (.pair (.int .i64) (.pair (.slice (.int .i64)) (.slice (.slice (.int .i64)))))), (.int .i64), (.slice (.int .i64))]) (y : denL []) : funR (e72 n) Go.Proofs.Try.f34 [(.pair (.int .i64) (.pair (.int .i64) (.pair (.slice (.int .i64)) (.slice (.slice (.int .i64)))))), (.int .i64), (.slice (.int .i64))] [] [(.int .i64)] false [s34_o0 n] x y = (s34_c n).fn x y := by kernel_rfl
theorem s34_ok (n : Nat) : ConOK Go.Proofs.Try.prog 34 (s34_c n) := func_ok (h72 n) hP Go.Proofs.Try.func34 (by kernel_rfl) (by kernel_rfl) (O := [s34_o0 n]) ⟨s34_s0 n, trivial⟩ (s34_eq n)
def e73 (n : Nat) : Env := ⟨gT, (34, s34_c n) :: (e72 n).C, gQ, (e72 n).I⟩
theorem h73 (n : Nat) : EnvOK Go.Proofs.Try.prog (e73 n) := env_add (h72 n) (s34_ok n)

/-- criadera/criaderalaw07.TasteMarks -/
def s4 (n : Nat) (p : Int × Int × (List Int) × (List (List Int))) (cask : Int) (tasters : List Int) : Option (Bool) :=
  (s15 n).bind fun x =>
  bif (!x) then
    some (false)
  else
    (s24 n (p.1, (p.2.1, (p.2.2.1, p.2.2.2)))).bind fun x_1 =>
    bif ((!x_1) || (decide (((List.length tasters : Nat) : Int) > (10 : Int)))) then
      some (true)
    else
      (s26 n (p.1, (p.2.1, (p.2.2.1, p.2.2.2)))).bind fun x_2 =>
      (s27 n tasters).bind fun x_3 =>
      (s25 n (x_2.1, (x_2.2.1, (x_2.2.2.1, x_2.2.2.2))) cask x_3).bind fun x_4 =>
      (s26 n (p.1, (p.2.1, (p.2.2.1, p.2.2.2)))).bind fun x_5 =>
      (s27 n tasters).bind fun x_6 =>
      (s28 n (x_5.1, (x_5.2.1, (x_5.2.2.1, x_5.2.2.2))) cask x_6).bind fun x_7 =>
      (s29 n (p.1, (p.2.1, (p.2.2.1, p.2.2.2)))).bind fun x_8 =>
      bif (x_8 == (0 : Int)) then
        (s30 n cask p.1).bind fun x_9 =>
        bif (x_9 == (0 : Int)) then
          (s31 n (p.1, (p.2.1, (p.2.2.1, p.2.2.2))) tasters).bind fun x_10 =>
          bif (x_10 != (0 : Int)) then
            some (((((x_4.2 == x_10) && (x_7.2 == x_10)) && (((List.length x_4.1 : Nat) : Int) == (0 : Int))) && (x_7.1 == (0 : Int))))
          else
            (part (!(x_4.2 != (0 : Int))) (s33 n (p.1, (p.2.1, (p.2.2.1, p.2.2.2))) cask tasters) []).bind fun x_11 =>
            (part (!(x_4.2 != (0 : Int))) (s32 n x_4.1 x_11) false).bind fun x_12 =>
            bif ((x_4.2 != (0 : Int)) || (!x_12)) then
              some (false)
            else
              (s34 n (p.1, (p.2.1, (p.2.2.1, p.2.2.2))) cask tasters).bind fun x_13 =>
              some (((((decide (x_13 ≥ (0 : Int))) && (x_7.2 == (0 : Int))) && (x_7.1 == x_13)) || (((decide (x_13 < (0 : Int))) && (x_7.2 == (12 : Int))) && (x_7.1 == (0 : Int)))))
        else
          bif (x_9 != (0 : Int)) then
            some (((((x_4.2 == x_9) && (x_7.2 == x_9)) && (((List.length x_4.1 : Nat) : Int) == (0 : Int))) && (x_7.1 == (0 : Int))))
          else
            (part (!(x_4.2 != (0 : Int))) (s33 n (p.1, (p.2.1, (p.2.2.1, p.2.2.2))) cask tasters) []).bind fun x_14 =>
            (part (!(x_4.2 != (0 : Int))) (s32 n x_4.1 x_14) false).bind fun x_15 =>
            bif ((x_4.2 != (0 : Int)) || (!x_15)) then
              some (false)
            else
              (s34 n (p.1, (p.2.1, (p.2.2.1, p.2.2.2))) cask tasters).bind fun x_16 =>
              some (((((decide (x_16 ≥ (0 : Int))) && (x_7.2 == (0 : Int))) && (x_7.1 == x_16)) || (((decide (x_16 < (0 : Int))) && (x_7.2 == (12 : Int))) && (x_7.1 == (0 : Int)))))
      else
        bif (x_8 == (0 : Int)) then
          (s31 n (p.1, (p.2.1, (p.2.2.1, p.2.2.2))) tasters).bind fun x_17 =>
          bif (x_17 != (0 : Int)) then
            some (((((x_4.2 == x_17) && (x_7.2 == x_17)) && (((List.length x_4.1 : Nat) : Int) == (0 : Int))) && (x_7.1 == (0 : Int))))
          else
            (part (!(x_4.2 != (0 : Int))) (s33 n (p.1, (p.2.1, (p.2.2.1, p.2.2.2))) cask tasters) []).bind fun x_18 =>
            (part (!(x_4.2 != (0 : Int))) (s32 n x_4.1 x_18) false).bind fun x_19 =>
            bif ((x_4.2 != (0 : Int)) || (!x_19)) then
              some (false)
            else
              (s34 n (p.1, (p.2.1, (p.2.2.1, p.2.2.2))) cask tasters).bind fun x_20 =>
              some (((((decide (x_20 ≥ (0 : Int))) && (x_7.2 == (0 : Int))) && (x_7.1 == x_20)) || (((decide (x_20 < (0 : Int))) && (x_7.2 == (12 : Int))) && (x_7.1 == (0 : Int)))))
        else
          bif (x_8 != (0 : Int)) then
            some (((((x_4.2 == x_8) && (x_7.2 == x_8)) && (((List.length x_4.1 : Nat) : Int) == (0 : Int))) && (x_7.1 == (0 : Int))))
          else
            (part (!(x_4.2 != (0 : Int))) (s33 n (p.1, (p.2.1, (p.2.2.1, p.2.2.2))) cask tasters) []).bind fun x_21 =>
            (part (!(x_4.2 != (0 : Int))) (s32 n x_4.1 x_21) false).bind fun x_22 =>
            bif ((x_4.2 != (0 : Int)) || (!x_22)) then
              some (false)
            else
              (s34 n (p.1, (p.2.1, (p.2.2.1, p.2.2.2))) cask tasters).bind fun x_23 =>
              some (((((decide (x_23 ≥ (0 : Int))) && (x_7.2 == (0 : Int))) && (x_7.1 == x_23)) || (((decide (x_23 < (0 : Int))) && (x_7.2 == (12 : Int))) && (x_7.1 == (0 : Int)))))

def s4_c (n : Nat) : Con := ⟨[(.pair (.int .i64) (.pair (.int .i64) (.pair (.slice (.int .i64)) (.slice (.slice (.int .i64)))))), (.int .i64), (.slice (.int .i64))], [], [.bool], fun x y => s4 n x.1 x.2.1 x.2.2, false⟩
theorem s4_eq (n : Nat) (x : denL [(.pair (.int .i64) (.pair (.int .i64) (.pair (.slice (.int .i64)) (.slice (.slice (.int .i64)))))), (.int .i64), (.slice (.int .i64))]) (y : denL []) : funR (e73 n) Go.Proofs.Try.f4 [(.pair (.int .i64) (.pair (.int .i64) (.pair (.slice (.int .i64)) (.slice (.slice (.int .i64)))))), (.int .i64), (.slice (.int .i64))] [] [.bool] false [] x y = (s4_c n).fn x y := by kernel_rfl
theorem s4_ok (n : Nat) : ConOK Go.Proofs.Try.prog 4 (s4_c n) := func_ok (h73 n) hP Go.Proofs.Try.func4 (by kernel_rfl) (by kernel_rfl) (O := []) trivial (s4_eq n)
def e74 (n : Nat) : Env := ⟨gT, (4, s4_c n) :: (e73 n).C, gQ, (e73 n).I⟩
theorem h74 (n : Nat) : EnvOK Go.Proofs.Try.prog (e74 n) := env_add (h73 n) (s4_ok n)

def s5_l0 (n : Nat) (d : Int × Int × Int × Int × Int × (List Int) × (List (List Int)) × Int × Int × (List Int) × Unit) (again : (Int × Int × Int × Int × Int × (List Int) × (List (List Int)) × Int × Int × (List Int) × Unit) → Option (Bool)) (ks : (Int × Int × Int × Int × (List Int) × (List (List Int)) × Int × Int × (List Int) × Unit → Option (Bool)) × Unit) : Option (Bool) :=
  match d, ks with
  | (cask, glasses, i, p, p_1, p_2, p_3, back, back_1, back_2, _), (k0, _) =>
  bif (decide (i ≥ (0 : Int))) then
    (geti p_2 i).bind fun e =>
    (chk (List.length back_2 + List.length ([e] : List Int))).bind fun u =>
    (geti p_2 i).bind fun e_1 =>
    bif (e_1 == cask) then
      again (cask, (IntKind.wrap .i64 (glasses + (1 : Int))), (IntKind.wrap .i64 (i - (1 : Int))), p, p_1, p_2, p_3, back, back_1, (back_2 ++ ([e] : List Int)), ())
    else
      again (cask, glasses, (IntKind.wrap .i64 (i - (1 : Int))), p, p_1, p_2, p_3, back, back_1, (back_2 ++ ([e] : List Int)), ())
  else
    k0 (cask, glasses, p, p_1, p_2, p_3, back, back_1, back_2, ())

def s5_l1_0 (n : Nat) (d : Int × Int × Int × Int × Int × Int × (List Int) × (List (List Int)) × Int × Int × (List Int) × (List (List Int)) × (List Int) × (List Int) × (List Int) × Unit) (again : (Int × Int × Int × Int × Int × Int × (List Int) × (List (List Int)) × Int × Int × (List Int) × (List (List Int)) × (List Int) × (List Int) × (List Int) × Unit) → Option (Bool)) (ks : (Int × Int × Int × Int × Int × (List Int) × (List (List Int)) × Int × Int × (List Int) × (List (List Int)) × (List Int) × (List Int) × (List Int) × Unit → Option (Bool)) × Unit) : Option (Bool) :=
  match d, ks with
  | (cask, glasses, i, v_k, p, p_1, p_2, p_3, back, back_1, back_2, back_3, all, sums, turned, _), (k0, _) =>
  bif (decide (v_k ≥ (0 : Int))) then
    (geti p_3 i).bind fun e =>
    (geti e v_k).bind fun e_1 =>
    (chk (List.length turned + List.length ([e_1] : List Int))).bind fun u =>
    again (cask, glasses, i, (IntKind.wrap .i64 (v_k - (1 : Int))), p, p_1, p_2, p_3, back, back_1, back_2, back_3, all, sums, (turned ++ ([e_1] : List Int)), ())
  else
    k0 (cask, glasses, i, p, p_1, p_2, p_3, back, back_1, back_2, back_3, all, sums, turned, ())

def s5_l1_1 (n : Nat) (d : Int × Int × Int × (List Int) × Int × Int × Int × (List Int) × (List (List Int)) × Int × Int × (List Int) × (List (List Int)) × (List Int) × (List Int) × Unit) (again : (Int × Int × Int × (List Int) × Int × Int × Int × (List Int) × (List (List Int)) × Int × Int × (List Int) × (List (List Int)) × (List Int) × (List Int) × Unit) → Option (Bool)) (ks : (Int × Int × Int × Int × Int × (List Int) × (List (List Int)) × Int × Int × (List Int) × (List (List Int)) × (List Int) × (List Int) × Unit → Option (Bool)) × Unit) : Option (Bool) :=
  match d, ks with
  | (cask, glasses, i, l, m, p, p_1, p_2, p_3, back, back_1, back_2, back_3, all, sums, _), (k0, _) =>
  bif (decide (m < p_1)) then
    (geti sums m).bind fun e =>
    (geti sums m).bind fun x =>
    (geti l m).bind fun e_1 =>
    (geti sums m).bind fun e_2 =>
    (seti sums m (IntKind.wrap .i64 (x + e_1))).bind fun l_1 =>
    again (cask, glasses, i, l, (IntKind.wrap .i64 (m + (1 : Int))), p, p_1, p_2, p_3, back, back_1, back_2, back_3, all, l_1, ())
  else
    k0 (cask, glasses, i, p, p_1, p_2, p_3, back, back_1, back_2, back_3, all, sums, ())

def s5_l1 (n : Nat) (d : Int × Int × Int × Int × Int × (List Int) × (List (List Int)) × Int × Int × (List Int) × (List (List Int)) × (List Int) × (List Int) × Unit) (again : (Int × Int × Int × Int × Int × (List Int) × (List (List Int)) × Int × Int × (List Int) × (List (List Int)) × (List Int) × (List Int) × Unit) → Option (Bool)) (ks : (Int × Int × Int × Int × (List Int) × (List (List Int)) × Int × Int × (List Int) × (List (List Int)) × (List Int) × (List Int) × Unit → Option (Bool)) × (Bool × Unit → Option (Bool)) × Unit) : Option (Bool) :=
  match d, ks with
  | (cask, glasses, i, p, p_1, p_2, p_3, back, back_1, back_2, back_3, all, sums, _), (k0, k1, _) =>
  bif (decide (i < ((List.length p_3 : Nat) : Int))) then
    loopG (s5_l1_0 n) n (cask, glasses, i, (IntKind.wrap .i64 (((List.length p_2 : Nat) : Int) - (1 : Int))), p, p_1, p_2, p_3, back, back_1, back_2, back_3, all, sums, ([] : List Int), ())
      (fun (cask_2, glasses_2, i_2, p_8, p_9, p_10, p_11, back_8, back_9, back_10, back_11, all_2, sums_2, turned_1, _) =>
        (chk (List.length back_11 + List.length ([turned_1] : List (List Int)))).bind fun u_1 =>
        (chk (List.length all_2 + List.length ([i_2] : List Int))).bind fun u_2 =>
        (s26 n (p_8, (p_9, (p_10, p_11)))).bind fun x =>
        (s25 n (x.1, (x.2.1, (x.2.2.1, x.2.2.2))) cask_2 ([i_2] : List Int)).bind fun x_1 =>
        bif ((x_1.2 != (0 : Int)) || (((List.length x_1.1 : Nat) : Int) != p_9)) then
          k1 (false, ())
        else
          loopG (s5_l1_1 n) n (cask_2, glasses_2, i_2, x_1.1, (0 : Int), p_8, p_9, p_10, p_11, back_8, back_9, back_10, (back_11 ++ ([turned_1] : List (List Int))), (all_2 ++ ([i_2] : List Int)), sums_2, ())
            (fun (cask_4, glasses_4, i_4, p_16, p_17, p_18, p_19, back_16, back_17, back_18, back_19, all_4, sums_4, _) =>
              again (cask_4, glasses_4, (IntKind.wrap .i64 (i_4 + (1 : Int))), p_16, p_17, p_18, p_19, back_16, back_17, back_18, back_19, all_4, sums_4, ()), ()), ())
  else
    k0 (cask, glasses, p, p_1, p_2, p_3, back, back_1, back_2, back_3, all, sums, ())

def s5_l2 (n : Nat) (d : Int × (List Int) × Int × Int × Int × Int × (List Int) × (List (List Int)) × Int × Int × (List Int) × (List (List Int)) × Unit) (again : (Int × (List Int) × Int × Int × Int × Int × (List Int) × (List (List Int)) × Int × Int × (List Int) × (List (List Int)) × Unit) → Option (Bool)) (ks : (Int × Int × Int × Int × (List Int) × (List (List Int)) × Int × Int × (List Int) × (List (List Int)) × Unit → Option (Bool)) × Unit) : Option (Bool) :=
  match d, ks with
  | (glasses, l, total, m, p, p_1, p_2, p_3, back, back_1, back_2, back_3, _), (k0, _) =>
  bif (decide (m < p_1)) then
    (geti l m).bind fun e =>
    again (glasses, l, (IntKind.wrap .i64 (total + e)), (IntKind.wrap .i64 (m + (1 : Int))), p, p_1, p_2, p_3, back, back_1, back_2, back_3, ())
  else
    k0 (glasses, total, p, p_1, p_2, p_3, back, back_1, back_2, back_3, ())

/-- criadera/criaderalaw07.TasteCounts -/
def s5 (n : Nat) (p : Int × Int × (List Int) × (List (List Int))) (cask : Int) : Option (Bool) :=
  (s15 n).bind fun x =>
  bif (!x) then
    some (false)
  else
    (s24 n (p.1, (p.2.1, (p.2.2.1, p.2.2.2)))).bind fun x_1 =>
    (part (!(!x_1)) (s29 n (p.1, (p.2.1, (p.2.2.1, p.2.2.2)))) (0 : Int)).bind fun x_2 =>
    (part (!((!x_1) || (x_2 != (0 : Int)))) (s19 n cask (0 : Int) (IntKind.wrap .i64 (p.1 - (1 : Int)))) false).bind fun x_3 =>
    bif (((!x_1) || (x_2 != (0 : Int))) || (!x_3)) then
      some (true)
    else
      loopG (s5_l0 n) n (cask, (0 : Int), (IntKind.wrap .i64 (((List.length p.2.2.1 : Nat) : Int) - (1 : Int))), p.1, p.2.1, p.2.2.1, p.2.2.2, p.1, p.2.1, ([] : List Int), ())
        (fun (cask_2, glasses_1, p_5, p_6, p_7, p_8, back_3, back_4, back_5, _) =>
          (chki p_6).bind fun u_1 =>
          loopG (s5_l1 n) n (cask_2, glasses_1, (0 : Int), p_5, p_6, p_7, p_8, back_3, back_4, back_5, ([] : List (List Int)), ([] : List Int), (List.replicate (Int.toNat p_6) (0 : Int)), ())
            (fun (cask_8, glasses_7, p_29, p_30, p_31, p_32, back_26, back_27, back_28, back_29, all_5, sums_5, _) =>
              (s26 n (p_29, (p_30, (p_31, p_32)))).bind fun x_7 =>
              (s27 n all_5).bind fun x_8 =>
              (s25 n (x_7.1, (x_7.2.1, (x_7.2.2.1, x_7.2.2.2))) cask_8 x_8).bind fun x_9 =>
              (s26 n (back_26, (back_27, (back_28, back_29)))).bind fun x_10 =>
              (s27 n all_5).bind fun x_11 =>
              (s25 n (x_10.1, (x_10.2.1, (x_10.2.2.1, x_10.2.2.2))) cask_8 x_11).bind fun x_12 =>
              (part (!(x_9.2 != (0 : Int))) (s32 n x_9.1 sums_5) false).bind fun x_13 =>
              (part (!(((x_9.2 != (0 : Int)) || (!x_13)) || (x_12.2 != (0 : Int)))) (s32 n x_9.1 x_12.1) false).bind fun x_14 =>
              bif ((((x_9.2 != (0 : Int)) || (!x_13)) || (x_12.2 != (0 : Int))) || (!x_14)) then
                some (false)
              else
                loopG (s5_l2 n) n (glasses_7, x_9.1, (0 : Int), (0 : Int), p_29, p_30, p_31, p_32, back_26, back_27, back_28, back_29, ())
                  (fun (glasses_9, total_1, p_37, p_38, p_39, p_40, back_34, back_35, back_36, back_37, _) =>
                    (s26 n (p_37, (p_38, (p_39, p_40)))).bind fun x_15 =>
                    (s35 n (x_15.1, (x_15.2.1, (x_15.2.2.1, x_15.2.2.2))) (0 : Int)).bind fun x_16 =>
                    (s26 n (back_34, (back_35, (back_36, back_37)))).bind fun x_17 =>
                    (s35 n (x_17.1, (x_17.2.1, (x_17.2.2.1, x_17.2.2.2))) (0 : Int)).bind fun x_18 =>
                    some (((((total_1 == (IntKind.wrap .i64 (glasses_9 * ((List.length p_40 : Nat) : Int)))) && (x_16.2 == (0 : Int))) && (x_18.2 == (0 : Int))) && ((x_16.1.1 == x_18.1.1) && (x_16.1.2 == x_18.1.2)))), ()),
            fun (t4, _) =>
              some (t4), ()), ())

def s5_t1_0 : Templ := ⟨231, [(.int .i64), (.int .i64), (.int .i64), (.int .i64), (.int .i64), (.int .i64), (.slice (.int .i64)), (.slice (.slice (.int .i64))), (.int .i64), (.int .i64), (.slice (.int .i64)), (.slice (.slice (.int .i64))), (.slice (.int .i64)), (.slice (.int .i64)), (.slice (.int .i64))], [(1, .v (.hole (.int .i64))), (2, .v (.bptr 231 0)), (5, .v (.bptr 232 0)), (6, .v (.hole (.int .i64))), (8, .v (.hand 235)), (9, .v (.hand 236)), (10, .v (.hole (.int .i64))), (11, .v (.hand 237)), (12, .v (.hole (.int .i64)))], [(231, .box (.pair (.int .i64) (.pair (.int .i64) (.pair (.slice (.int .i64)) (.slice (.slice (.int .i64)))))) [.hole (.int .i64), .hole (.int .i64), .hole (.slice (.int .i64)), .hole (.slice (.slice (.int .i64)))]), (232, .box (.pair (.int .i64) (.pair (.int .i64) (.pair (.slice (.int .i64)) (.slice (.slice (.int .i64)))))) [.hole (.int .i64), .hole (.int .i64), .hand 233, .hand 234]), (233, .buf (.int .i64)), (234, .buf (.slice (.int .i64))), (235, .buf (.int .i64)), (236, .buf (.int .i64)), (237, .buf (.int .i64))], []⟩
def s5_x1_0 : List (Way × Templ) := [(.exit 4, ⟨231, [(.int .i64), (.int .i64), (.int .i64), (.int .i64), (.int .i64), (.slice (.int .i64)), (.slice (.slice (.int .i64))), (.int .i64), (.int .i64), (.slice (.int .i64)), (.slice (.slice (.int .i64))), (.slice (.int .i64)), (.slice (.int .i64)), (.slice (.int .i64))], [(1, .v (.hole (.int .i64))), (2, .v (.bptr 231 0)), (5, .v (.bptr 232 0)), (6, .v (.hole (.int .i64))), (8, .v (.hand 235)), (9, .v (.hand 236)), (10, .v (.hole (.int .i64))), (11, .v (.hand 237))], [(231, .box (.pair (.int .i64) (.pair (.int .i64) (.pair (.slice (.int .i64)) (.slice (.slice (.int .i64)))))) [.hole (.int .i64), .hole (.int .i64), .hole (.slice (.int .i64)), .hole (.slice (.slice (.int .i64)))]), (232, .box (.pair (.int .i64) (.pair (.int .i64) (.pair (.slice (.int .i64)) (.slice (.slice (.int .i64)))))) [.hole (.int .i64), .hole (.int .i64), .hand 233, .hand 234]), (233, .buf (.int .i64)), (234, .buf (.slice (.int .i64))), (235, .buf (.int .i64)), (236, .buf (.int .i64)), (237, .buf (.int .i64))], []⟩)]
def s5_o1_0 (n : Nat) : Ev (denL [.bool]) := loopO n (e74 n) s5_t1_0 s5_x1_0 (s5_l1_0 n)
theorem s5_b1_0 (n : Nat) (d) (again) (ks) : codeR (R := (denL [.bool])) (e74 n) (Hdl.no (R := (denL [.bool]))) (inn (lp (inn (lp (bd Go.Proofs.Try.f5) 1)) 0)) [] (mk s5_t1_0 d) (turnR (e74 n) s5_t1_0 s5_x1_0 again ks) = s5_l1_0 n d again ks := by kernel_rfl
theorem s5_s1_0 (n : Nat) : Sound Go.Proofs.Try.prog (Hdl.no (R := (denL [.bool]))) false (lp (inn (lp (bd Go.Proofs.Try.f5) 1)) 0) (s5_o1_0 n) := loop_ok (h74 n) hP (by kernel_rfl) (O := []) trivial (s5_b1_0 n)
def s5_t1_1 : Templ := ⟨231, [(.int .i64), (.int .i64), (.int .i64), (.slice (.int .i64)), (.int .i64), (.int .i64), (.int .i64), (.slice (.int .i64)), (.slice (.slice (.int .i64))), (.int .i64), (.int .i64), (.slice (.int .i64)), (.slice (.slice (.int .i64))), (.slice (.int .i64)), (.slice (.int .i64))], [(1, .v (.hole (.int .i64))), (2, .v (.bptr 231 0)), (5, .v (.bptr 232 0)), (6, .v (.hole (.int .i64))), (8, .v (.hand 235)), (9, .v (.hand 236)), (10, .v (.hole (.int .i64))), (13, .v (.hole (.slice (.int .i64)))), (15, .v (.hole (.int .i64)))], [(231, .box (.pair (.int .i64) (.pair (.int .i64) (.pair (.slice (.int .i64)) (.slice (.slice (.int .i64)))))) [.hole (.int .i64), .hole (.int .i64), .hole (.slice (.int .i64)), .hole (.slice (.slice (.int .i64)))]), (232, .box (.pair (.int .i64) (.pair (.int .i64) (.pair (.slice (.int .i64)) (.slice (.slice (.int .i64)))))) [.hole (.int .i64), .hole (.int .i64), .hand 233, .hand 234]), (233, .buf (.int .i64)), (234, .buf (.slice (.int .i64))), (235, .buf (.int .i64)), (236, .buf (.int .i64))], []⟩
def s5_x1_1 : List (Way × Templ) := [(.exit 6, ⟨231, [(.int .i64), (.int .i64), (.int .i64), (.int .i64), (.int .i64), (.slice (.int .i64)), (.slice (.slice (.int .i64))), (.int .i64), (.int .i64), (.slice (.int .i64)), (.slice (.slice (.int .i64))), (.slice (.int .i64)), (.slice (.int .i64))], [(1, .v (.hole (.int .i64))), (2, .v (.bptr 231 0)), (5, .v (.bptr 232 0)), (6, .v (.hole (.int .i64))), (8, .v (.hand 235)), (9, .v (.hand 236)), (10, .v (.hole (.int .i64)))], [(231, .box (.pair (.int .i64) (.pair (.int .i64) (.pair (.slice (.int .i64)) (.slice (.slice (.int .i64)))))) [.hole (.int .i64), .hole (.int .i64), .hole (.slice (.int .i64)), .hole (.slice (.slice (.int .i64)))]), (232, .box (.pair (.int .i64) (.pair (.int .i64) (.pair (.slice (.int .i64)) (.slice (.slice (.int .i64)))))) [.hole (.int .i64), .hole (.int .i64), .hand 233, .hand 234]), (233, .buf (.int .i64)), (234, .buf (.slice (.int .i64))), (235, .buf (.int .i64)), (236, .buf (.int .i64))], []⟩)]
def s5_o1_1 (n : Nat) : Ev (denL [.bool]) := loopO n (e74 n) s5_t1_1 s5_x1_1 (s5_l1_1 n)
theorem s5_b1_1 (n : Nat) (d) (again) (ks) : codeR (R := (denL [.bool])) (e74 n) (Hdl.no (R := (denL [.bool]))) (inn (lp (inn (lp (bd Go.Proofs.Try.f5) 1)) 1)) [] (mk s5_t1_1 d) (turnR (e74 n) s5_t1_1 s5_x1_1 again ks) = s5_l1_1 n d again ks := by kernel_rfl
theorem s5_s1_1 (n : Nat) : Sound Go.Proofs.Try.prog (Hdl.no (R := (denL [.bool]))) false (lp (inn (lp (bd Go.Proofs.Try.f5) 1)) 1) (s5_o1_1 n) := loop_ok (h74 n) hP (by kernel_rfl) (O := []) trivial (s5_b1_1 n)
def s5_t0 : Templ := ⟨231, [(.int .i64), (.int .i64), (.int .i64), (.int .i64), (.int .i64), (.slice (.int .i64)), (.slice (.slice (.int .i64))), (.int .i64), (.int .i64), (.slice (.int .i64))], [(1, .v (.hole (.int .i64))), (2, .v (.bptr 231 0)), (5, .v (.bptr 232 0)), (6, .v (.hole (.int .i64))), (7, .v (.hole (.int .i64)))], [(231, .box (.pair (.int .i64) (.pair (.int .i64) (.pair (.slice (.int .i64)) (.slice (.slice (.int .i64)))))) [.hole (.int .i64), .hole (.int .i64), .hole (.slice (.int .i64)), .hole (.slice (.slice (.int .i64)))]), (232, .box (.pair (.int .i64) (.pair (.int .i64) (.pair (.slice (.int .i64)) (.slice (.slice (.int .i64)))))) [.hole (.int .i64), .hole (.int .i64), .hand 233, .nils]), (233, .buf (.int .i64))], []⟩
def s5_x0 : List (Way × Templ) := [(.exit 0, ⟨231, [(.int .i64), (.int .i64), (.int .i64), (.int .i64), (.slice (.int .i64)), (.slice (.slice (.int .i64))), (.int .i64), (.int .i64), (.slice (.int .i64))], [(1, .v (.hole (.int .i64))), (2, .v (.bptr 231 0)), (5, .v (.bptr 232 0)), (6, .v (.hole (.int .i64)))], [(231, .box (.pair (.int .i64) (.pair (.int .i64) (.pair (.slice (.int .i64)) (.slice (.slice (.int .i64)))))) [.hole (.int .i64), .hole (.int .i64), .hole (.slice (.int .i64)), .hole (.slice (.slice (.int .i64)))]), (232, .box (.pair (.int .i64) (.pair (.int .i64) (.pair (.slice (.int .i64)) (.slice (.slice (.int .i64)))))) [.hole (.int .i64), .hole (.int .i64), .hand 233, .nils]), (233, .buf (.int .i64))], []⟩)]
def s5_o0 (n : Nat) : Ev (denL [.bool]) := loopO n (e74 n) s5_t0 s5_x0 (s5_l0 n)
theorem s5_b0 (n : Nat) (d) (again) (ks) : codeR (R := (denL [.bool])) (e74 n) (Hdl.no (R := (denL [.bool]))) (inn (lp (bd Go.Proofs.Try.f5) 0)) [] (mk s5_t0 d) (turnR (e74 n) s5_t0 s5_x0 again ks) = s5_l0 n d again ks := by kernel_rfl
theorem s5_s0 (n : Nat) : Sound Go.Proofs.Try.prog (Hdl.no (R := (denL [.bool]))) false (lp (bd Go.Proofs.Try.f5) 0) (s5_o0 n) := loop_ok (h74 n) hP (by kernel_rfl) (O := []) trivial (s5_b0 n)
def s5_t1 : Templ := ⟨231, [(.int .i64), (.int .i64), (.int .i64), (.int .i64), (.int .i64), (.slice (.int .i64)), (.slice (.slice (.int .i64))), (.int .i64), (.int .i64), (.slice (.int .i64)), (.slice (.slice (.int .i64))), (.slice (.int .i64)), (.slice (.int .i64))], [(1, .v (.hole (.int .i64))), (2, .v (.bptr 231 0)), (5, .v (.bptr 232 0)), (6, .v (.hole (.int .i64))), (8, .v (.hand 235)), (9, .v (.hand 236)), (10, .v (.hole (.int .i64)))], [(231, .box (.pair (.int .i64) (.pair (.int .i64) (.pair (.slice (.int .i64)) (.slice (.slice (.int .i64)))))) [.hole (.int .i64), .hole (.int .i64), .hole (.slice (.int .i64)), .hole (.slice (.slice (.int .i64)))]), (232, .box (.pair (.int .i64) (.pair (.int .i64) (.pair (.slice (.int .i64)) (.slice (.slice (.int .i64)))))) [.hole (.int .i64), .hole (.int .i64), .hand 233, .hand 234]), (233, .buf (.int .i64)), (234, .buf (.slice (.int .i64))), (235, .buf (.int .i64)), (236, .buf (.int .i64))], []⟩
def s5_x1 : List (Way × Templ) := [(.exit 2, ⟨231, [(.int .i64), (.int .i64), (.int .i64), (.int .i64), (.slice (.int .i64)), (.slice (.slice (.int .i64))), (.int .i64), (.int .i64), (.slice (.int .i64)), (.slice (.slice (.int .i64))), (.slice (.int .i64)), (.slice (.int .i64))], [(1, .v (.hole (.int .i64))), (2, .v (.bptr 231 0)), (5, .v (.bptr 232 0)), (6, .v (.hole (.int .i64))), (8, .v (.hand 235)), (9, .v (.hand 236))], [(231, .box (.pair (.int .i64) (.pair (.int .i64) (.pair (.slice (.int .i64)) (.slice (.slice (.int .i64)))))) [.hole (.int .i64), .hole (.int .i64), .hole (.slice (.int .i64)), .hole (.slice (.slice (.int .i64)))]), (232, .box (.pair (.int .i64) (.pair (.int .i64) (.pair (.slice (.int .i64)) (.slice (.slice (.int .i64)))))) [.hole (.int .i64), .hole (.int .i64), .hand 233, .hand 234]), (233, .buf (.int .i64)), (234, .buf (.slice (.int .i64))), (235, .buf (.int .i64)), (236, .buf (.int .i64))], []⟩), (.ret, ⟨231, [.bool], [(4, .v (.hole .bool))], [], []⟩)]
def s5_o1 (n : Nat) : Ev (denL [.bool]) := loopO n (e74 n) s5_t1 s5_x1 (s5_l1 n)
theorem s5_b1 (n : Nat) (d) (again) (ks) : codeR (R := (denL [.bool])) (e74 n) (Hdl.no (R := (denL [.bool]))) (inn (lp (bd Go.Proofs.Try.f5) 1)) [s5_o1_0 n, s5_o1_1 n] (mk s5_t1 d) (turnR (e74 n) s5_t1 s5_x1 again ks) = s5_l1 n d again ks := by kernel_rfl
theorem s5_s1 (n : Nat) : Sound Go.Proofs.Try.prog (Hdl.no (R := (denL [.bool]))) false (lp (bd Go.Proofs.Try.f5) 1) (s5_o1 n) := loop_ok (h74 n) hP (by kernel_rfl) (O := [s5_o1_0 n, s5_o1_1 n]) ⟨s5_s1_0 n, s5_s1_1 n, trivial⟩ (s5_b1 n)
def s5_t2 : Templ := ⟨231, [(.int .i64), (.slice (.int .i64)), (.int .i64), (.int .i64), (.int .i64), (.int .i64), (.slice (.int .i64)), (.slice (.slice (.int .i64))), (.int .i64), (.int .i64), (.slice (.int .i64)), (.slice (.slice (.int .i64)))], [(2, .v (.bptr 231 0)), (5, .v (.bptr 232 0)), (6, .v (.hole (.int .i64))), (16, .v (.hole (.slice (.int .i64)))), (20, .v (.hole (.int .i64))), (21, .v (.hole (.int .i64)))], [(231, .box (.pair (.int .i64) (.pair (.int .i64) (.pair (.slice (.int .i64)) (.slice (.slice (.int .i64)))))) [.hole (.int .i64), .hole (.int .i64), .hole (.slice (.int .i64)), .hole (.slice (.slice (.int .i64)))]), (232, .box (.pair (.int .i64) (.pair (.int .i64) (.pair (.slice (.int .i64)) (.slice (.slice (.int .i64)))))) [.hole (.int .i64), .hole (.int .i64), .hole (.slice (.int .i64)), .hole (.slice (.slice (.int .i64)))])], []⟩
def s5_x2 : List (Way × Templ) := [(.exit 8, ⟨231, [(.int .i64), (.int .i64), (.int .i64), (.int .i64), (.slice (.int .i64)), (.slice (.slice (.int .i64))), (.int .i64), (.int .i64), (.slice (.int .i64)), (.slice (.slice (.int .i64)))], [(2, .v (.bptr 231 0)), (5, .v (.bptr 232 0)), (6, .v (.hole (.int .i64))), (20, .v (.hole (.int .i64)))], [(231, .box (.pair (.int .i64) (.pair (.int .i64) (.pair (.slice (.int .i64)) (.slice (.slice (.int .i64)))))) [.hole (.int .i64), .hole (.int .i64), .hole (.slice (.int .i64)), .hole (.slice (.slice (.int .i64)))]), (232, .box (.pair (.int .i64) (.pair (.int .i64) (.pair (.slice (.int .i64)) (.slice (.slice (.int .i64)))))) [.hole (.int .i64), .hole (.int .i64), .hole (.slice (.int .i64)), .hole (.slice (.slice (.int .i64)))])], []⟩)]
def s5_o2 (n : Nat) : Ev (denL [.bool]) := loopO n (e74 n) s5_t2 s5_x2 (s5_l2 n)
theorem s5_b2 (n : Nat) (d) (again) (ks) : codeR (R := (denL [.bool])) (e74 n) (Hdl.no (R := (denL [.bool]))) (inn (lp (bd Go.Proofs.Try.f5) 2)) [] (mk s5_t2 d) (turnR (e74 n) s5_t2 s5_x2 again ks) = s5_l2 n d again ks := by kernel_rfl
theorem s5_s2 (n : Nat) : Sound Go.Proofs.Try.prog (Hdl.no (R := (denL [.bool]))) false (lp (bd Go.Proofs.Try.f5) 2) (s5_o2 n) := loop_ok (h74 n) hP (by kernel_rfl) (O := []) trivial (s5_b2 n)
def s5_c (n : Nat) : Con := ⟨[(.pair (.int .i64) (.pair (.int .i64) (.pair (.slice (.int .i64)) (.slice (.slice (.int .i64)))))), (.int .i64)], [], [.bool], fun x y => s5 n x.1 x.2, false⟩
theorem s5_eq (n : Nat) (x : denL [(.pair (.int .i64) (.pair (.int .i64) (.pair (.slice (.int .i64)) (.slice (.slice (.int .i64)))))), (.int .i64)]) (y : denL []) : funR (e74 n) Go.Proofs.Try.f5 [(.pair (.int .i64) (.pair (.int .i64) (.pair (.slice (.int .i64)) (.slice (.slice (.int .i64)))))), (.int .i64)] [] [.bool] false [s5_o0 n, s5_o1 n, s5_o2 n] x y = (s5_c n).fn x y := by kernel_rfl
theorem s5_ok (n : Nat) : ConOK Go.Proofs.Try.prog 5 (s5_c n) := func_ok (h74 n) hP Go.Proofs.Try.func5 (by kernel_rfl) (by kernel_rfl) (O := [s5_o0 n, s5_o1 n, s5_o2 n]) ⟨s5_s0 n, s5_s1 n, s5_s2 n, trivial⟩ (s5_eq n)
def e75 (n : Nat) : Env := ⟨gT, (5, s5_c n) :: (e74 n).C, gQ, (e74 n).I⟩
theorem h75 (n : Nat) : EnvOK Go.Proofs.Try.prog (e75 n) := env_add (h74 n) (s5_ok n)

/-- criadera/criaderalaw07.sheet -/
def s36 (n : Nat) (marks : List Int) : Option (Bool) :=
  some (((decide (((List.length marks : Nat) : Int) ≤ (12 : Int))) || ((decide (((List.length marks : Nat) : Int) > (40 : Int))) && (decide (((List.length marks : Nat) : Int) ≤ (42 : Int))))))

def s36_c (n : Nat) : Con := ⟨[(.slice (.int .i64))], [], [.bool], fun x y => s36 n x, false⟩
theorem s36_eq (n : Nat) (x : denL [(.slice (.int .i64))]) (y : denL []) : funR (e75 n) Go.Proofs.Try.f36 [(.slice (.int .i64))] [] [.bool] false [] x y = (s36_c n).fn x y := by kernel_rfl
theorem s36_ok (n : Nat) : ConOK Go.Proofs.Try.prog 36 (s36_c n) := func_ok (h75 n) hP Go.Proofs.Try.func36 (by kernel_rfl) (by kernel_rfl) (O := []) trivial (s36_eq n)
def e76 (n : Nat) : Env := ⟨gT, (36, s36_c n) :: (e75 n).C, gQ, (e75 n).I⟩
theorem h76 (n : Nat) : EnvOK Go.Proofs.Try.prog (e76 n) := env_add (h75 n) (s36_ok n)

/-- criadera/taste.Walk -/
def s38 (n : Nat) (b : (List (List UInt8)) × Int × (List ((List UInt8) × (List Int) × (List (List UInt8))))) (marks : List Int) : Option ((List Int) × Int) :=
  (s79 n (b.1, (b.2.1, b.2.2))).bind fun x =>
  bif (x.2 != (0 : Int)) then
    some (([] : List Int), x.2)
  else
    (s99 n (x.1.1, (x.1.2.1, x.1.2.2)) marks).bind fun x_1 =>
    bif (x_1 != (0 : Int)) then
      some (([] : List Int), x_1)
    else
      (s100 n (x.1.1, (x.1.2.1, x.1.2.2)) marks).bind fun x_2 =>
      some (x_2, (0 : Int))

def s38_c (n : Nat) : Con := ⟨[(.pair (.slice .str) (.pair (.int .i64) (.slice (.pair .str (.pair (.slice (.int .i64)) (.slice .str)))))), (.slice (.int .i64))], [], [(.slice (.int .i64)), (.int .i64)], fun x y => s38 n x.1 x.2, false⟩
theorem s38_eq (n : Nat) (x : denL [(.pair (.slice .str) (.pair (.int .i64) (.slice (.pair .str (.pair (.slice (.int .i64)) (.slice .str)))))), (.slice (.int .i64))]) (y : denL []) : funR (e76 n) Go.Proofs.Try.f38 [(.pair (.slice .str) (.pair (.int .i64) (.slice (.pair .str (.pair (.slice (.int .i64)) (.slice .str)))))), (.slice (.int .i64))] [] [(.slice (.int .i64)), (.int .i64)] false [] x y = (s38_c n).fn x y := by kernel_rfl
theorem s38_ok (n : Nat) : ConOK Go.Proofs.Try.prog 38 (s38_c n) := func_ok (h76 n) hP Go.Proofs.Try.func38 (by kernel_rfl) (by kernel_rfl) (O := []) trivial (s38_eq n)
def e77 (n : Nat) : Env := ⟨gT, (38, s38_c n) :: (e76 n).C, gQ, (e76 n).I⟩
theorem h77 (n : Nat) : EnvOK Go.Proofs.Try.prog (e77 n) := env_add (h76 n) (s38_ok n)

/-- criadera/criaderalaw07.TasteBooks -/
def s6 (n : Nat) (b : (List (List UInt8)) × Int × (List ((List UInt8) × (List Int) × (List (List UInt8))))) (marks : List Int) : Option (Bool) :=
  (s15 n).bind fun x =>
  bif (!x) then
    some (false)
  else
    (s16 n (b.1, (b.2.1, b.2.2))).bind fun x_1 =>
    (part (!(!x_1)) (s36 n marks) false).bind fun x_2 =>
    bif ((!x_1) || (!x_2)) then
      some (true)
    else
      (s21 n (b.1, (b.2.1, b.2.2))).bind fun x_3 =>
      (s37 n x_3).bind fun x_4 =>
      (s21 n (b.1, (b.2.1, b.2.2))).bind fun x_5 =>
      (s27 n marks).bind fun x_6 =>
      (s38 n x_5 x_6).bind fun x_7 =>
      (s39 n (b.1, (b.2.1, b.2.2))).bind fun x_8 =>
      bif ((x_4.2 != x_8.2) || (x_4.1 != x_8.1)) then
        some (false)
      else
        bif (x_8.2 == (0 : Int)) then
          (s18 n (b.1, (b.2.1, b.2.2)) marks).bind fun x_9 =>
          bif (x_9 != (0 : Int)) then
            some (((x_7.2 == x_9) && (((List.length x_7.1 : Nat) : Int) == (0 : Int))))
          else
            (part (x_7.2 == (0 : Int)) (s40 n (b.1, (b.2.1, b.2.2)) marks) []).bind fun x_10 =>
            (part (x_7.2 == (0 : Int)) (s32 n x_7.1 x_10) false).bind fun x_11 =>
            some ((((x_7.2 == (0 : Int)) && x_11) && (((List.length x_7.1 : Nat) : Int) == (IntKind.wrap .i64 (((List.length marks : Nat) : Int) + (1 : Int))))))
        else
          bif (x_8.2 != (0 : Int)) then
            some (((x_7.2 == x_8.2) && (((List.length x_7.1 : Nat) : Int) == (0 : Int))))
          else
            (part (x_7.2 == (0 : Int)) (s40 n (b.1, (b.2.1, b.2.2)) marks) []).bind fun x_12 =>
            (part (x_7.2 == (0 : Int)) (s32 n x_7.1 x_12) false).bind fun x_13 =>
            some ((((x_7.2 == (0 : Int)) && x_13) && (((List.length x_7.1 : Nat) : Int) == (IntKind.wrap .i64 (((List.length marks : Nat) : Int) + (1 : Int))))))

def s6_c (n : Nat) : Con := ⟨[(.pair (.slice .str) (.pair (.int .i64) (.slice (.pair .str (.pair (.slice (.int .i64)) (.slice .str)))))), (.slice (.int .i64))], [], [.bool], fun x y => s6 n x.1 x.2, false⟩
theorem s6_eq (n : Nat) (x : denL [(.pair (.slice .str) (.pair (.int .i64) (.slice (.pair .str (.pair (.slice (.int .i64)) (.slice .str)))))), (.slice (.int .i64))]) (y : denL []) : funR (e77 n) Go.Proofs.Try.f6 [(.pair (.slice .str) (.pair (.int .i64) (.slice (.pair .str (.pair (.slice (.int .i64)) (.slice .str)))))), (.slice (.int .i64))] [] [.bool] false [] x y = (s6_c n).fn x y := by kernel_rfl
theorem s6_ok (n : Nat) : ConOK Go.Proofs.Try.prog 6 (s6_c n) := func_ok (h77 n) hP Go.Proofs.Try.func6 (by kernel_rfl) (by kernel_rfl) (O := []) trivial (s6_eq n)
def e78 (n : Nat) : Env := ⟨gT, (6, s6_c n) :: (e77 n).C, gQ, (e77 n).I⟩
theorem h78 (n : Nat) : EnvOK Go.Proofs.Try.prog (e78 n) := env_add (h77 n) (s6_ok n)

/-- criadera/criaderaref07.CopySheet -/
def s42 (n : Nat) (s : (List UInt8) × (List Int)) : Option (((List UInt8) × (List Int))) :=
  (s27 n s.2).bind fun x =>
  some ((s.1, x))

def s42_c (n : Nat) : Con := ⟨[(.pair .str (.slice (.int .i64)))], [], [(.pair .str (.slice (.int .i64)))], fun x y => s42 n x, false⟩
theorem s42_eq (n : Nat) (x : denL [(.pair .str (.slice (.int .i64)))]) (y : denL []) : funR (e78 n) Go.Proofs.Try.f42 [(.pair .str (.slice (.int .i64)))] [] [(.pair .str (.slice (.int .i64)))] false [] x y = (s42_c n).fn x y := by kernel_rfl
theorem s42_ok (n : Nat) : ConOK Go.Proofs.Try.prog 42 (s42_c n) := func_ok (h78 n) hP Go.Proofs.Try.func42 (by kernel_rfl) (by kernel_rfl) (O := []) trivial (s42_eq n)
def e79 (n : Nat) : Env := ⟨gT, (42, s42_c n) :: (e78 n).C, gQ, (e78 n).I⟩
theorem h79 (n : Nat) : EnvOK Go.Proofs.Try.prog (e79 n) := env_add (h78 n) (s42_ok n)

def s43_l0 (n : Nat) (d : (List Int) × (List Int) × Int × Int × (List (List UInt8)) × Int × (List ((List UInt8) × (List Int) × (List (List UInt8)))) × (List (List UInt8)) × Unit) (again : ((List Int) × (List Int) × Int × Int × (List (List UInt8)) × Int × (List ((List UInt8) × (List Int) × (List (List UInt8)))) × (List (List UInt8)) × Unit) → Option ((List (List UInt8)) × Int)) (ks : ((List (List UInt8)) × Unit → Option ((List (List UInt8)) × Int)) × Unit) : Option ((List (List UInt8)) × Int) :=
  match d, ks with
  | (v_at, t26, t27, t28, t6, t6_1, t6_2, out, _), (k0, _) =>
  bif (decide (t28 < t27)) then
    (geti t26 t28).bind fun e =>
    (geti v_at t28).bind fun e_1 =>
    (geti t6_2 e_1).bind fun e_2 =>
    (geti e_2.2.2 e).bind fun e_3 =>
    (chk (List.length out + List.length ([e_3] : List (List UInt8)))).bind fun u =>
    again (v_at, t26, t27, (IntKind.wrap .i64 (t28 + (1 : Int))), t6, t6_1, t6_2, (out ++ ([e_3] : List (List UInt8))), ())
  else
    k0 (out, ())

/-- criadera/taste.ReasonsOf -/
def s43 (n : Nat) (b : (List (List UInt8)) × Int × (List ((List UInt8) × (List Int) × (List (List UInt8))))) (s : (List UInt8) × (List Int)) : Option ((List (List UInt8)) × Int) :=
  (s104 n (b.1, (b.2.1, b.2.2)) (s.1, s.2)).bind fun x =>
  bif (x.2 != (0 : Int)) then
    some (([] : List (List UInt8)), x.2)
  else
    (s100 n (x.1.1, (x.1.2.1, x.1.2.2)) s.2).bind fun x_1 =>
    loopG (s43_l0 n) n (x_1, s.2, ((List.length s.2 : Nat) : Int), (0 : Int), x.1.1, x.1.2.1, x.1.2.2, ([] : List (List UInt8)), ())
      (fun (out_1, _) =>
        some (out_1, (0 : Int)), ())

def s43_t0 : Templ := ⟨51, [(.slice (.int .i64)), (.slice (.int .i64)), (.int .i64), (.int .i64), (.slice .str), (.int .i64), (.slice (.pair .str (.pair (.slice (.int .i64)) (.slice .str)))), (.slice .str)], [(6, .v (.bptr 51 0)), (8, .v (.hand 52)), (9, .v (.hole (.slice (.int .i64)))), (26, .v (.hole (.slice (.int .i64)))), (27, .v (.hole (.int .i64))), (28, .v (.hole (.int .i64)))], [(51, .box (.pair (.slice .str) (.pair (.int .i64) (.slice (.pair .str (.pair (.slice (.int .i64)) (.slice .str)))))) [.hole (.slice .str), .hole (.int .i64), .hole (.slice (.pair .str (.pair (.slice (.int .i64)) (.slice .str))))]), (52, .buf .str)], []⟩
def s43_x0 : List (Way × Templ) := [(.exit 0, ⟨51, [(.slice .str)], [(8, .v (.hand 51))], [(51, .buf .str)], []⟩)]
def s43_o0 (n : Nat) : Ev (denL [(.slice .str), (.int .i64)]) := loopO n (e79 n) s43_t0 s43_x0 (s43_l0 n)
theorem s43_b0 (n : Nat) (d) (again) (ks) : codeR (R := (denL [(.slice .str), (.int .i64)])) (e79 n) (Hdl.no (R := (denL [(.slice .str), (.int .i64)]))) (inn (lp (bd Go.Proofs.Try.f43) 0)) [] (mk s43_t0 d) (turnR (e79 n) s43_t0 s43_x0 again ks) = s43_l0 n d again ks := by kernel_rfl
theorem s43_s0 (n : Nat) : Sound Go.Proofs.Try.prog (Hdl.no (R := (denL [(.slice .str), (.int .i64)]))) false (lp (bd Go.Proofs.Try.f43) 0) (s43_o0 n) := loop_ok (h79 n) hP (by kernel_rfl) (O := []) trivial (s43_b0 n)
def s43_c (n : Nat) : Con := ⟨[(.pair (.slice .str) (.pair (.int .i64) (.slice (.pair .str (.pair (.slice (.int .i64)) (.slice .str)))))), (.pair .str (.slice (.int .i64)))], [], [(.slice .str), (.int .i64)], fun x y => s43 n x.1 x.2, false⟩
theorem s43_eq (n : Nat) (x : denL [(.pair (.slice .str) (.pair (.int .i64) (.slice (.pair .str (.pair (.slice (.int .i64)) (.slice .str)))))), (.pair .str (.slice (.int .i64)))]) (y : denL []) : funR (e79 n) Go.Proofs.Try.f43 [(.pair (.slice .str) (.pair (.int .i64) (.slice (.pair .str (.pair (.slice (.int .i64)) (.slice .str)))))), (.pair .str (.slice (.int .i64)))] [] [(.slice .str), (.int .i64)] false [s43_o0 n] x y = (s43_c n).fn x y := by kernel_rfl
theorem s43_ok (n : Nat) : ConOK Go.Proofs.Try.prog 43 (s43_c n) := func_ok (h79 n) hP Go.Proofs.Try.func43 (by kernel_rfl) (by kernel_rfl) (O := [s43_o0 n]) ⟨s43_s0 n, trivial⟩ (s43_eq n)
def e80 (n : Nat) : Env := ⟨gT, (43, s43_c n) :: (e79 n).C, gQ, (e79 n).I⟩
theorem h80 (n : Nat) : EnvOK Go.Proofs.Try.prog (e80 n) := env_add (h79 n) (s43_ok n)

/-- criadera/criaderaref07.SheetErr -/
def s44 (n : Nat) (b : (List (List UInt8)) × Int × (List ((List UInt8) × (List Int) × (List (List UInt8))))) (s : (List UInt8) × (List Int)) : Option (Int) :=
  (s101 n s.1).bind fun x =>
  bif (!x) then
    some ((4 : Int))
  else
    (s18 n (b.1, (b.2.1, b.2.2)) s.2).bind fun x_1 =>
    some (x_1)

def s44_c (n : Nat) : Con := ⟨[(.pair (.slice .str) (.pair (.int .i64) (.slice (.pair .str (.pair (.slice (.int .i64)) (.slice .str)))))), (.pair .str (.slice (.int .i64)))], [], [(.int .i64)], fun x y => s44 n x.1 x.2, false⟩
theorem s44_eq (n : Nat) (x : denL [(.pair (.slice .str) (.pair (.int .i64) (.slice (.pair .str (.pair (.slice (.int .i64)) (.slice .str)))))), (.pair .str (.slice (.int .i64)))]) (y : denL []) : funR (e80 n) Go.Proofs.Try.f44 [(.pair (.slice .str) (.pair (.int .i64) (.slice (.pair .str (.pair (.slice (.int .i64)) (.slice .str)))))), (.pair .str (.slice (.int .i64)))] [] [(.int .i64)] false [] x y = (s44_c n).fn x y := by kernel_rfl
theorem s44_ok (n : Nat) : ConOK Go.Proofs.Try.prog 44 (s44_c n) := func_ok (h80 n) hP Go.Proofs.Try.func44 (by kernel_rfl) (by kernel_rfl) (O := []) trivial (s44_eq n)
def e81 (n : Nat) : Env := ⟨gT, (44, s44_c n) :: (e80 n).C, gQ, (e80 n).I⟩
theorem h81 (n : Nat) : EnvOK Go.Proofs.Try.prog (e81 n) := env_add (h80 n) (s44_ok n)

def s46_l0 (n : Nat) (d : (List Int) × (List Int) × Int × (List (List UInt8)) × Int × (List ((List UInt8) × (List Int) × (List (List UInt8)))) × (List (List UInt8)) × Unit) (again : ((List Int) × (List Int) × Int × (List (List UInt8)) × Int × (List ((List UInt8) × (List Int) × (List (List UInt8)))) × (List (List UInt8)) × Unit) → Option ((List (List UInt8)))) (ks : ((List (List UInt8)) × Unit → Option ((List (List UInt8)))) × Unit) : Option ((List (List UInt8))) :=
  match d, ks with
  | (marks, l, i, b, b_1, b_2, out, _), (k0, _) =>
  bif (decide (i < ((List.length marks : Nat) : Int))) then
    (geti l i).bind fun e =>
    (geti b_2 e).bind fun e_1 =>
    (geti marks i).bind fun e_2 =>
    (geti e_1.2.2 e_2).bind fun e_3 =>
    (chk (List.length out + List.length ([e_3] : List (List UInt8)))).bind fun u =>
    again (marks, l, (IntKind.wrap .i64 (i + (1 : Int))), b, b_1, b_2, (out ++ ([e_3] : List (List UInt8))), ())
  else
    k0 (out, ())

/-- criadera/criaderaref07.Reasons -/
def s46 (n : Nat) (b : (List (List UInt8)) × Int × (List ((List UInt8) × (List Int) × (List (List UInt8))))) (marks : List Int) : Option ((List (List UInt8))) :=
  (s40 n (b.1, (b.2.1, b.2.2)) marks).bind fun x =>
  loopG (s46_l0 n) n (marks, x, (0 : Int), b.1, b.2.1, b.2.2, ([] : List (List UInt8)), ())
    (fun (out_1, _) =>
      some (out_1), ())

def s46_t0 : Templ := ⟨36, [(.slice (.int .i64)), (.slice (.int .i64)), (.int .i64), (.slice .str), (.int .i64), (.slice (.pair .str (.pair (.slice (.int .i64)) (.slice .str)))), (.slice .str)], [(1, .v (.hole (.slice (.int .i64)))), (2, .v (.bptr 36 0)), (5, .v (.hand 37)), (6, .v (.hole (.slice (.int .i64)))), (7, .v (.hole (.int .i64)))], [(36, .box (.pair (.slice .str) (.pair (.int .i64) (.slice (.pair .str (.pair (.slice (.int .i64)) (.slice .str)))))) [.hole (.slice .str), .hole (.int .i64), .hole (.slice (.pair .str (.pair (.slice (.int .i64)) (.slice .str))))]), (37, .buf .str)], []⟩
def s46_x0 : List (Way × Templ) := [(.exit 0, ⟨36, [(.slice .str)], [(5, .v (.hand 36))], [(36, .buf .str)], []⟩)]
def s46_o0 (n : Nat) : Ev (denL [(.slice .str)]) := loopO n (e81 n) s46_t0 s46_x0 (s46_l0 n)
theorem s46_b0 (n : Nat) (d) (again) (ks) : codeR (R := (denL [(.slice .str)])) (e81 n) (Hdl.no (R := (denL [(.slice .str)]))) (inn (lp (bd Go.Proofs.Try.f46) 0)) [] (mk s46_t0 d) (turnR (e81 n) s46_t0 s46_x0 again ks) = s46_l0 n d again ks := by kernel_rfl
theorem s46_s0 (n : Nat) : Sound Go.Proofs.Try.prog (Hdl.no (R := (denL [(.slice .str)]))) false (lp (bd Go.Proofs.Try.f46) 0) (s46_o0 n) := loop_ok (h81 n) hP (by kernel_rfl) (O := []) trivial (s46_b0 n)
def s46_c (n : Nat) : Con := ⟨[(.pair (.slice .str) (.pair (.int .i64) (.slice (.pair .str (.pair (.slice (.int .i64)) (.slice .str)))))), (.slice (.int .i64))], [], [(.slice .str)], fun x y => s46 n x.1 x.2, false⟩
theorem s46_eq (n : Nat) (x : denL [(.pair (.slice .str) (.pair (.int .i64) (.slice (.pair .str (.pair (.slice (.int .i64)) (.slice .str)))))), (.slice (.int .i64))]) (y : denL []) : funR (e81 n) Go.Proofs.Try.f46 [(.pair (.slice .str) (.pair (.int .i64) (.slice (.pair .str (.pair (.slice (.int .i64)) (.slice .str)))))), (.slice (.int .i64))] [] [(.slice .str)] false [s46_o0 n] x y = (s46_c n).fn x y := by kernel_rfl
theorem s46_ok (n : Nat) : ConOK Go.Proofs.Try.prog 46 (s46_c n) := func_ok (h81 n) hP Go.Proofs.Try.func46 (by kernel_rfl) (by kernel_rfl) (O := [s46_o0 n]) ⟨s46_s0 n, trivial⟩ (s46_eq n)
def e82 (n : Nat) : Env := ⟨gT, (46, s46_c n) :: (e81 n).C, gQ, (e81 n).I⟩
theorem h82 (n : Nat) : EnvOK Go.Proofs.Try.prog (e82 n) := env_add (h81 n) (s46_ok n)

def s45_l0 (n : Nat) (d : (List (List UInt8)) × (List (List UInt8)) × Int × Unit) (again : ((List (List UInt8)) × (List (List UInt8)) × Int × Unit) → Option (Bool)) (ks : (Unit → Option (Bool)) × (Bool × Unit → Option (Bool)) × Unit) : Option (Bool) :=
  match d, ks with
  | (a, b, i, _), (k0, k1, _) =>
  bif (decide (i < ((List.length a : Nat) : Int))) then
    (geti a i).bind fun e =>
    (geti b i).bind fun e_1 =>
    bif ((e : List UInt8) != e_1) then
      k1 (false, ())
    else
      again (a, b, (IntKind.wrap .i64 (i + (1 : Int))), ())
  else
    k0 (())

/-- criadera/criaderabase.Texts -/
def s45 (n : Nat) (a : List (List UInt8)) (b : List (List UInt8)) : Option (Bool) :=
  bif (((List.length a : Nat) : Int) != ((List.length b : Nat) : Int)) then
    some (false)
  else
    loopG (s45_l0 n) n (a, b, (0 : Int), ())
      (fun (_) =>
        some (true),
      fun (t4, _) =>
        some (t4), ())

def s45_t0 : Templ := ⟨26, [(.slice .str), (.slice .str), (.int .i64)], [(0, .v (.hole (.slice .str))), (1, .v (.hole (.slice .str))), (5, .v (.hole (.int .i64)))], [], []⟩
def s45_x0 : List (Way × Templ) := [(.exit 0, ⟨26, [], [], [], []⟩), (.ret, ⟨26, [.bool], [(4, .v (.hole .bool))], [], []⟩)]
def s45_o0 (n : Nat) : Ev (denL [.bool]) := loopO n (e82 n) s45_t0 s45_x0 (s45_l0 n)
theorem s45_b0 (n : Nat) (d) (again) (ks) : codeR (R := (denL [.bool])) (e82 n) (Hdl.no (R := (denL [.bool]))) (inn (lp (bd Go.Proofs.Try.f45) 0)) [] (mk s45_t0 d) (turnR (e82 n) s45_t0 s45_x0 again ks) = s45_l0 n d again ks := by kernel_rfl
theorem s45_s0 (n : Nat) : Sound Go.Proofs.Try.prog (Hdl.no (R := (denL [.bool]))) false (lp (bd Go.Proofs.Try.f45) 0) (s45_o0 n) := loop_ok (h82 n) hP (by kernel_rfl) (O := []) trivial (s45_b0 n)
def s45_c (n : Nat) : Con := ⟨[(.slice .str), (.slice .str)], [], [.bool], fun x y => s45 n x.1 x.2, false⟩
theorem s45_eq (n : Nat) (x : denL [(.slice .str), (.slice .str)]) (y : denL []) : funR (e82 n) Go.Proofs.Try.f45 [(.slice .str), (.slice .str)] [] [.bool] false [s45_o0 n] x y = (s45_c n).fn x y := by kernel_rfl
theorem s45_ok (n : Nat) : ConOK Go.Proofs.Try.prog 45 (s45_c n) := func_ok (h82 n) hP Go.Proofs.Try.func45 (by kernel_rfl) (by kernel_rfl) (O := [s45_o0 n]) ⟨s45_s0 n, trivial⟩ (s45_eq n)
def e83 (n : Nat) : Env := ⟨gT, (45, s45_c n) :: (e82 n).C, gQ, (e82 n).I⟩
theorem h83 (n : Nat) : EnvOK Go.Proofs.Try.prog (e83 n) := env_add (h82 n) (s45_ok n)

/-- criadera/criaderalaw07.TasteSheets -/
def s7 (n : Nat) (b : (List (List UInt8)) × Int × (List ((List UInt8) × (List Int) × (List (List UInt8))))) (s : (List UInt8) × (List Int)) : Option (Bool) :=
  (s15 n).bind fun x =>
  bif (!x) then
    some (false)
  else
    (s16 n (b.1, (b.2.1, b.2.2))).bind fun x_1 =>
    (part (!(!x_1)) (s36 n s.2) false).bind fun x_2 =>
    bif (((!x_1) || (!x_2)) || (decide (((List.length s.1 : Nat) : Int) > (20 : Int)))) then
      some (true)
    else
      (s21 n (b.1, (b.2.1, b.2.2))).bind fun x_3 =>
      (s42 n (s.1, s.2)).bind fun x_4 =>
      (s41 n x_3 x_4).bind fun x_5 =>
      (s21 n (b.1, (b.2.1, b.2.2))).bind fun x_6 =>
      (s42 n (s.1, s.2)).bind fun x_7 =>
      (s43 n x_6 x_7).bind fun x_8 =>
      (s17 n (b.1, (b.2.1, b.2.2))).bind fun x_9 =>
      bif (x_9 == (0 : Int)) then
        (s44 n (b.1, (b.2.1, b.2.2)) (s.1, s.2)).bind fun x_10 =>
        bif (x_10 != (0 : Int)) then
          some (((((x_5.2 == x_10) && (x_8.2 == x_10)) && ((x_5.1 : List UInt8) == [])) && (((List.length x_8.1 : Nat) : Int) == (0 : Int))))
        else
          (part (x_5.2 == (0 : Int)) (s22 n (b.1, (b.2.1, b.2.2)) s.2) (0 : Int)).bind fun x_11 =>
          (part (x_5.2 == (0 : Int)) (geti b.2.2 x_11) ([], ([], []))).bind fun e =>
          (part (((x_5.2 == (0 : Int)) && ((x_5.1 : List UInt8) == e.1)) && (x_8.2 == (0 : Int))) (s46 n (b.1, (b.2.1, b.2.2)) s.2) []).bind fun x_12 =>
          (part (((x_5.2 == (0 : Int)) && ((x_5.1 : List UInt8) == e.1)) && (x_8.2 == (0 : Int))) (s45 n x_8.1 x_12) false).bind fun x_13 =>
          some (((((x_5.2 == (0 : Int)) && ((x_5.1 : List UInt8) == e.1)) && (x_8.2 == (0 : Int))) && x_13))
      else
        bif (x_9 != (0 : Int)) then
          some (((((x_5.2 == x_9) && (x_8.2 == x_9)) && ((x_5.1 : List UInt8) == [])) && (((List.length x_8.1 : Nat) : Int) == (0 : Int))))
        else
          (part (x_5.2 == (0 : Int)) (s22 n (b.1, (b.2.1, b.2.2)) s.2) (0 : Int)).bind fun x_14 =>
          (part (x_5.2 == (0 : Int)) (geti b.2.2 x_14) ([], ([], []))).bind fun e_1 =>
          (part (((x_5.2 == (0 : Int)) && ((x_5.1 : List UInt8) == e_1.1)) && (x_8.2 == (0 : Int))) (s46 n (b.1, (b.2.1, b.2.2)) s.2) []).bind fun x_15 =>
          (part (((x_5.2 == (0 : Int)) && ((x_5.1 : List UInt8) == e_1.1)) && (x_8.2 == (0 : Int))) (s45 n x_8.1 x_15) false).bind fun x_16 =>
          some (((((x_5.2 == (0 : Int)) && ((x_5.1 : List UInt8) == e_1.1)) && (x_8.2 == (0 : Int))) && x_16))

def s7_c (n : Nat) : Con := ⟨[(.pair (.slice .str) (.pair (.int .i64) (.slice (.pair .str (.pair (.slice (.int .i64)) (.slice .str)))))), (.pair .str (.slice (.int .i64)))], [], [.bool], fun x y => s7 n x.1 x.2, false⟩
theorem s7_eq (n : Nat) (x : denL [(.pair (.slice .str) (.pair (.int .i64) (.slice (.pair .str (.pair (.slice (.int .i64)) (.slice .str)))))), (.pair .str (.slice (.int .i64)))]) (y : denL []) : funR (e83 n) Go.Proofs.Try.f7 [(.pair (.slice .str) (.pair (.int .i64) (.slice (.pair .str (.pair (.slice (.int .i64)) (.slice .str)))))), (.pair .str (.slice (.int .i64)))] [] [.bool] false [] x y = (s7_c n).fn x y := by kernel_rfl
theorem s7_ok (n : Nat) : ConOK Go.Proofs.Try.prog 7 (s7_c n) := func_ok (h83 n) hP Go.Proofs.Try.func7 (by kernel_rfl) (by kernel_rfl) (O := []) trivial (s7_eq n)
def e84 (n : Nat) : Env := ⟨gT, (7, s7_c n) :: (e83 n).C, gQ, (e83 n).I⟩
theorem h84 (n : Nat) : EnvOK Go.Proofs.Try.prog (e84 n) := env_add (h83 n) (s7_ok n)

def s105_l0 (n : Nat) (d : Int × Int × Unit) (again : (Int × Int × Unit) → Option (Int)) (ks : (Int × Unit → Option (Int)) × Unit) : Option (Int) :=
  match d, ks with
  | (a, b, _), (k0, _) =>
  bif (b != (0 : Int)) then
    (qrem a b).bind fun r =>
    again (b, r, ())
  else
    k0 (a, ())

/-- criadera/taste.divisor -/
def s105 (n : Nat) (a : Int) (b : Int) : Option (Int) :=
  loopG (s105_l0 n) n (a, b, ())
    (fun (a_2, _) =>
      some ((imax a_2 (IntKind.wrap .i64 (0 - a_2)))), ())

def s105_t0 : Templ := ⟨15, [(.int .i64), (.int .i64)], [(0, .v (.hole (.int .i64))), (1, .v (.hole (.int .i64)))], [], []⟩
def s105_x0 : List (Way × Templ) := [(.exit 0, ⟨15, [(.int .i64)], [(0, .v (.hole (.int .i64)))], [], []⟩)]
def s105_o0 (n : Nat) : Ev (denL [(.int .i64)]) := loopO n (e84 n) s105_t0 s105_x0 (s105_l0 n)
theorem s105_b0 (n : Nat) (d) (again) (ks) : codeR (R := (denL [(.int .i64)])) (e84 n) (Hdl.no (R := (denL [(.int .i64)]))) (inn (lp (bd Go.Proofs.Try.f105) 0)) [] (mk s105_t0 d) (turnR (e84 n) s105_t0 s105_x0 again ks) = s105_l0 n d again ks := by kernel_rfl
theorem s105_s0 (n : Nat) : Sound Go.Proofs.Try.prog (Hdl.no (R := (denL [(.int .i64)]))) false (lp (bd Go.Proofs.Try.f105) 0) (s105_o0 n) := loop_ok (h84 n) hP (by kernel_rfl) (O := []) trivial (s105_b0 n)
def s105_c (n : Nat) : Con := ⟨[(.int .i64), (.int .i64)], [], [(.int .i64)], fun x y => s105 n x.1 x.2, false⟩
theorem s105_eq (n : Nat) (x : denL [(.int .i64), (.int .i64)]) (y : denL []) : funR (e84 n) Go.Proofs.Try.f105 [(.int .i64), (.int .i64)] [] [(.int .i64)] false [s105_o0 n] x y = (s105_c n).fn x y := by kernel_rfl
theorem s105_ok (n : Nat) : ConOK Go.Proofs.Try.prog 105 (s105_c n) := func_ok (h84 n) hP Go.Proofs.Try.func105 (by kernel_rfl) (by kernel_rfl) (O := [s105_o0 n]) ⟨s105_s0 n, trivial⟩ (s105_eq n)
def e85 (n : Nat) : Env := ⟨gT, (105, s105_c n) :: (e84 n).C, gQ, (e84 n).I⟩
theorem h85 (n : Nat) : EnvOK Go.Proofs.Try.prog (e85 n) := env_add (h84 n) (s105_ok n)

def s47_l0 (n : Nat) (d : Int × Int × Int × (List Int) × Int × Int × Int × Int × (List Int) × (List (List Int)) × Int × Int × Unit) (again : (Int × Int × Int × (List Int) × Int × Int × Int × Int × (List Int) × (List (List Int)) × Int × Int × Unit) → Option ((Int × Int) × Int)) (ks : (Int × Int × Int × Int × Unit → Option ((Int × Int) × Int)) × Unit) : Option ((Int × Int) × Int) :=
  match d, ks with
  | (b, same, all, t40, t41, t42, p, p_1, p_2, p_3, t6, t6_1, _), (k0, _) =>
  bif (decide (t42 < t41)) then
    (geti t40 t42).bind fun e =>
    (geti p_3 b).bind fun e_1 =>
    (geti e_1 t42).bind fun e_2 =>
    bif (e_2 == e) then
      again (b, (IntKind.wrap .i64 (same + (1 : Int))), all, t40, t41, (IntKind.wrap .i64 (t42 + (1 : Int))), p, p_1, p_2, p_3, t6, t6_1, ())
    else
      again (b, same, all, t40, t41, (IntKind.wrap .i64 (t42 + (1 : Int))), p, p_1, p_2, p_3, t6, t6_1, ())
  else
    k0 (same, all, t6, t6_1, ())

/-- criadera/taste.AgreementOf -/
def s47 (n : Nat) (p : Int × Int × (List Int) × (List (List Int))) (a : Int) (b : Int) : Option ((Int × Int) × Int) :=
  (s89 n (p.1, (p.2.1, (p.2.2.1, p.2.2.2)))).bind fun x =>
  (s90 n (x.1.1, (x.1.2.1, (x.1.2.2.1, x.1.2.2.2))) a).bind fun x_1 =>
  (s90 n (x.1.1, (x.1.2.1, (x.1.2.2.1, x.1.2.2.2))) b).bind fun x_2 =>
  (s80 n ([x.2, x_1, x_2] : List Int)).bind fun x_3 =>
  bif (x_3 != (0 : Int)) then
    some (((0 : Int), (0 : Int)), x_3)
  else
    (geti p.2.2.2 a).bind fun e =>
    loopG (s47_l0 n) n (b, (0 : Int), ((List.length p.2.2.1 : Nat) : Int), e, ((List.length e : Nat) : Int), (0 : Int), p.1, p.2.1, p.2.2.1, p.2.2.2, (0 : Int), (0 : Int), ())
      (fun (same_1, all_1, t6_2, t6_3, _) =>
        (s105 n same_1 all_1).bind fun x_4 =>
        (qdiv .i64 same_1 x_4).bind fun q =>
        (qdiv .i64 all_1 x_4).bind fun q_1 =>
        some ((q, q_1), (0 : Int)), ())

def s47_t0 : Templ := ⟨70, [(.int .i64), (.int .i64), (.int .i64), (.slice (.int .i64)), (.int .i64), (.int .i64), (.int .i64), (.int .i64), (.slice (.int .i64)), (.slice (.slice (.int .i64))), (.int .i64), (.int .i64)], [(2, .v (.hole (.int .i64))), (3, .v (.bptr 70 0)), (6, .v (.bptr 71 0)), (10, .v (.hole (.int .i64))), (11, .v (.hole (.int .i64))), (40, .v (.hole (.slice (.int .i64)))), (41, .v (.hole (.int .i64))), (42, .v (.hole (.int .i64)))], [(70, .box (.pair (.int .i64) (.pair (.int .i64) (.pair (.slice (.int .i64)) (.slice (.slice (.int .i64)))))) [.hole (.int .i64), .hole (.int .i64), .hole (.slice (.int .i64)), .hole (.slice (.slice (.int .i64)))]), (71, .box (.pair (.int .i64) (.int .i64)) [.hole (.int .i64), .hole (.int .i64)])], []⟩
def s47_x0 : List (Way × Templ) := [(.exit 0, ⟨70, [(.int .i64), (.int .i64), (.int .i64), (.int .i64)], [(6, .v (.bptr 70 0)), (10, .v (.hole (.int .i64))), (11, .v (.hole (.int .i64)))], [(70, .box (.pair (.int .i64) (.int .i64)) [.hole (.int .i64), .hole (.int .i64)])], []⟩)]
def s47_o0 (n : Nat) : Ev (denL [(.pair (.int .i64) (.int .i64)), (.int .i64)]) := loopO n (e85 n) s47_t0 s47_x0 (s47_l0 n)
theorem s47_b0 (n : Nat) (d) (again) (ks) : codeR (R := (denL [(.pair (.int .i64) (.int .i64)), (.int .i64)])) (e85 n) (Hdl.no (R := (denL [(.pair (.int .i64) (.int .i64)), (.int .i64)]))) (inn (lp (bd Go.Proofs.Try.f47) 0)) [] (mk s47_t0 d) (turnR (e85 n) s47_t0 s47_x0 again ks) = s47_l0 n d again ks := by kernel_rfl
theorem s47_s0 (n : Nat) : Sound Go.Proofs.Try.prog (Hdl.no (R := (denL [(.pair (.int .i64) (.int .i64)), (.int .i64)]))) false (lp (bd Go.Proofs.Try.f47) 0) (s47_o0 n) := loop_ok (h85 n) hP (by kernel_rfl) (O := []) trivial (s47_b0 n)
def s47_c (n : Nat) : Con := ⟨[(.pair (.int .i64) (.pair (.int .i64) (.pair (.slice (.int .i64)) (.slice (.slice (.int .i64)))))), (.int .i64), (.int .i64)], [], [(.pair (.int .i64) (.int .i64)), (.int .i64)], fun x y => s47 n x.1 x.2.1 x.2.2, false⟩
theorem s47_eq (n : Nat) (x : denL [(.pair (.int .i64) (.pair (.int .i64) (.pair (.slice (.int .i64)) (.slice (.slice (.int .i64)))))), (.int .i64), (.int .i64)]) (y : denL []) : funR (e85 n) Go.Proofs.Try.f47 [(.pair (.int .i64) (.pair (.int .i64) (.pair (.slice (.int .i64)) (.slice (.slice (.int .i64)))))), (.int .i64), (.int .i64)] [] [(.pair (.int .i64) (.int .i64)), (.int .i64)] false [s47_o0 n] x y = (s47_c n).fn x y := by kernel_rfl
theorem s47_ok (n : Nat) : ConOK Go.Proofs.Try.prog 47 (s47_c n) := func_ok (h85 n) hP Go.Proofs.Try.func47 (by kernel_rfl) (by kernel_rfl) (O := [s47_o0 n]) ⟨s47_s0 n, trivial⟩ (s47_eq n)
def e86 (n : Nat) : Env := ⟨gT, (47, s47_c n) :: (e85 n).C, gQ, (e85 n).I⟩
theorem h86 (n : Nat) : EnvOK Go.Proofs.Try.prog (e86 n) := env_add (h85 n) (s47_ok n)

/-- criadera/criaderabase.Size -/
def s144 (n : Nat) (v_n : Int) : Option (Int) :=
  some ((imax v_n (IntKind.wrap .i64 (0 - v_n))))

def s144_c (n : Nat) : Con := ⟨[(.int .i64)], [], [(.int .i64)], fun x y => s144 n x, false⟩
theorem s144_eq (n : Nat) (x : denL [(.int .i64)]) (y : denL []) : funR (e86 n) Go.Proofs.Try.f144 [(.int .i64)] [] [(.int .i64)] false [] x y = (s144_c n).fn x y := by kernel_rfl
theorem s144_ok (n : Nat) : ConOK Go.Proofs.Try.prog 144 (s144_c n) := func_ok (h86 n) hP Go.Proofs.Try.func144 (by kernel_rfl) (by kernel_rfl) (O := []) trivial (s144_eq n)
def e87 (n : Nat) : Env := ⟨gT, (144, s144_c n) :: (e86 n).C, gQ, (e86 n).I⟩
theorem h87 (n : Nat) : EnvOK Go.Proofs.Try.prog (e87 n) := env_add (h86 n) (s144_ok n)

def s133_l0 (n : Nat) (d : Int × Int × Unit) (again : (Int × Int × Unit) → Option (Int)) (ks : (Int × Unit → Option (Int)) × Unit) : Option (Int) :=
  match d, ks with
  | (a, b, _), (k0, _) =>
  bif (b != (0 : Int)) then
    (qrem a b).bind fun r =>
    again (b, r, ())
  else
    k0 (a, ())

/-- criadera/criaderabase.Gcd -/
def s133 (n : Nat) (a : Int) (b : Int) : Option (Int) :=
  loopG (s133_l0 n) n (a, b, ())
    (fun (a_2, _) =>
      (s144 n a_2).bind fun x =>
      some (x), ())

def s133_t0 : Templ := ⟨13, [(.int .i64), (.int .i64)], [(0, .v (.hole (.int .i64))), (1, .v (.hole (.int .i64)))], [], []⟩
def s133_x0 : List (Way × Templ) := [(.exit 0, ⟨13, [(.int .i64)], [(0, .v (.hole (.int .i64)))], [], []⟩)]
def s133_o0 (n : Nat) : Ev (denL [(.int .i64)]) := loopO n (e87 n) s133_t0 s133_x0 (s133_l0 n)
theorem s133_b0 (n : Nat) (d) (again) (ks) : codeR (R := (denL [(.int .i64)])) (e87 n) (Hdl.no (R := (denL [(.int .i64)]))) (inn (lp (bd Go.Proofs.Try.f133) 0)) [] (mk s133_t0 d) (turnR (e87 n) s133_t0 s133_x0 again ks) = s133_l0 n d again ks := by kernel_rfl
theorem s133_s0 (n : Nat) : Sound Go.Proofs.Try.prog (Hdl.no (R := (denL [(.int .i64)]))) false (lp (bd Go.Proofs.Try.f133) 0) (s133_o0 n) := loop_ok (h87 n) hP (by kernel_rfl) (O := []) trivial (s133_b0 n)
def s133_c (n : Nat) : Con := ⟨[(.int .i64), (.int .i64)], [], [(.int .i64)], fun x y => s133 n x.1 x.2, false⟩
theorem s133_eq (n : Nat) (x : denL [(.int .i64), (.int .i64)]) (y : denL []) : funR (e87 n) Go.Proofs.Try.f133 [(.int .i64), (.int .i64)] [] [(.int .i64)] false [s133_o0 n] x y = (s133_c n).fn x y := by kernel_rfl
theorem s133_ok (n : Nat) : ConOK Go.Proofs.Try.prog 133 (s133_c n) := func_ok (h87 n) hP Go.Proofs.Try.func133 (by kernel_rfl) (by kernel_rfl) (O := [s133_o0 n]) ⟨s133_s0 n, trivial⟩ (s133_eq n)
def e88 (n : Nat) : Env := ⟨gT, (133, s133_c n) :: (e87 n).C, gQ, (e87 n).I⟩
theorem h88 (n : Nat) : EnvOK Go.Proofs.Try.prog (e88 n) := env_add (h87 n) (s133_ok n)

/-- criadera/criaderabase.Lowest -/
def s106 (n : Nat) (num : Int) (den : Int) : Option ((Int × Int)) :=
  (s133 n num den).bind fun x =>
  bif (decide (den < (0 : Int))) then
    (qdiv .i64 num (IntKind.wrap .i64 (0 - x))).bind fun q =>
    (qdiv .i64 den (IntKind.wrap .i64 (0 - x))).bind fun q_1 =>
    some ((q, q_1))
  else
    (qdiv .i64 num x).bind fun q_2 =>
    (qdiv .i64 den x).bind fun q_3 =>
    some ((q_2, q_3))

def s106_c (n : Nat) : Con := ⟨[(.int .i64), (.int .i64)], [], [(.pair (.int .i64) (.int .i64))], fun x y => s106 n x.1 x.2, false⟩
theorem s106_eq (n : Nat) (x : denL [(.int .i64), (.int .i64)]) (y : denL []) : funR (e88 n) Go.Proofs.Try.f106 [(.int .i64), (.int .i64)] [] [(.pair (.int .i64) (.int .i64))] false [] x y = (s106_c n).fn x y := by kernel_rfl
theorem s106_ok (n : Nat) : ConOK Go.Proofs.Try.prog 106 (s106_c n) := func_ok (h88 n) hP Go.Proofs.Try.func106 (by kernel_rfl) (by kernel_rfl) (O := []) trivial (s106_eq n)
def e89 (n : Nat) : Env := ⟨gT, (106, s106_c n) :: (e88 n).C, gQ, (e88 n).I⟩
theorem h89 (n : Nat) : EnvOK Go.Proofs.Try.prog (e89 n) := env_add (h88 n) (s106_ok n)

def s48_l0 (n : Nat) (d : Int × Int × Int × Int × Int × Int × (List Int) × (List (List Int)) × Int × Int × Unit) (again : (Int × Int × Int × Int × Int × Int × (List Int) × (List (List Int)) × Int × Int × Unit) → Option ((Int × Int))) (ks : (Int × Int × Int × (List Int) × (List (List Int)) × Int × Int × Unit → Option ((Int × Int))) × Unit) : Option ((Int × Int)) :=
  match d, ks with
  | (a, b, v_n, i, p, p_1, p_2, p_3, t6, t6_1, _), (k0, _) =>
  bif (decide (i < ((List.length p_2 : Nat) : Int))) then
    (geti p_3 a).bind fun e =>
    (geti e i).bind fun e_1 =>
    (geti p_3 b).bind fun e_2 =>
    (geti e_2 i).bind fun e_3 =>
    bif (e_1 == e_3) then
      again (a, b, (IntKind.wrap .i64 (v_n + (1 : Int))), (IntKind.wrap .i64 (i + (1 : Int))), p, p_1, p_2, p_3, t6, t6_1, ())
    else
      again (a, b, v_n, (IntKind.wrap .i64 (i + (1 : Int))), p, p_1, p_2, p_3, t6, t6_1, ())
  else
    k0 (v_n, p, p_1, p_2, p_3, t6, t6_1, ())

/-- criadera/criaderaref07.AgreementOf -/
def s48 (n : Nat) (p : Int × Int × (List Int) × (List (List Int))) (a : Int) (b : Int) : Option ((Int × Int)) :=
  loopG (s48_l0 n) n (a, b, (0 : Int), (0 : Int), p.1, p.2.1, p.2.2.1, p.2.2.2, (0 : Int), (0 : Int), ())
    (fun (v_n_1, p_5, p_6, p_7, p_8, t6_2, t6_3, _) =>
      (s106 n v_n_1 ((List.length p_7 : Nat) : Int)).bind fun x =>
      some ((x.1, x.2)), ())

def s48_t0 : Templ := ⟨40, [(.int .i64), (.int .i64), (.int .i64), (.int .i64), (.int .i64), (.int .i64), (.slice (.int .i64)), (.slice (.slice (.int .i64))), (.int .i64), (.int .i64)], [(1, .v (.hole (.int .i64))), (2, .v (.hole (.int .i64))), (3, .v (.bptr 40 0)), (6, .v (.bptr 41 0)), (7, .v (.hole (.int .i64))), (8, .v (.hole (.int .i64)))], [(40, .box (.pair (.int .i64) (.pair (.int .i64) (.pair (.slice (.int .i64)) (.slice (.slice (.int .i64)))))) [.hole (.int .i64), .hole (.int .i64), .hole (.slice (.int .i64)), .hole (.slice (.slice (.int .i64)))]), (41, .box (.pair (.int .i64) (.int .i64)) [.hole (.int .i64), .hole (.int .i64)])], []⟩
def s48_x0 : List (Way × Templ) := [(.exit 0, ⟨40, [(.int .i64), (.int .i64), (.int .i64), (.slice (.int .i64)), (.slice (.slice (.int .i64))), (.int .i64), (.int .i64)], [(3, .v (.bptr 40 0)), (6, .v (.bptr 41 0)), (7, .v (.hole (.int .i64)))], [(40, .box (.pair (.int .i64) (.pair (.int .i64) (.pair (.slice (.int .i64)) (.slice (.slice (.int .i64)))))) [.hole (.int .i64), .hole (.int .i64), .hole (.slice (.int .i64)), .hole (.slice (.slice (.int .i64)))]), (41, .box (.pair (.int .i64) (.int .i64)) [.hole (.int .i64), .hole (.int .i64)])], []⟩)]
def s48_o0 (n : Nat) : Ev (denL [(.pair (.int .i64) (.int .i64))]) := loopO n (e89 n) s48_t0 s48_x0 (s48_l0 n)
theorem s48_b0 (n : Nat) (d) (again) (ks) : codeR (R := (denL [(.pair (.int .i64) (.int .i64))])) (e89 n) (Hdl.no (R := (denL [(.pair (.int .i64) (.int .i64))]))) (inn (lp (bd Go.Proofs.Try.f48) 0)) [] (mk s48_t0 d) (turnR (e89 n) s48_t0 s48_x0 again ks) = s48_l0 n d again ks := by kernel_rfl
theorem s48_s0 (n : Nat) : Sound Go.Proofs.Try.prog (Hdl.no (R := (denL [(.pair (.int .i64) (.int .i64))]))) false (lp (bd Go.Proofs.Try.f48) 0) (s48_o0 n) := loop_ok (h89 n) hP (by kernel_rfl) (O := []) trivial (s48_b0 n)
def s48_c (n : Nat) : Con := ⟨[(.pair (.int .i64) (.pair (.int .i64) (.pair (.slice (.int .i64)) (.slice (.slice (.int .i64)))))), (.int .i64), (.int .i64)], [], [(.pair (.int .i64) (.int .i64))], fun x y => s48 n x.1 x.2.1 x.2.2, false⟩
theorem s48_eq (n : Nat) (x : denL [(.pair (.int .i64) (.pair (.int .i64) (.pair (.slice (.int .i64)) (.slice (.slice (.int .i64)))))), (.int .i64), (.int .i64)]) (y : denL []) : funR (e89 n) Go.Proofs.Try.f48 [(.pair (.int .i64) (.pair (.int .i64) (.pair (.slice (.int .i64)) (.slice (.slice (.int .i64)))))), (.int .i64), (.int .i64)] [] [(.pair (.int .i64) (.int .i64))] false [s48_o0 n] x y = (s48_c n).fn x y := by kernel_rfl
theorem s48_ok (n : Nat) : ConOK Go.Proofs.Try.prog 48 (s48_c n) := func_ok (h89 n) hP Go.Proofs.Try.func48 (by kernel_rfl) (by kernel_rfl) (O := [s48_o0 n]) ⟨s48_s0 n, trivial⟩ (s48_eq n)
def e90 (n : Nat) : Env := ⟨gT, (48, s48_c n) :: (e89 n).C, gQ, (e89 n).I⟩
theorem h90 (n : Nat) : EnvOK Go.Proofs.Try.prog (e90 n) := env_add (h89 n) (s48_ok n)

/-- criadera/criaderabase.Whole -/
def s49 (n : Nat) (v_n : Int) : Option ((Int × Int)) :=
  some ((v_n, (1 : Int)))

def s49_c (n : Nat) : Con := ⟨[(.int .i64)], [], [(.pair (.int .i64) (.int .i64))], fun x y => s49 n x, false⟩
theorem s49_eq (n : Nat) (x : denL [(.int .i64)]) (y : denL []) : funR (e90 n) Go.Proofs.Try.f49 [(.int .i64)] [] [(.pair (.int .i64) (.int .i64))] false [] x y = (s49_c n).fn x y := by kernel_rfl
theorem s49_ok (n : Nat) : ConOK Go.Proofs.Try.prog 49 (s49_c n) := func_ok (h90 n) hP Go.Proofs.Try.func49 (by kernel_rfl) (by kernel_rfl) (O := []) trivial (s49_eq n)
def e91 (n : Nat) : Env := ⟨gT, (49, s49_c n) :: (e90 n).C, gQ, (e90 n).I⟩
theorem h91 (n : Nat) : EnvOK Go.Proofs.Try.prog (e91 n) := env_add (h90 n) (s49_ok n)

/-- criadera/criaderalaw07.TasteAgrees -/
def s8 (n : Nat) (p : Int × Int × (List Int) × (List (List Int))) (a : Int) (b : Int) : Option (Bool) :=
  (s15 n).bind fun x =>
  bif (!x) then
    some (false)
  else
    (s24 n (p.1, (p.2.1, (p.2.2.1, p.2.2.2)))).bind fun x_1 =>
    bif (!x_1) then
      some (true)
    else
      (s26 n (p.1, (p.2.1, (p.2.2.1, p.2.2.2)))).bind fun x_2 =>
      (s47 n (x_2.1, (x_2.2.1, (x_2.2.2.1, x_2.2.2.2))) a b).bind fun x_3 =>
      (s29 n (p.1, (p.2.1, (p.2.2.1, p.2.2.2)))).bind fun x_4 =>
      bif (x_4 == (0 : Int)) then
        (s30 n a ((List.length p.2.2.2 : Nat) : Int)).bind fun x_5 =>
        bif (x_5 == (0 : Int)) then
          (s30 n b ((List.length p.2.2.2 : Nat) : Int)).bind fun x_6 =>
          bif (x_6 != (0 : Int)) then
            some (((x_3.2 == x_6) && ((x_3.1.1 == (0 : Int)) && (x_3.1.2 == (0 : Int)))))
          else
            (s26 n (p.1, (p.2.1, (p.2.2.1, p.2.2.2)))).bind fun x_7 =>
            (s47 n (x_7.1, (x_7.2.1, (x_7.2.2.1, x_7.2.2.2))) b a).bind fun x_8 =>
            (s26 n (p.1, (p.2.1, (p.2.2.1, p.2.2.2)))).bind fun x_9 =>
            (s47 n (x_9.1, (x_9.2.1, (x_9.2.2.1, x_9.2.2.2))) a a).bind fun x_10 =>
            (part (x_3.2 == (0 : Int)) (s48 n (p.1, (p.2.1, (p.2.2.1, p.2.2.2))) a b) ((0 : Int), (0 : Int))).bind fun x_11 =>
            (part (((((x_3.2 == (0 : Int)) && ((x_3.1.1 == x_11.1) && (x_3.1.2 == x_11.2))) && (x_8.2 == (0 : Int))) && ((x_3.1.1 == x_8.1.1) && (x_3.1.2 == x_8.1.2))) && (x_10.2 == (0 : Int))) (s49 n (1 : Int)) ((0 : Int), (0 : Int))).bind fun x_12 =>
            some (((((((x_3.2 == (0 : Int)) && ((x_3.1.1 == x_11.1) && (x_3.1.2 == x_11.2))) && (x_8.2 == (0 : Int))) && ((x_3.1.1 == x_8.1.1) && (x_3.1.2 == x_8.1.2))) && (x_10.2 == (0 : Int))) && ((x_10.1.1 == x_12.1) && (x_10.1.2 == x_12.2))))
        else
          bif (x_5 != (0 : Int)) then
            some (((x_3.2 == x_5) && ((x_3.1.1 == (0 : Int)) && (x_3.1.2 == (0 : Int)))))
          else
            (s26 n (p.1, (p.2.1, (p.2.2.1, p.2.2.2)))).bind fun x_13 =>
            (s47 n (x_13.1, (x_13.2.1, (x_13.2.2.1, x_13.2.2.2))) b a).bind fun x_14 =>
            (s26 n (p.1, (p.2.1, (p.2.2.1, p.2.2.2)))).bind fun x_15 =>
            (s47 n (x_15.1, (x_15.2.1, (x_15.2.2.1, x_15.2.2.2))) a a).bind fun x_16 =>
            (part (x_3.2 == (0 : Int)) (s48 n (p.1, (p.2.1, (p.2.2.1, p.2.2.2))) a b) ((0 : Int), (0 : Int))).bind fun x_17 =>
            (part (((((x_3.2 == (0 : Int)) && ((x_3.1.1 == x_17.1) && (x_3.1.2 == x_17.2))) && (x_14.2 == (0 : Int))) && ((x_3.1.1 == x_14.1.1) && (x_3.1.2 == x_14.1.2))) && (x_16.2 == (0 : Int))) (s49 n (1 : Int)) ((0 : Int), (0 : Int))).bind fun x_18 =>
            some (((((((x_3.2 == (0 : Int)) && ((x_3.1.1 == x_17.1) && (x_3.1.2 == x_17.2))) && (x_14.2 == (0 : Int))) && ((x_3.1.1 == x_14.1.1) && (x_3.1.2 == x_14.1.2))) && (x_16.2 == (0 : Int))) && ((x_16.1.1 == x_18.1) && (x_16.1.2 == x_18.2))))
      else
        bif (x_4 == (0 : Int)) then
          (s30 n b ((List.length p.2.2.2 : Nat) : Int)).bind fun x_19 =>
          bif (x_19 != (0 : Int)) then
            some (((x_3.2 == x_19) && ((x_3.1.1 == (0 : Int)) && (x_3.1.2 == (0 : Int)))))
          else
            (s26 n (p.1, (p.2.1, (p.2.2.1, p.2.2.2)))).bind fun x_20 =>
            (s47 n (x_20.1, (x_20.2.1, (x_20.2.2.1, x_20.2.2.2))) b a).bind fun x_21 =>
            (s26 n (p.1, (p.2.1, (p.2.2.1, p.2.2.2)))).bind fun x_22 =>
            (s47 n (x_22.1, (x_22.2.1, (x_22.2.2.1, x_22.2.2.2))) a a).bind fun x_23 =>
            (part (x_3.2 == (0 : Int)) (s48 n (p.1, (p.2.1, (p.2.2.1, p.2.2.2))) a b) ((0 : Int), (0 : Int))).bind fun x_24 =>
            (part (((((x_3.2 == (0 : Int)) && ((x_3.1.1 == x_24.1) && (x_3.1.2 == x_24.2))) && (x_21.2 == (0 : Int))) && ((x_3.1.1 == x_21.1.1) && (x_3.1.2 == x_21.1.2))) && (x_23.2 == (0 : Int))) (s49 n (1 : Int)) ((0 : Int), (0 : Int))).bind fun x_25 =>
            some (((((((x_3.2 == (0 : Int)) && ((x_3.1.1 == x_24.1) && (x_3.1.2 == x_24.2))) && (x_21.2 == (0 : Int))) && ((x_3.1.1 == x_21.1.1) && (x_3.1.2 == x_21.1.2))) && (x_23.2 == (0 : Int))) && ((x_23.1.1 == x_25.1) && (x_23.1.2 == x_25.2))))
        else
          bif (x_4 != (0 : Int)) then
            some (((x_3.2 == x_4) && ((x_3.1.1 == (0 : Int)) && (x_3.1.2 == (0 : Int)))))
          else
            (s26 n (p.1, (p.2.1, (p.2.2.1, p.2.2.2)))).bind fun x_26 =>
            (s47 n (x_26.1, (x_26.2.1, (x_26.2.2.1, x_26.2.2.2))) b a).bind fun x_27 =>
            (s26 n (p.1, (p.2.1, (p.2.2.1, p.2.2.2)))).bind fun x_28 =>
            (s47 n (x_28.1, (x_28.2.1, (x_28.2.2.1, x_28.2.2.2))) a a).bind fun x_29 =>
            (part (x_3.2 == (0 : Int)) (s48 n (p.1, (p.2.1, (p.2.2.1, p.2.2.2))) a b) ((0 : Int), (0 : Int))).bind fun x_30 =>
            (part (((((x_3.2 == (0 : Int)) && ((x_3.1.1 == x_30.1) && (x_3.1.2 == x_30.2))) && (x_27.2 == (0 : Int))) && ((x_3.1.1 == x_27.1.1) && (x_3.1.2 == x_27.1.2))) && (x_29.2 == (0 : Int))) (s49 n (1 : Int)) ((0 : Int), (0 : Int))).bind fun x_31 =>
            some (((((((x_3.2 == (0 : Int)) && ((x_3.1.1 == x_30.1) && (x_3.1.2 == x_30.2))) && (x_27.2 == (0 : Int))) && ((x_3.1.1 == x_27.1.1) && (x_3.1.2 == x_27.1.2))) && (x_29.2 == (0 : Int))) && ((x_29.1.1 == x_31.1) && (x_29.1.2 == x_31.2))))

def s8_c (n : Nat) : Con := ⟨[(.pair (.int .i64) (.pair (.int .i64) (.pair (.slice (.int .i64)) (.slice (.slice (.int .i64)))))), (.int .i64), (.int .i64)], [], [.bool], fun x y => s8 n x.1 x.2.1 x.2.2, false⟩
theorem s8_eq (n : Nat) (x : denL [(.pair (.int .i64) (.pair (.int .i64) (.pair (.slice (.int .i64)) (.slice (.slice (.int .i64)))))), (.int .i64), (.int .i64)]) (y : denL []) : funR (e91 n) Go.Proofs.Try.f8 [(.pair (.int .i64) (.pair (.int .i64) (.pair (.slice (.int .i64)) (.slice (.slice (.int .i64)))))), (.int .i64), (.int .i64)] [] [.bool] false [] x y = (s8_c n).fn x y := by kernel_rfl
theorem s8_ok (n : Nat) : ConOK Go.Proofs.Try.prog 8 (s8_c n) := func_ok (h91 n) hP Go.Proofs.Try.func8 (by kernel_rfl) (by kernel_rfl) (O := []) trivial (s8_eq n)
def e92 (n : Nat) : Env := ⟨gT, (8, s8_c n) :: (e91 n).C, gQ, (e91 n).I⟩
theorem h92 (n : Nat) : EnvOK Go.Proofs.Try.prog (e92 n) := env_add (h91 n) (s8_ok n)

/-- criadera/taste.shareErr -/
def s109 (n : Nat) (f : Int × Int) : Option (Int) :=
  (part (!(decide (f.2 < (1 : Int)))) (s105 n f.1 f.2) (0 : Int)).bind fun x =>
  bif ((decide (f.2 < (1 : Int))) || (x != (1 : Int))) then
    some ((3 : Int))
  else
    (s82 n f.1 (0 : Int) f.2).bind fun x_1 =>
    (s81 n (x_1 && (decide (f.2 ≤ (1000000000 : Int)))) (2 : Int)).bind fun x_2 =>
    some (x_2)

def s109_c (n : Nat) : Con := ⟨[(.pair (.int .i64) (.int .i64))], [], [(.int .i64)], fun x y => s109 n x, false⟩
theorem s109_eq (n : Nat) (x : denL [(.pair (.int .i64) (.int .i64))]) (y : denL []) : funR (e92 n) Go.Proofs.Try.f109 [(.pair (.int .i64) (.int .i64))] [] [(.int .i64)] false [] x y = (s109_c n).fn x y := by kernel_rfl
theorem s109_ok (n : Nat) : ConOK Go.Proofs.Try.prog 109 (s109_c n) := func_ok (h92 n) hP Go.Proofs.Try.func109 (by kernel_rfl) (by kernel_rfl) (O := []) trivial (s109_eq n)
def e93 (n : Nat) : Env := ⟨gT, (109, s109_c n) :: (e92 n).C, gQ, (e92 n).I⟩
theorem h93 (n : Nat) : EnvOK Go.Proofs.Try.prog (e93 n) := env_add (h92 n) (s109_ok n)

def s110_l0 (n : Nat) (d : Int × Int × Int × Int × (List Int) × (List (List Int)) × Int × Int × (List Int) × Unit) (again : (Int × Int × Int × Int × (List Int) × (List (List Int)) × Int × Int × (List Int) × Unit) → Option ((List Int))) (ks : ((List Int) × Unit → Option ((List Int))) × Unit) : Option ((List Int)) :=
  match d, ks with
  | (t11, t12, p, p_1, p_2, p_3, least, least_1, out, _), (k0, _) =>
  bif (decide (t12 < t11)) then
    (s91 n (p, (p_1, (p_2, p_3))) t12).bind fun x =>
    bif (decide ((IntKind.wrap .i64 (x.1 * least_1)) ≥ (IntKind.wrap .i64 (least * x.2)))) then
      (chk (List.length out + List.length ([t12] : List Int))).bind fun u =>
      again (t11, (IntKind.wrap .i64 (t12 + (1 : Int))), p, p_1, p_2, p_3, least, least_1, (out ++ ([t12] : List Int)), ())
    else
      again (t11, (IntKind.wrap .i64 (t12 + (1 : Int))), p, p_1, p_2, p_3, least, least_1, out, ())
  else
    k0 (out, ())

/-- (criadera/taste.panel).steadiest -/
def s110 (n : Nat) (p : Int × Int × (List Int) × (List (List Int))) (least : Int × Int) : Option ((List Int)) :=
  loopG (s110_l0 n) n (((List.length p.2.2.2 : Nat) : Int), (0 : Int), p.1, p.2.1, p.2.2.1, p.2.2.2, least.1, least.2, ([] : List Int), ())
    (fun (out_1, _) =>
      some (out_1), ())

def s110_t0 : Templ := ⟨35, [(.int .i64), (.int .i64), (.int .i64), (.int .i64), (.slice (.int .i64)), (.slice (.slice (.int .i64))), (.int .i64), (.int .i64), (.slice (.int .i64))], [(2, .v (.bptr 35 0)), (3, .v (.bptr 36 0)), (5, .v (.hand 37)), (11, .v (.hole (.int .i64))), (12, .v (.hole (.int .i64)))], [(35, .box (.pair (.int .i64) (.pair (.int .i64) (.pair (.slice (.int .i64)) (.slice (.slice (.int .i64)))))) [.hole (.int .i64), .hole (.int .i64), .hole (.slice (.int .i64)), .hole (.slice (.slice (.int .i64)))]), (36, .box (.pair (.int .i64) (.int .i64)) [.hole (.int .i64), .hole (.int .i64)]), (37, .buf (.int .i64))], []⟩
def s110_x0 : List (Way × Templ) := [(.exit 0, ⟨35, [(.slice (.int .i64))], [(5, .v (.hand 35))], [(35, .buf (.int .i64))], []⟩)]
def s110_o0 (n : Nat) : Ev (denL [(.slice (.int .i64))]) := loopO n (e93 n) s110_t0 s110_x0 (s110_l0 n)
theorem s110_b0 (n : Nat) (d) (again) (ks) : codeR (R := (denL [(.slice (.int .i64))])) (e93 n) (Hdl.no (R := (denL [(.slice (.int .i64))]))) (inn (lp (bd Go.Proofs.Try.f110) 0)) [] (mk s110_t0 d) (turnR (e93 n) s110_t0 s110_x0 again ks) = s110_l0 n d again ks := by kernel_rfl
theorem s110_s0 (n : Nat) : Sound Go.Proofs.Try.prog (Hdl.no (R := (denL [(.slice (.int .i64))]))) false (lp (bd Go.Proofs.Try.f110) 0) (s110_o0 n) := loop_ok (h93 n) hP (by kernel_rfl) (O := []) trivial (s110_b0 n)
def s110_c (n : Nat) : Con := ⟨[(.pair (.int .i64) (.pair (.int .i64) (.pair (.slice (.int .i64)) (.slice (.slice (.int .i64)))))), (.pair (.int .i64) (.int .i64))], [], [(.slice (.int .i64))], fun x y => s110 n x.1 x.2, false⟩
theorem s110_eq (n : Nat) (x : denL [(.pair (.int .i64) (.pair (.int .i64) (.pair (.slice (.int .i64)) (.slice (.slice (.int .i64)))))), (.pair (.int .i64) (.int .i64))]) (y : denL []) : funR (e93 n) Go.Proofs.Try.f110 [(.pair (.int .i64) (.pair (.int .i64) (.pair (.slice (.int .i64)) (.slice (.slice (.int .i64)))))), (.pair (.int .i64) (.int .i64))] [] [(.slice (.int .i64))] false [s110_o0 n] x y = (s110_c n).fn x y := by kernel_rfl
theorem s110_ok (n : Nat) : ConOK Go.Proofs.Try.prog 110 (s110_c n) := func_ok (h93 n) hP Go.Proofs.Try.func110 (by kernel_rfl) (by kernel_rfl) (O := [s110_o0 n]) ⟨s110_s0 n, trivial⟩ (s110_eq n)
def e94 (n : Nat) : Env := ⟨gT, (110, s110_c n) :: (e93 n).C, gQ, (e93 n).I⟩
theorem h94 (n : Nat) : EnvOK Go.Proofs.Try.prog (e94 n) := env_add (h93 n) (s110_ok n)

/-- criadera/taste.Steadiest -/
def s51 (n : Nat) (p : Int × Int × (List Int) × (List (List Int))) (least : Int × Int) : Option ((List Int) × Int) :=
  (s89 n (p.1, (p.2.1, (p.2.2.1, p.2.2.2)))).bind fun x =>
  (s109 n (least.1, least.2)).bind fun x_1 =>
  (s80 n ([x.2, x_1] : List Int)).bind fun x_2 =>
  bif (x_2 != (0 : Int)) then
    some (([] : List Int), x_2)
  else
    (s110 n (x.1.1, (x.1.2.1, (x.1.2.2.1, x.1.2.2.2))) (least.1, least.2)).bind fun x_3 =>
    some (x_3, (0 : Int))

def s51_c (n : Nat) : Con := ⟨[(.pair (.int .i64) (.pair (.int .i64) (.pair (.slice (.int .i64)) (.slice (.slice (.int .i64)))))), (.pair (.int .i64) (.int .i64))], [], [(.slice (.int .i64)), (.int .i64)], fun x y => s51 n x.1 x.2, false⟩
theorem s51_eq (n : Nat) (x : denL [(.pair (.int .i64) (.pair (.int .i64) (.pair (.slice (.int .i64)) (.slice (.slice (.int .i64)))))), (.pair (.int .i64) (.int .i64))]) (y : denL []) : funR (e94 n) Go.Proofs.Try.f51 [(.pair (.int .i64) (.pair (.int .i64) (.pair (.slice (.int .i64)) (.slice (.slice (.int .i64)))))), (.pair (.int .i64) (.int .i64))] [] [(.slice (.int .i64)), (.int .i64)] false [] x y = (s51_c n).fn x y := by kernel_rfl
theorem s51_ok (n : Nat) : ConOK Go.Proofs.Try.prog 51 (s51_c n) := func_ok (h94 n) hP Go.Proofs.Try.func51 (by kernel_rfl) (by kernel_rfl) (O := []) trivial (s51_eq n)
def e95 (n : Nat) : Env := ⟨gT, (51, s51_c n) :: (e94 n).C, gQ, (e94 n).I⟩
theorem h95 (n : Nat) : EnvOK Go.Proofs.Try.prog (e95 n) := env_add (h94 n) (s51_ok n)

def s53_l0_0 (n : Nat) (d : (List Int) × Int × Int × Int × Int × (List Int) × (List (List Int)) × Int × Int × Int × Int × Unit) (again : ((List Int) × Int × Int × Int × Int × (List Int) × (List (List Int)) × Int × Int × Int × Int × Unit) → Option ((Int × Int))) (ks : ((List Int) × Int × Int × Int × (List Int) × (List (List Int)) × Int × Int × Int × Int × Unit → Option ((Int × Int))) × Unit) : Option ((Int × Int)) :=
  match d, ks with
  | (l, i, v_k, p, p_1, p_2, p_3, t4, t4_1, out, out_1, _), (k0, _) =>
  bif (decide (v_k < ((List.length l : Nat) : Int))) then
    (geti p_2 i).bind fun e =>
    (geti p_2 v_k).bind fun e_1 =>
    bif (e != e_1) then
      again (l, i, (IntKind.wrap .i64 (v_k + (1 : Int))), p, p_1, p_2, p_3, t4, t4_1, out, out_1, ())
    else
      (geti l i).bind fun e_2 =>
      (geti l v_k).bind fun e_3 =>
      bif (e_2 == e_3) then
        again (l, i, (IntKind.wrap .i64 (v_k + (1 : Int))), p, p_1, p_2, p_3, t4, t4_1, (IntKind.wrap .i64 (out + (1 : Int))), (IntKind.wrap .i64 (out_1 + (1 : Int))), ())
      else
        again (l, i, (IntKind.wrap .i64 (v_k + (1 : Int))), p, p_1, p_2, p_3, t4, t4_1, out, (IntKind.wrap .i64 (out_1 + (1 : Int))), ())
  else
    k0 (l, i, p, p_1, p_2, p_3, t4, t4_1, out, out_1, ())

def s53_l0 (n : Nat) (d : (List Int) × Int × Int × Int × (List Int) × (List (List Int)) × Int × Int × Int × Int × Unit) (again : ((List Int) × Int × Int × Int × (List Int) × (List (List Int)) × Int × Int × Int × Int × Unit) → Option ((Int × Int))) (ks : (Int × Int × Int × Int × Unit → Option ((Int × Int))) × Unit) : Option ((Int × Int)) :=
  match d, ks with
  | (l, i, p, p_1, p_2, p_3, t4, t4_1, out, out_1, _), (k0, _) =>
  bif (decide (i < ((List.length l : Nat) : Int))) then
    loopG (s53_l0_0 n) n (l, i, (IntKind.wrap .i64 (i + (1 : Int))), p, p_1, p_2, p_3, t4, t4_1, out, out_1, ())
      (fun (l_2, i_2, p_8, p_9, p_10, p_11, t4_4, t4_5, out_4, out_5, _) =>
        again (l_2, (IntKind.wrap .i64 (i_2 + (1 : Int))), p_8, p_9, p_10, p_11, t4_4, t4_5, out_4, out_5, ()), ())
  else
    k0 (t4, t4_1, out, out_1, ())

/-- criadera/criaderaref07.SteadyOf -/
def s53 (n : Nat) (p : Int × Int × (List Int) × (List (List Int))) (taster : Int) : Option ((Int × Int)) :=
  (geti p.2.2.2 taster).bind fun e =>
  loopG (s53_l0 n) n (e, (0 : Int), p.1, p.2.1, p.2.2.1, p.2.2.2, (0 : Int), (0 : Int), (0 : Int), (0 : Int), ())
    (fun (t4_6, t4_7, out_6, out_7, _) =>
      some ((out_6, out_7)), ())

def s53_t0_0 : Templ := ⟨57, [(.slice (.int .i64)), (.int .i64), (.int .i64), (.int .i64), (.int .i64), (.slice (.int .i64)), (.slice (.slice (.int .i64))), (.int .i64), (.int .i64), (.int .i64), (.int .i64)], [(2, .v (.bptr 57 0)), (4, .v (.bptr 58 0)), (5, .v (.bptr 59 0)), (6, .v (.hole (.slice (.int .i64)))), (7, .v (.hole (.int .i64))), (8, .v (.hole (.int .i64)))], [(57, .box (.pair (.int .i64) (.pair (.int .i64) (.pair (.slice (.int .i64)) (.slice (.slice (.int .i64)))))) [.hole (.int .i64), .hole (.int .i64), .hole (.slice (.int .i64)), .hole (.slice (.slice (.int .i64)))]), (58, .box (.pair (.int .i64) (.int .i64)) [.hole (.int .i64), .hole (.int .i64)]), (59, .box (.pair (.int .i64) (.int .i64)) [.hole (.int .i64), .hole (.int .i64)])], []⟩
def s53_x0_0 : List (Way × Templ) := [(.exit 2, ⟨57, [(.slice (.int .i64)), (.int .i64), (.int .i64), (.int .i64), (.slice (.int .i64)), (.slice (.slice (.int .i64))), (.int .i64), (.int .i64), (.int .i64), (.int .i64)], [(2, .v (.bptr 57 0)), (4, .v (.bptr 58 0)), (5, .v (.bptr 59 0)), (6, .v (.hole (.slice (.int .i64)))), (7, .v (.hole (.int .i64)))], [(57, .box (.pair (.int .i64) (.pair (.int .i64) (.pair (.slice (.int .i64)) (.slice (.slice (.int .i64)))))) [.hole (.int .i64), .hole (.int .i64), .hole (.slice (.int .i64)), .hole (.slice (.slice (.int .i64)))]), (58, .box (.pair (.int .i64) (.int .i64)) [.hole (.int .i64), .hole (.int .i64)]), (59, .box (.pair (.int .i64) (.int .i64)) [.hole (.int .i64), .hole (.int .i64)])], []⟩)]
def s53_o0_0 (n : Nat) : Ev (denL [(.pair (.int .i64) (.int .i64))]) := loopO n (e95 n) s53_t0_0 s53_x0_0 (s53_l0_0 n)
theorem s53_b0_0 (n : Nat) (d) (again) (ks) : codeR (R := (denL [(.pair (.int .i64) (.int .i64))])) (e95 n) (Hdl.no (R := (denL [(.pair (.int .i64) (.int .i64))]))) (inn (lp (inn (lp (bd Go.Proofs.Try.f53) 0)) 0)) [] (mk s53_t0_0 d) (turnR (e95 n) s53_t0_0 s53_x0_0 again ks) = s53_l0_0 n d again ks := by kernel_rfl
theorem s53_s0_0 (n : Nat) : Sound Go.Proofs.Try.prog (Hdl.no (R := (denL [(.pair (.int .i64) (.int .i64))]))) false (lp (inn (lp (bd Go.Proofs.Try.f53) 0)) 0) (s53_o0_0 n) := loop_ok (h95 n) hP (by kernel_rfl) (O := []) trivial (s53_b0_0 n)
def s53_t0 : Templ := ⟨57, [(.slice (.int .i64)), (.int .i64), (.int .i64), (.int .i64), (.slice (.int .i64)), (.slice (.slice (.int .i64))), (.int .i64), (.int .i64), (.int .i64), (.int .i64)], [(2, .v (.bptr 57 0)), (4, .v (.bptr 58 0)), (5, .v (.bptr 59 0)), (6, .v (.hole (.slice (.int .i64)))), (7, .v (.hole (.int .i64)))], [(57, .box (.pair (.int .i64) (.pair (.int .i64) (.pair (.slice (.int .i64)) (.slice (.slice (.int .i64)))))) [.hole (.int .i64), .hole (.int .i64), .hole (.slice (.int .i64)), .hole (.slice (.slice (.int .i64)))]), (58, .box (.pair (.int .i64) (.int .i64)) [.hole (.int .i64), .hole (.int .i64)]), (59, .box (.pair (.int .i64) (.int .i64)) [.hole (.int .i64), .hole (.int .i64)])], []⟩
def s53_x0 : List (Way × Templ) := [(.exit 0, ⟨57, [(.int .i64), (.int .i64), (.int .i64), (.int .i64)], [(4, .v (.bptr 57 0)), (5, .v (.bptr 58 0))], [(57, .box (.pair (.int .i64) (.int .i64)) [.hole (.int .i64), .hole (.int .i64)]), (58, .box (.pair (.int .i64) (.int .i64)) [.hole (.int .i64), .hole (.int .i64)])], []⟩)]
def s53_o0 (n : Nat) : Ev (denL [(.pair (.int .i64) (.int .i64))]) := loopO n (e95 n) s53_t0 s53_x0 (s53_l0 n)
theorem s53_b0 (n : Nat) (d) (again) (ks) : codeR (R := (denL [(.pair (.int .i64) (.int .i64))])) (e95 n) (Hdl.no (R := (denL [(.pair (.int .i64) (.int .i64))]))) (inn (lp (bd Go.Proofs.Try.f53) 0)) [s53_o0_0 n] (mk s53_t0 d) (turnR (e95 n) s53_t0 s53_x0 again ks) = s53_l0 n d again ks := by kernel_rfl
theorem s53_s0 (n : Nat) : Sound Go.Proofs.Try.prog (Hdl.no (R := (denL [(.pair (.int .i64) (.int .i64))]))) false (lp (bd Go.Proofs.Try.f53) 0) (s53_o0 n) := loop_ok (h95 n) hP (by kernel_rfl) (O := [s53_o0_0 n]) ⟨s53_s0_0 n, trivial⟩ (s53_b0 n)
def s53_c (n : Nat) : Con := ⟨[(.pair (.int .i64) (.pair (.int .i64) (.pair (.slice (.int .i64)) (.slice (.slice (.int .i64)))))), (.int .i64)], [], [(.pair (.int .i64) (.int .i64))], fun x y => s53 n x.1 x.2, false⟩
theorem s53_eq (n : Nat) (x : denL [(.pair (.int .i64) (.pair (.int .i64) (.pair (.slice (.int .i64)) (.slice (.slice (.int .i64)))))), (.int .i64)]) (y : denL []) : funR (e95 n) Go.Proofs.Try.f53 [(.pair (.int .i64) (.pair (.int .i64) (.pair (.slice (.int .i64)) (.slice (.slice (.int .i64)))))), (.int .i64)] [] [(.pair (.int .i64) (.int .i64))] false [s53_o0 n] x y = (s53_c n).fn x y := by kernel_rfl
theorem s53_ok (n : Nat) : ConOK Go.Proofs.Try.prog 53 (s53_c n) := func_ok (h95 n) hP Go.Proofs.Try.func53 (by kernel_rfl) (by kernel_rfl) (O := [s53_o0 n]) ⟨s53_s0 n, trivial⟩ (s53_eq n)
def e96 (n : Nat) : Env := ⟨gT, (53, s53_c n) :: (e95 n).C, gQ, (e95 n).I⟩
theorem h96 (n : Nat) : EnvOK Go.Proofs.Try.prog (e96 n) := env_add (h95 n) (s53_ok n)

/-- criadera/criaderabase.IsLowest -/
def s111 (n : Nat) (f : Int × Int) : Option (Bool) :=
  (part (decide (f.2 > (0 : Int))) (s133 n f.1 f.2) (0 : Int)).bind fun x =>
  some (((decide (f.2 > (0 : Int))) && (x == (1 : Int))))

def s111_c (n : Nat) : Con := ⟨[(.pair (.int .i64) (.int .i64))], [], [.bool], fun x y => s111 n x, false⟩
theorem s111_eq (n : Nat) (x : denL [(.pair (.int .i64) (.int .i64))]) (y : denL []) : funR (e96 n) Go.Proofs.Try.f111 [(.pair (.int .i64) (.int .i64))] [] [.bool] false [] x y = (s111_c n).fn x y := by kernel_rfl
theorem s111_ok (n : Nat) : ConOK Go.Proofs.Try.prog 111 (s111_c n) := func_ok (h96 n) hP Go.Proofs.Try.func111 (by kernel_rfl) (by kernel_rfl) (O := []) trivial (s111_eq n)
def e97 (n : Nat) : Env := ⟨gT, (111, s111_c n) :: (e96 n).C, gQ, (e96 n).I⟩
theorem h97 (n : Nat) : EnvOK Go.Proofs.Try.prog (e97 n) := env_add (h96 n) (s111_ok n)

/-- criadera/criaderaref07.ShareErr -/
def s54 (n : Nat) (f : Int × Int) : Option (Int) :=
  (s111 n (f.1, f.2)).bind fun x =>
  bif (!x) then
    some ((3 : Int))
  else
    bif (((decide (f.1 < (0 : Int))) || (decide (f.1 > f.2))) || (decide (f.2 > (1000000000 : Int)))) then
      some ((2 : Int))
    else
      some ((0 : Int))

def s54_c (n : Nat) : Con := ⟨[(.pair (.int .i64) (.int .i64))], [], [(.int .i64)], fun x y => s54 n x, false⟩
theorem s54_eq (n : Nat) (x : denL [(.pair (.int .i64) (.int .i64))]) (y : denL []) : funR (e97 n) Go.Proofs.Try.f54 [(.pair (.int .i64) (.int .i64))] [] [(.int .i64)] false [] x y = (s54_c n).fn x y := by kernel_rfl
theorem s54_ok (n : Nat) : ConOK Go.Proofs.Try.prog 54 (s54_c n) := func_ok (h97 n) hP Go.Proofs.Try.func54 (by kernel_rfl) (by kernel_rfl) (O := []) trivial (s54_eq n)
def e98 (n : Nat) : Env := ⟨gT, (54, s54_c n) :: (e97 n).C, gQ, (e97 n).I⟩
theorem h98 (n : Nat) : EnvOK Go.Proofs.Try.prog (e98 n) := env_add (h97 n) (s54_ok n)

def s55_l0 (n : Nat) (d : Int × Int × Int × (List Int) × (List (List Int)) × Int × Int × (List Int) × Unit) (again : (Int × Int × Int × (List Int) × (List (List Int)) × Int × Int × (List Int) × Unit) → Option ((List Int))) (ks : ((List Int) × Unit → Option ((List Int))) × Unit) : Option ((List Int)) :=
  match d, ks with
  | (i, p, p_1, p_2, p_3, least, least_1, out, _), (k0, _) =>
  bif (decide (i < ((List.length p_3 : Nat) : Int))) then
    (s53 n (p, (p_1, (p_2, p_3))) i).bind fun x =>
    bif (decide ((IntKind.wrap .i64 (x.1 * least_1)) ≥ (IntKind.wrap .i64 (least * x.2)))) then
      (chk (List.length out + List.length ([i] : List Int))).bind fun u =>
      again ((IntKind.wrap .i64 (i + (1 : Int))), p, p_1, p_2, p_3, least, least_1, (out ++ ([i] : List Int)), ())
    else
      again ((IntKind.wrap .i64 (i + (1 : Int))), p, p_1, p_2, p_3, least, least_1, out, ())
  else
    k0 (out, ())

/-- criadera/criaderaref07.Steadiest -/
def s55 (n : Nat) (p : Int × Int × (List Int) × (List (List Int))) (least : Int × Int) : Option ((List Int)) :=
  loopG (s55_l0 n) n ((0 : Int), p.1, p.2.1, p.2.2.1, p.2.2.2, least.1, least.2, ([] : List Int), ())
    (fun (out_1, _) =>
      some (out_1), ())

def s55_t0 : Templ := ⟨34, [(.int .i64), (.int .i64), (.int .i64), (.slice (.int .i64)), (.slice (.slice (.int .i64))), (.int .i64), (.int .i64), (.slice (.int .i64))], [(2, .v (.bptr 34 0)), (3, .v (.bptr 35 0)), (5, .v (.hand 36)), (6, .v (.hole (.int .i64)))], [(34, .box (.pair (.int .i64) (.pair (.int .i64) (.pair (.slice (.int .i64)) (.slice (.slice (.int .i64)))))) [.hole (.int .i64), .hole (.int .i64), .hole (.slice (.int .i64)), .hole (.slice (.slice (.int .i64)))]), (35, .box (.pair (.int .i64) (.int .i64)) [.hole (.int .i64), .hole (.int .i64)]), (36, .buf (.int .i64))], []⟩
def s55_x0 : List (Way × Templ) := [(.exit 0, ⟨34, [(.slice (.int .i64))], [(5, .v (.hand 34))], [(34, .buf (.int .i64))], []⟩)]
def s55_o0 (n : Nat) : Ev (denL [(.slice (.int .i64))]) := loopO n (e98 n) s55_t0 s55_x0 (s55_l0 n)
theorem s55_b0 (n : Nat) (d) (again) (ks) : codeR (R := (denL [(.slice (.int .i64))])) (e98 n) (Hdl.no (R := (denL [(.slice (.int .i64))]))) (inn (lp (bd Go.Proofs.Try.f55) 0)) [] (mk s55_t0 d) (turnR (e98 n) s55_t0 s55_x0 again ks) = s55_l0 n d again ks := by kernel_rfl
theorem s55_s0 (n : Nat) : Sound Go.Proofs.Try.prog (Hdl.no (R := (denL [(.slice (.int .i64))]))) false (lp (bd Go.Proofs.Try.f55) 0) (s55_o0 n) := loop_ok (h98 n) hP (by kernel_rfl) (O := []) trivial (s55_b0 n)
def s55_c (n : Nat) : Con := ⟨[(.pair (.int .i64) (.pair (.int .i64) (.pair (.slice (.int .i64)) (.slice (.slice (.int .i64)))))), (.pair (.int .i64) (.int .i64))], [], [(.slice (.int .i64))], fun x y => s55 n x.1 x.2, false⟩
theorem s55_eq (n : Nat) (x : denL [(.pair (.int .i64) (.pair (.int .i64) (.pair (.slice (.int .i64)) (.slice (.slice (.int .i64)))))), (.pair (.int .i64) (.int .i64))]) (y : denL []) : funR (e98 n) Go.Proofs.Try.f55 [(.pair (.int .i64) (.pair (.int .i64) (.pair (.slice (.int .i64)) (.slice (.slice (.int .i64)))))), (.pair (.int .i64) (.int .i64))] [] [(.slice (.int .i64))] false [s55_o0 n] x y = (s55_c n).fn x y := by kernel_rfl
theorem s55_ok (n : Nat) : ConOK Go.Proofs.Try.prog 55 (s55_c n) := func_ok (h98 n) hP Go.Proofs.Try.func55 (by kernel_rfl) (by kernel_rfl) (O := [s55_o0 n]) ⟨s55_s0 n, trivial⟩ (s55_eq n)
def e99 (n : Nat) : Env := ⟨gT, (55, s55_c n) :: (e98 n).C, gQ, (e98 n).I⟩
theorem h99 (n : Nat) : EnvOK Go.Proofs.Try.prog (e99 n) := env_add (h98 n) (s55_ok n)

/-- criadera/criaderalaw07.TastePanels -/
def s9 (n : Nat) (p : Int × Int × (List Int) × (List (List Int))) (taster : Int) (least : Int × Int) : Option (Bool) :=
  (s15 n).bind fun x =>
  bif (!x) then
    some (false)
  else
    (s24 n (p.1, (p.2.1, (p.2.2.1, p.2.2.2)))).bind fun x_1 =>
    bif (!x_1) then
      some (true)
    else
      (s26 n (p.1, (p.2.1, (p.2.2.1, p.2.2.2)))).bind fun x_2 =>
      (s50 n (x_2.1, (x_2.2.1, (x_2.2.2.1, x_2.2.2.2)))).bind fun x_3 =>
      (s26 n (p.1, (p.2.1, (p.2.2.1, p.2.2.2)))).bind fun x_4 =>
      (s35 n (x_4.1, (x_4.2.1, (x_4.2.2.1, x_4.2.2.2))) taster).bind fun x_5 =>
      (s26 n (p.1, (p.2.1, (p.2.2.1, p.2.2.2)))).bind fun x_6 =>
      (s51 n (x_6.1, (x_6.2.1, (x_6.2.2.1, x_6.2.2.2))) (least.1, least.2)).bind fun x_7 =>
      (s52 n (p.1, (p.2.1, (p.2.2.1, p.2.2.2)))).bind fun x_8 =>
      bif ((x_3.2 != x_8.2) || (x_3.1 != x_8.1)) then
        some (false)
      else
        bif (x_8.2 != (0 : Int)) then
          some (((((x_5.2 == x_8.2) && (x_7.2 == x_8.2)) && ((x_5.1.1 == (0 : Int)) && (x_5.1.2 == (0 : Int)))) && (((List.length x_7.1 : Nat) : Int) == (0 : Int))))
        else
          (s30 n taster ((List.length p.2.2.2 : Nat) : Int)).bind fun x_9 =>
          (part (((!((x_9 != (0 : Int)) && ((x_5.2 != x_9) || (!((x_5.1.1 == (0 : Int)) && (x_5.1.2 == (0 : Int))))))) && (x_9 == (0 : Int))) && (!(x_5.2 != (0 : Int)))) (s53 n (p.1, (p.2.1, (p.2.2.1, p.2.2.2))) taster) ((0 : Int), (0 : Int))).bind fun x_10 =>
          bif (((x_9 != (0 : Int)) && ((x_5.2 != x_9) || (!((x_5.1.1 == (0 : Int)) && (x_5.1.2 == (0 : Int)))))) || ((x_9 == (0 : Int)) && ((x_5.2 != (0 : Int)) || (!((x_5.1.1 == x_10.1) && (x_5.1.2 == x_10.2)))))) then
            some (false)
          else
            (s54 n (least.1, least.2)).bind fun x_11 =>
            bif (x_11 != (0 : Int)) then
              some (((x_7.2 == x_11) && (((List.length x_7.1 : Nat) : Int) == (0 : Int))))
            else
              (part (x_7.2 == (0 : Int)) (s55 n (p.1, (p.2.1, (p.2.2.1, p.2.2.2))) (least.1, least.2)) []).bind fun x_12 =>
              (part (x_7.2 == (0 : Int)) (s32 n x_7.1 x_12) false).bind fun x_13 =>
              some (((x_7.2 == (0 : Int)) && x_13))

def s9_c (n : Nat) : Con := ⟨[(.pair (.int .i64) (.pair (.int .i64) (.pair (.slice (.int .i64)) (.slice (.slice (.int .i64)))))), (.int .i64), (.pair (.int .i64) (.int .i64))], [], [.bool], fun x y => s9 n x.1 x.2.1 x.2.2, false⟩
theorem s9_eq (n : Nat) (x : denL [(.pair (.int .i64) (.pair (.int .i64) (.pair (.slice (.int .i64)) (.slice (.slice (.int .i64)))))), (.int .i64), (.pair (.int .i64) (.int .i64))]) (y : denL []) : funR (e99 n) Go.Proofs.Try.f9 [(.pair (.int .i64) (.pair (.int .i64) (.pair (.slice (.int .i64)) (.slice (.slice (.int .i64)))))), (.int .i64), (.pair (.int .i64) (.int .i64))] [] [.bool] false [] x y = (s9_c n).fn x y := by kernel_rfl
theorem s9_ok (n : Nat) : ConOK Go.Proofs.Try.prog 9 (s9_c n) := func_ok (h99 n) hP Go.Proofs.Try.func9 (by kernel_rfl) (by kernel_rfl) (O := []) trivial (s9_eq n)
def e100 (n : Nat) : Env := ⟨gT, (9, s9_c n) :: (e99 n).C, gQ, (e99 n).I⟩
theorem h100 (n : Nat) : EnvOK Go.Proofs.Try.prog (e100 n) := env_add (h99 n) (s9_ok n)

def s56_l0 (n : Nat) (d : (List Int) × Int × Int × Int × Int × (List Int) × (List (List Int)) × (List Int) × Unit) (again : ((List Int) × Int × Int × Int × Int × (List Int) × (List (List Int)) × (List Int) × Unit) → Option ((List Int) × Int)) (ks : ((List Int) × Unit → Option ((List Int) × Int)) × Unit) : Option ((List Int) × Int) :=
  match d, ks with
  | (tasters, t28, t29, t6, t6_1, t6_2, t6_3, out, _), (k0, _) =>
  bif (decide (t29 < t28)) then
    (s88 n (t6, (t6_1, (t6_2, t6_3))) t29 tasters).bind fun x =>
    (chk (List.length out + List.length ([x] : List Int))).bind fun u =>
    again (tasters, t28, (IntKind.wrap .i64 (t29 + (1 : Int))), t6, t6_1, t6_2, t6_3, (out ++ ([x] : List Int)), ())
  else
    k0 (out, ())

/-- criadera/taste.Marked -/
def s56 (n : Nat) (p : Int × Int × (List Int) × (List (List Int))) (least : Int × Int) : Option ((List Int) × Int) :=
  (s89 n (p.1, (p.2.1, (p.2.2.1, p.2.2.2)))).bind fun x =>
  (s109 n (least.1, least.2)).bind fun x_1 =>
  (s80 n ([x.2, x_1] : List Int)).bind fun x_2 =>
  bif (x_2 != (0 : Int)) then
    some (([] : List Int), x_2)
  else
    (s110 n (x.1.1, (x.1.2.1, (x.1.2.2.1, x.1.2.2.2))) (least.1, least.2)).bind fun x_3 =>
    loopG (s56_l0 n) n (x_3, p.1, (0 : Int), x.1.1, x.1.2.1, x.1.2.2.1, x.1.2.2.2, ([] : List Int), ())
      (fun (out_1, _) =>
        some (out_1, (0 : Int)), ())

def s56_t0 : Templ := ⟨41, [(.slice (.int .i64)), (.int .i64), (.int .i64), (.int .i64), (.int .i64), (.slice (.int .i64)), (.slice (.slice (.int .i64))), (.slice (.int .i64))], [(6, .v (.bptr 41 0)), (8, .v (.hole (.slice (.int .i64)))), (9, .v (.hand 42)), (28, .v (.hole (.int .i64))), (29, .v (.hole (.int .i64)))], [(41, .box (.pair (.int .i64) (.pair (.int .i64) (.pair (.slice (.int .i64)) (.slice (.slice (.int .i64)))))) [.hole (.int .i64), .hole (.int .i64), .hole (.slice (.int .i64)), .hole (.slice (.slice (.int .i64)))]), (42, .buf (.int .i64))], []⟩
def s56_x0 : List (Way × Templ) := [(.exit 0, ⟨41, [(.slice (.int .i64))], [(9, .v (.hand 41))], [(41, .buf (.int .i64))], []⟩)]
def s56_o0 (n : Nat) : Ev (denL [(.slice (.int .i64)), (.int .i64)]) := loopO n (e100 n) s56_t0 s56_x0 (s56_l0 n)
theorem s56_b0 (n : Nat) (d) (again) (ks) : codeR (R := (denL [(.slice (.int .i64)), (.int .i64)])) (e100 n) (Hdl.no (R := (denL [(.slice (.int .i64)), (.int .i64)]))) (inn (lp (bd Go.Proofs.Try.f56) 0)) [] (mk s56_t0 d) (turnR (e100 n) s56_t0 s56_x0 again ks) = s56_l0 n d again ks := by kernel_rfl
theorem s56_s0 (n : Nat) : Sound Go.Proofs.Try.prog (Hdl.no (R := (denL [(.slice (.int .i64)), (.int .i64)]))) false (lp (bd Go.Proofs.Try.f56) 0) (s56_o0 n) := loop_ok (h100 n) hP (by kernel_rfl) (O := []) trivial (s56_b0 n)
def s56_c (n : Nat) : Con := ⟨[(.pair (.int .i64) (.pair (.int .i64) (.pair (.slice (.int .i64)) (.slice (.slice (.int .i64)))))), (.pair (.int .i64) (.int .i64))], [], [(.slice (.int .i64)), (.int .i64)], fun x y => s56 n x.1 x.2, false⟩
theorem s56_eq (n : Nat) (x : denL [(.pair (.int .i64) (.pair (.int .i64) (.pair (.slice (.int .i64)) (.slice (.slice (.int .i64)))))), (.pair (.int .i64) (.int .i64))]) (y : denL []) : funR (e100 n) Go.Proofs.Try.f56 [(.pair (.int .i64) (.pair (.int .i64) (.pair (.slice (.int .i64)) (.slice (.slice (.int .i64)))))), (.pair (.int .i64) (.int .i64))] [] [(.slice (.int .i64)), (.int .i64)] false [s56_o0 n] x y = (s56_c n).fn x y := by kernel_rfl
theorem s56_ok (n : Nat) : ConOK Go.Proofs.Try.prog 56 (s56_c n) := func_ok (h100 n) hP Go.Proofs.Try.func56 (by kernel_rfl) (by kernel_rfl) (O := [s56_o0 n]) ⟨s56_s0 n, trivial⟩ (s56_eq n)
def e101 (n : Nat) : Env := ⟨gT, (56, s56_c n) :: (e100 n).C, gQ, (e100 n).I⟩
theorem h101 (n : Nat) : EnvOK Go.Proofs.Try.prog (e101 n) := env_add (h100 n) (s56_ok n)

def s57_l0 (n : Nat) (d : (List Int) × Int × Int × Int × (List Int) × (List (List Int)) × (List Int) × Unit) (again : ((List Int) × Int × Int × Int × (List Int) × (List (List Int)) × (List Int) × Unit) → Option ((List Int))) (ks : ((List Int) × Unit → Option ((List Int))) × Unit) : Option ((List Int)) :=
  match d, ks with
  | (l, c, p, p_1, p_2, p_3, out, _), (k0, _) =>
  bif (decide (c < p)) then
    (s34 n (p, (p_1, (p_2, p_3))) c l).bind fun x =>
    (chk (List.length out + List.length ([x] : List Int))).bind fun u =>
    again (l, (IntKind.wrap .i64 (c + (1 : Int))), p, p_1, p_2, p_3, (out ++ ([x] : List Int)), ())
  else
    k0 (out, ())

/-- criadera/criaderaref07.Marked -/
def s57 (n : Nat) (p : Int × Int × (List Int) × (List (List Int))) (least : Int × Int) : Option ((List Int)) :=
  (s55 n (p.1, (p.2.1, (p.2.2.1, p.2.2.2))) (least.1, least.2)).bind fun x =>
  loopG (s57_l0 n) n (x, (0 : Int), p.1, p.2.1, p.2.2.1, p.2.2.2, ([] : List Int), ())
    (fun (out_1, _) =>
      some (out_1), ())

def s57_t0 : Templ := ⟨25, [(.slice (.int .i64)), (.int .i64), (.int .i64), (.int .i64), (.slice (.int .i64)), (.slice (.slice (.int .i64))), (.slice (.int .i64))], [(2, .v (.bptr 25 0)), (5, .v (.hand 26)), (6, .v (.hole (.slice (.int .i64)))), (7, .v (.hole (.int .i64)))], [(25, .box (.pair (.int .i64) (.pair (.int .i64) (.pair (.slice (.int .i64)) (.slice (.slice (.int .i64)))))) [.hole (.int .i64), .hole (.int .i64), .hole (.slice (.int .i64)), .hole (.slice (.slice (.int .i64)))]), (26, .buf (.int .i64))], []⟩
def s57_x0 : List (Way × Templ) := [(.exit 0, ⟨25, [(.slice (.int .i64))], [(5, .v (.hand 25))], [(25, .buf (.int .i64))], []⟩)]
def s57_o0 (n : Nat) : Ev (denL [(.slice (.int .i64))]) := loopO n (e101 n) s57_t0 s57_x0 (s57_l0 n)
theorem s57_b0 (n : Nat) (d) (again) (ks) : codeR (R := (denL [(.slice (.int .i64))])) (e101 n) (Hdl.no (R := (denL [(.slice (.int .i64))]))) (inn (lp (bd Go.Proofs.Try.f57) 0)) [] (mk s57_t0 d) (turnR (e101 n) s57_t0 s57_x0 again ks) = s57_l0 n d again ks := by kernel_rfl
theorem s57_s0 (n : Nat) : Sound Go.Proofs.Try.prog (Hdl.no (R := (denL [(.slice (.int .i64))]))) false (lp (bd Go.Proofs.Try.f57) 0) (s57_o0 n) := loop_ok (h101 n) hP (by kernel_rfl) (O := []) trivial (s57_b0 n)
def s57_c (n : Nat) : Con := ⟨[(.pair (.int .i64) (.pair (.int .i64) (.pair (.slice (.int .i64)) (.slice (.slice (.int .i64)))))), (.pair (.int .i64) (.int .i64))], [], [(.slice (.int .i64))], fun x y => s57 n x.1 x.2, false⟩
theorem s57_eq (n : Nat) (x : denL [(.pair (.int .i64) (.pair (.int .i64) (.pair (.slice (.int .i64)) (.slice (.slice (.int .i64)))))), (.pair (.int .i64) (.int .i64))]) (y : denL []) : funR (e101 n) Go.Proofs.Try.f57 [(.pair (.int .i64) (.pair (.int .i64) (.pair (.slice (.int .i64)) (.slice (.slice (.int .i64)))))), (.pair (.int .i64) (.int .i64))] [] [(.slice (.int .i64))] false [s57_o0 n] x y = (s57_c n).fn x y := by kernel_rfl
theorem s57_ok (n : Nat) : ConOK Go.Proofs.Try.prog 57 (s57_c n) := func_ok (h101 n) hP Go.Proofs.Try.func57 (by kernel_rfl) (by kernel_rfl) (O := [s57_o0 n]) ⟨s57_s0 n, trivial⟩ (s57_eq n)
def e102 (n : Nat) : Env := ⟨gT, (57, s57_c n) :: (e101 n).C, gQ, (e101 n).I⟩
theorem h102 (n : Nat) : EnvOK Go.Proofs.Try.prog (e102 n) := env_add (h101 n) (s57_ok n)

/-- criadera/criaderabase.Cmp -/
def s58 (n : Nat) (a : Int × Int) (b : Int × Int) : Option (Int) :=
  bif (decide ((IntKind.wrap .i64 (a.1 * b.2)) < (IntKind.wrap .i64 (b.1 * a.2)))) then
    some ((-1 : Int))
  else
    bif (decide ((IntKind.wrap .i64 (a.1 * b.2)) > (IntKind.wrap .i64 (b.1 * a.2)))) then
      some ((1 : Int))
    else
      some ((0 : Int))

def s58_c (n : Nat) : Con := ⟨[(.pair (.int .i64) (.int .i64)), (.pair (.int .i64) (.int .i64))], [], [(.int .i64)], fun x y => s58 n x.1 x.2, false⟩
theorem s58_eq (n : Nat) (x : denL [(.pair (.int .i64) (.int .i64)), (.pair (.int .i64) (.int .i64))]) (y : denL []) : funR (e102 n) Go.Proofs.Try.f58 [(.pair (.int .i64) (.int .i64)), (.pair (.int .i64) (.int .i64))] [] [(.int .i64)] false [] x y = (s58_c n).fn x y := by kernel_rfl
theorem s58_ok (n : Nat) : ConOK Go.Proofs.Try.prog 58 (s58_c n) := func_ok (h102 n) hP Go.Proofs.Try.func58 (by kernel_rfl) (by kernel_rfl) (O := []) trivial (s58_eq n)
def e103 (n : Nat) : Env := ⟨gT, (58, s58_c n) :: (e102 n).C, gQ, (e102 n).I⟩
theorem h103 (n : Nat) : EnvOK Go.Proofs.Try.prog (e103 n) := env_add (h102 n) (s58_ok n)

def s59_l0 (n : Nat) (d : (List Int) × Int × Int × Unit) (again : ((List Int) × Int × Int × Unit) → Option (Bool)) (ks : (Unit → Option (Bool)) × (Bool × Unit → Option (Bool)) × Unit) : Option (Bool) :=
  match d, ks with
  | (l, v_n, i, _), (k0, k1, _) =>
  bif (decide (i < ((List.length l : Nat) : Int))) then
    (geti l i).bind fun e =>
    bif (e == v_n) then
      k1 (true, ())
    else
      again (l, v_n, (IntKind.wrap .i64 (i + (1 : Int))), ())
  else
    k0 (())

/-- criadera/criaderabase.Has -/
def s59 (n : Nat) (l : List Int) (v_n : Int) : Option (Bool) :=
  loopG (s59_l0 n) n (l, v_n, (0 : Int), ())
    (fun (_) =>
      some (false),
    fun (t4, _) =>
      some (t4), ())

def s59_t0 : Templ := ⟨18, [(.slice (.int .i64)), (.int .i64), (.int .i64)], [(0, .v (.hole (.slice (.int .i64)))), (1, .v (.hole (.int .i64))), (5, .v (.hole (.int .i64)))], [], []⟩
def s59_x0 : List (Way × Templ) := [(.exit 0, ⟨18, [], [], [], []⟩), (.ret, ⟨18, [.bool], [(4, .v (.hole .bool))], [], []⟩)]
def s59_o0 (n : Nat) : Ev (denL [.bool]) := loopO n (e103 n) s59_t0 s59_x0 (s59_l0 n)
theorem s59_b0 (n : Nat) (d) (again) (ks) : codeR (R := (denL [.bool])) (e103 n) (Hdl.no (R := (denL [.bool]))) (inn (lp (bd Go.Proofs.Try.f59) 0)) [] (mk s59_t0 d) (turnR (e103 n) s59_t0 s59_x0 again ks) = s59_l0 n d again ks := by kernel_rfl
theorem s59_s0 (n : Nat) : Sound Go.Proofs.Try.prog (Hdl.no (R := (denL [.bool]))) false (lp (bd Go.Proofs.Try.f59) 0) (s59_o0 n) := loop_ok (h103 n) hP (by kernel_rfl) (O := []) trivial (s59_b0 n)
def s59_c (n : Nat) : Con := ⟨[(.slice (.int .i64)), (.int .i64)], [], [.bool], fun x y => s59 n x.1 x.2, false⟩
theorem s59_eq (n : Nat) (x : denL [(.slice (.int .i64)), (.int .i64)]) (y : denL []) : funR (e103 n) Go.Proofs.Try.f59 [(.slice (.int .i64)), (.int .i64)] [] [.bool] false [s59_o0 n] x y = (s59_c n).fn x y := by kernel_rfl
theorem s59_ok (n : Nat) : ConOK Go.Proofs.Try.prog 59 (s59_c n) := func_ok (h103 n) hP Go.Proofs.Try.func59 (by kernel_rfl) (by kernel_rfl) (O := [s59_o0 n]) ⟨s59_s0 n, trivial⟩ (s59_eq n)
def e104 (n : Nat) : Env := ⟨gT, (59, s59_c n) :: (e103 n).C, gQ, (e103 n).I⟩
theorem h104 (n : Nat) : EnvOK Go.Proofs.Try.prog (e104 n) := env_add (h103 n) (s59_ok n)

def s10_l0 (n : Nat) (d : (List Int) × (List Int) × Int × Unit) (again : ((List Int) × (List Int) × Int × Unit) → Option (Bool)) (ks : (Unit → Option (Bool)) × (Bool × Unit → Option (Bool)) × Unit) : Option (Bool) :=
  match d, ks with
  | (a, b, i, _), (k0, k1, _) =>
  bif (decide (i < ((List.length b : Nat) : Int))) then
    (geti b i).bind fun e =>
    (s59 n a e).bind fun x =>
    bif (!x) then
      k1 (false, ())
    else
      again (a, b, (IntKind.wrap .i64 (i + (1 : Int))), ())
  else
    k0 (())

/-- criadera/criaderalaw07.TasteMarked -/
def s10 (n : Nat) (p : Int × Int × (List Int) × (List (List Int))) (least : Int × Int) (more : Int × Int) : Option (Bool) :=
  (s15 n).bind fun x =>
  bif (!x) then
    some (false)
  else
    (s24 n (p.1, (p.2.1, (p.2.2.1, p.2.2.2)))).bind fun x_1 =>
    bif (!x_1) then
      some (true)
    else
      (s26 n (p.1, (p.2.1, (p.2.2.1, p.2.2.2)))).bind fun x_2 =>
      (s56 n (x_2.1, (x_2.2.1, (x_2.2.2.1, x_2.2.2.2))) (least.1, least.2)).bind fun x_3 =>
      (s29 n (p.1, (p.2.1, (p.2.2.1, p.2.2.2)))).bind fun x_4 =>
      bif (x_4 == (0 : Int)) then
        (s54 n (least.1, least.2)).bind fun x_5 =>
        bif (x_5 != (0 : Int)) then
          some (((x_3.2 == x_5) && (((List.length x_3.1 : Nat) : Int) == (0 : Int))))
        else
          (part (!(x_3.2 != (0 : Int))) (s57 n (p.1, (p.2.1, (p.2.2.1, p.2.2.2))) (least.1, least.2)) []).bind fun x_6 =>
          (part (!(x_3.2 != (0 : Int))) (s32 n x_3.1 x_6) false).bind fun x_7 =>
          bif ((x_3.2 != (0 : Int)) || (!x_7)) then
            some (false)
          else
            (s54 n (more.1, more.2)).bind fun x_8 =>
            (part (!(x_8 != (0 : Int))) (s58 n (more.1, more.2) (least.1, least.2)) (0 : Int)).bind fun x_9 =>
            bif ((x_8 != (0 : Int)) || (decide (x_9 < (0 : Int)))) then
              some (true)
            else
              (s26 n (p.1, (p.2.1, (p.2.2.1, p.2.2.2)))).bind fun x_10 =>
              (s51 n (x_10.1, (x_10.2.1, (x_10.2.2.1, x_10.2.2.2))) (least.1, least.2)).bind fun x_11 =>
              (s26 n (p.1, (p.2.1, (p.2.2.1, p.2.2.2)))).bind fun x_12 =>
              (s51 n (x_12.1, (x_12.2.1, (x_12.2.2.1, x_12.2.2.2))) (more.1, more.2)).bind fun x_13 =>
              bif ((x_11.2 != (0 : Int)) || (x_13.2 != (0 : Int))) then
                some (false)
              else
                loopG (s10_l0 n) n (x_11.1, x_13.1, (0 : Int), ())
                  (fun (_) =>
                    some (true),
                  fun (t6, _) =>
                    some (t6), ())
      else
        bif (x_4 != (0 : Int)) then
          some (((x_3.2 == x_4) && (((List.length x_3.1 : Nat) : Int) == (0 : Int))))
        else
          (part (!(x_3.2 != (0 : Int))) (s57 n (p.1, (p.2.1, (p.2.2.1, p.2.2.2))) (least.1, least.2)) []).bind fun x_15 =>
          (part (!(x_3.2 != (0 : Int))) (s32 n x_3.1 x_15) false).bind fun x_16 =>
          bif ((x_3.2 != (0 : Int)) || (!x_16)) then
            some (false)
          else
            (s54 n (more.1, more.2)).bind fun x_17 =>
            (part (!(x_17 != (0 : Int))) (s58 n (more.1, more.2) (least.1, least.2)) (0 : Int)).bind fun x_18 =>
            bif ((x_17 != (0 : Int)) || (decide (x_18 < (0 : Int)))) then
              some (true)
            else
              (s26 n (p.1, (p.2.1, (p.2.2.1, p.2.2.2)))).bind fun x_19 =>
              (s51 n (x_19.1, (x_19.2.1, (x_19.2.2.1, x_19.2.2.2))) (least.1, least.2)).bind fun x_20 =>
              (s26 n (p.1, (p.2.1, (p.2.2.1, p.2.2.2)))).bind fun x_21 =>
              (s51 n (x_21.1, (x_21.2.1, (x_21.2.2.1, x_21.2.2.2))) (more.1, more.2)).bind fun x_22 =>
              bif ((x_20.2 != (0 : Int)) || (x_22.2 != (0 : Int))) then
                some (false)
              else
                loopG (s10_l0 n) n (x_20.1, x_22.1, (0 : Int), ())
                  (fun (_) =>
                    some (true),
                  fun (t6_1, _) =>
                    some (t6_1), ())

def s10_t0 : Templ := ⟨95, [(.slice (.int .i64)), (.slice (.int .i64)), (.int .i64)], [(10, .v (.hole (.slice (.int .i64)))), (12, .v (.hole (.slice (.int .i64)))), (14, .v (.hole (.int .i64)))], [], []⟩
def s10_x0 : List (Way × Templ) := [(.exit 0, ⟨95, [], [], [], []⟩), (.ret, ⟨95, [.bool], [(6, .v (.hole .bool))], [], []⟩)]
def s10_o0 (n : Nat) : Ev (denL [.bool]) := loopO n (e104 n) s10_t0 s10_x0 (s10_l0 n)
theorem s10_b0 (n : Nat) (d) (again) (ks) : codeR (R := (denL [.bool])) (e104 n) (Hdl.no (R := (denL [.bool]))) (inn (lp (bd Go.Proofs.Try.f10) 0)) [] (mk s10_t0 d) (turnR (e104 n) s10_t0 s10_x0 again ks) = s10_l0 n d again ks := by kernel_rfl
theorem s10_s0 (n : Nat) : Sound Go.Proofs.Try.prog (Hdl.no (R := (denL [.bool]))) false (lp (bd Go.Proofs.Try.f10) 0) (s10_o0 n) := loop_ok (h104 n) hP (by kernel_rfl) (O := []) trivial (s10_b0 n)
def s10_c (n : Nat) : Con := ⟨[(.pair (.int .i64) (.pair (.int .i64) (.pair (.slice (.int .i64)) (.slice (.slice (.int .i64)))))), (.pair (.int .i64) (.int .i64)), (.pair (.int .i64) (.int .i64))], [], [.bool], fun x y => s10 n x.1 x.2.1 x.2.2, false⟩
theorem s10_eq (n : Nat) (x : denL [(.pair (.int .i64) (.pair (.int .i64) (.pair (.slice (.int .i64)) (.slice (.slice (.int .i64)))))), (.pair (.int .i64) (.int .i64)), (.pair (.int .i64) (.int .i64))]) (y : denL []) : funR (e104 n) Go.Proofs.Try.f10 [(.pair (.int .i64) (.pair (.int .i64) (.pair (.slice (.int .i64)) (.slice (.slice (.int .i64)))))), (.pair (.int .i64) (.int .i64)), (.pair (.int .i64) (.int .i64))] [] [.bool] false [s10_o0 n] x y = (s10_c n).fn x y := by kernel_rfl
theorem s10_ok (n : Nat) : ConOK Go.Proofs.Try.prog 10 (s10_c n) := func_ok (h104 n) hP Go.Proofs.Try.func10 (by kernel_rfl) (by kernel_rfl) (O := [s10_o0 n]) ⟨s10_s0 n, trivial⟩ (s10_eq n)
def e105 (n : Nat) : Env := ⟨gT, (10, s10_c n) :: (e104 n).C, gQ, (e104 n).I⟩
theorem h105 (n : Nat) : EnvOK Go.Proofs.Try.prog (e105 n) := env_add (h104 n) (s10_ok n)

/-- criadera/criaderatop.tasted -/
def s71 (n : Nat) : Option (Bool) :=
  (s77 n).bind fun x =>
  (s41 n x ([98, 117, 116, 116], ([(1 : Int), (1 : Int), (0 : Int)] : List Int))).bind fun x_1 =>
  (s78 n).bind fun x_2 =>
  (s28 n x_2 (1 : Int) ([(0 : Int), (1 : Int)] : List Int)).bind fun x_3 =>
  some (((((x_1.2 == (0 : Int)) && ((x_1.1 : List UInt8) == [111, 108, 111, 114, 111, 115, 111])) && (x_3.2 == (0 : Int))) && (x_3.1 == (1 : Int))))

def s71_c (n : Nat) : Con := ⟨[], [], [.bool], fun x y => s71 n, false⟩
theorem s71_eq (n : Nat) (x : denL []) (y : denL []) : funR (e105 n) Go.Proofs.Try.f71 [] [] [.bool] false [] x y = (s71_c n).fn x y := by kernel_rfl
theorem s71_ok (n : Nat) : ConOK Go.Proofs.Try.prog 71 (s71_c n) := func_ok (h105 n) hP Go.Proofs.Try.func71 (by kernel_rfl) (by kernel_rfl) (O := []) trivial (s71_eq n)
def e106 (n : Nat) : Env := ⟨gT, (71, s71_c n) :: (e105 n).C, gQ, (e105 n).I⟩
theorem h106 (n : Nat) : EnvOK Go.Proofs.Try.prog (e106 n) := env_add (h105 n) (s71_ok n)

def s13_l0 (n : Nat) (d : (List Int) × Int × (List (List UInt8)) × Int × (List ((List UInt8) × (List Int) × (List (List UInt8)))) × Unit) (again : ((List Int) × Int × (List (List UInt8)) × Int × (List ((List UInt8) × (List Int) × (List (List UInt8)))) × Unit) → Option (Bool)) (ks : (Unit → Option (Bool)) × (Bool × Unit → Option (Bool)) × Unit) : Option (Bool) :=
  match d, ks with
  | (l, i, b, b_1, b_2, _), (k0, k1, _) =>
  bif (decide (i < ((List.length l : Nat) : Int))) then
    (geti l i).bind fun e =>
    bif (decide (e < (0 : Int))) then
      again (l, (IntKind.wrap .i64 (i + (1 : Int))), b, b_1, b_2, ())
    else
      (s21 n (b, (b_1, b_2))).bind fun x =>
      (geti l i).bind fun e_1 =>
      (geti l i).bind fun e_2 =>
      (s41 n x ([98, 117, 116, 116], ([e_1, e_2] : List Int))).bind fun x_1 =>
      (s21 n (b, (b_1, b_2))).bind fun x_2 =>
      (geti l i).bind fun e_3 =>
      (geti l i).bind fun e_4 =>
      (s38 n x_2 ([e_3, e_4] : List Int)).bind fun x_3 =>
      (part (!(((x_1.2 != (0 : Int)) || (x_3.2 != (0 : Int))) || (((List.length x_3.1 : Nat) : Int) != (3 : Int)))) (geti x_3.1 (2 : Int)) (0 : Int)).bind fun e_5 =>
      (part (!(((x_1.2 != (0 : Int)) || (x_3.2 != (0 : Int))) || (((List.length x_3.1 : Nat) : Int) != (3 : Int)))) (s19 n e_5 (0 : Int) (IntKind.wrap .i64 (((List.length b_2 : Nat) : Int) - (1 : Int)))) false).bind fun x_4 =>
      (part (!((((x_1.2 != (0 : Int)) || (x_3.2 != (0 : Int))) || (((List.length x_3.1 : Nat) : Int) != (3 : Int))) || (!x_4))) (geti x_3.1 (2 : Int)) (0 : Int)).bind fun e_6 =>
      (part (!((((x_1.2 != (0 : Int)) || (x_3.2 != (0 : Int))) || (((List.length x_3.1 : Nat) : Int) != (3 : Int))) || (!x_4))) (geti b_2 e_6) ([], ([], []))).bind fun e_7 =>
      bif (((((x_1.2 != (0 : Int)) || (x_3.2 != (0 : Int))) || (((List.length x_3.1 : Nat) : Int) != (3 : Int))) || (!x_4)) || ((x_1.1 : List UInt8) != e_7.1)) then
        k1 (false, ())
      else
        again (l, (IntKind.wrap .i64 (i + (1 : Int))), b, b_1, b_2, ())
  else
    k0 (())

/-- criadera/criaderatop.TopTasteMarked -/
def s13 (n : Nat) (b : (List (List UInt8)) × Int × (List ((List UInt8) × (List Int) × (List (List UInt8))))) (p : Int × Int × (List Int) × (List (List Int))) : Option (Bool) :=
  (s71 n).bind fun x =>
  bif (!x) then
    some (false)
  else
    (s16 n (b.1, (b.2.1, b.2.2))).bind fun x_1 =>
    (part (!(((!x_1) || (decide (((List.length p.2.2.1 : Nat) : Int) > (8 : Int)))) || (decide (((List.length p.2.2.2 : Nat) : Int) > (4 : Int))))) (s17 n (b.1, (b.2.1, b.2.2))) (0 : Int)).bind fun x_2 =>
    (part (!((((!x_1) || (decide (((List.length p.2.2.1 : Nat) : Int) > (8 : Int)))) || (decide (((List.length p.2.2.2 : Nat) : Int) > (4 : Int)))) || (x_2 != (0 : Int)))) (s29 n (p.1, (p.2.1, (p.2.2.1, p.2.2.2)))) (0 : Int)).bind fun x_3 =>
    bif ((((((!x_1) || (decide (((List.length p.2.2.1 : Nat) : Int) > (8 : Int)))) || (decide (((List.length p.2.2.2 : Nat) : Int) > (4 : Int)))) || (x_2 != (0 : Int))) || (x_3 != (0 : Int))) || (p.2.1 != ((List.length b.1 : Nat) : Int))) then
      some (true)
    else
      (s26 n (p.1, (p.2.1, (p.2.2.1, p.2.2.2)))).bind fun x_4 =>
      (s56 n (x_4.1, (x_4.2.1, (x_4.2.2.1, x_4.2.2.2))) ((0 : Int), (1 : Int))).bind fun x_5 =>
      bif ((x_5.2 != (0 : Int)) || (((List.length x_5.1 : Nat) : Int) != p.1)) then
        some (false)
      else
        (s26 n (p.1, (p.2.1, (p.2.2.1, p.2.2.2)))).bind fun x_6 =>
        (s72 n p.2.2.2).bind fun x_7 =>
        (chk (List.length x_6.2.2.2 + List.length x_7)).bind fun u =>
        (s56 n (x_6.1, (x_6.2.1, (x_6.2.2.1, (x_6.2.2.2 ++ x_7)))) ((0 : Int), (1 : Int))).bind fun x_8 =>
        (part (!(x_8.2 != (0 : Int))) (s32 n x_5.1 x_8.1) false).bind fun x_9 =>
        bif ((x_8.2 != (0 : Int)) || (!x_9)) then
          some (false)
        else
          loopG (s13_l0 n) n (x_5.1, (0 : Int), b.1, b.2.1, b.2.2, ())
            (fun (_) =>
              some (true),
            fun (t4, _) =>
              some (t4), ())

def s13_t0 : Templ := ⟨165, [(.slice (.int .i64)), (.int .i64), (.slice .str), (.int .i64), (.slice (.pair .str (.pair (.slice (.int .i64)) (.slice .str))))], [(2, .v (.bptr 165 0)), (5, .v (.hole (.slice (.int .i64)))), (10, .v (.hole (.int .i64)))], [(165, .box (.pair (.slice .str) (.pair (.int .i64) (.slice (.pair .str (.pair (.slice (.int .i64)) (.slice .str)))))) [.hole (.slice .str), .hole (.int .i64), .hole (.slice (.pair .str (.pair (.slice (.int .i64)) (.slice .str))))])], []⟩
def s13_x0 : List (Way × Templ) := [(.exit 0, ⟨165, [], [], [], []⟩), (.ret, ⟨165, [.bool], [(4, .v (.hole .bool))], [], []⟩)]
def s13_o0 (n : Nat) : Ev (denL [.bool]) := loopO n (e106 n) s13_t0 s13_x0 (s13_l0 n)
theorem s13_b0 (n : Nat) (d) (again) (ks) : codeR (R := (denL [.bool])) (e106 n) (Hdl.no (R := (denL [.bool]))) (inn (lp (bd Go.Proofs.Try.f13) 0)) [] (mk s13_t0 d) (turnR (e106 n) s13_t0 s13_x0 again ks) = s13_l0 n d again ks := by kernel_rfl
theorem s13_s0 (n : Nat) : Sound Go.Proofs.Try.prog (Hdl.no (R := (denL [.bool]))) false (lp (bd Go.Proofs.Try.f13) 0) (s13_o0 n) := loop_ok (h106 n) hP (by kernel_rfl) (O := []) trivial (s13_b0 n)
def s13_c (n : Nat) : Con := ⟨[(.pair (.slice .str) (.pair (.int .i64) (.slice (.pair .str (.pair (.slice (.int .i64)) (.slice .str)))))), (.pair (.int .i64) (.pair (.int .i64) (.pair (.slice (.int .i64)) (.slice (.slice (.int .i64))))))], [], [.bool], fun x y => s13 n x.1 x.2, false⟩
theorem s13_eq (n : Nat) (x : denL [(.pair (.slice .str) (.pair (.int .i64) (.slice (.pair .str (.pair (.slice (.int .i64)) (.slice .str)))))), (.pair (.int .i64) (.pair (.int .i64) (.pair (.slice (.int .i64)) (.slice (.slice (.int .i64))))))]) (y : denL []) : funR (e106 n) Go.Proofs.Try.f13 [(.pair (.slice .str) (.pair (.int .i64) (.slice (.pair .str (.pair (.slice (.int .i64)) (.slice .str)))))), (.pair (.int .i64) (.pair (.int .i64) (.pair (.slice (.int .i64)) (.slice (.slice (.int .i64))))))] [] [.bool] false [s13_o0 n] x y = (s13_c n).fn x y := by kernel_rfl
theorem s13_ok (n : Nat) : ConOK Go.Proofs.Try.prog 13 (s13_c n) := func_ok (h106 n) hP Go.Proofs.Try.func13 (by kernel_rfl) (by kernel_rfl) (O := [s13_o0 n]) ⟨s13_s0 n, trivial⟩ (s13_eq n)
def e107 (n : Nat) : Env := ⟨gT, (13, s13_c n) :: (e106 n).C, gQ, (e106 n).I⟩
theorem h107 (n : Nat) : EnvOK Go.Proofs.Try.prog (e107 n) := env_add (h106 n) (s13_ok n)


end Go.Abs
