/- Functions of the program as plain Lean functions, and that each call does what its function says. Printed by a program of ours. No condition but those that each theorem names. -/
import Derived.Test.YtbcbiemjokpghaaProg
import Derived.Test.YtbcbiemjokpghaaL3
set_option linter.unusedVariables false
namespace Go.Abs
open Go

def gT : List (Nat × TyE) := [(3, ⟨(.int .i64), 0, false⟩), (4, ⟨.bool, 0, false⟩), (5, ⟨(.int .u8), 0, false⟩), (9, ⟨.str, 0, false⟩), (22, ⟨(.slice .str), 0, false⟩), (23, ⟨(.slice (.pair .str (.pair (.slice (.int .i64)) (.slice .str)))), 0, false⟩), (25, ⟨(.pair (.slice .str) (.pair (.int .i64) (.slice (.pair .str (.pair (.slice (.int .i64)) (.slice .str)))))), 3, false⟩), (26, ⟨(.slice (.int .i64)), 0, false⟩), (32, ⟨(.int .i64), 0, false⟩), (38, ⟨(.slice (.slice (.int .i64))), 0, false⟩), (40, ⟨(.pair (.int .i64) (.pair (.int .i64) (.pair (.slice (.int .i64)) (.slice (.slice (.int .i64)))))), 4, false⟩), (48, ⟨(.fn2 (.int .i64) (.int .i64) (.int .i64)), 0, false⟩), (54, ⟨(.pair (.int .i64) (.int .i64)), 2, false⟩), (66, ⟨(.pair .str (.slice (.int .i64))), 2, false⟩), (74, ⟨(.pair .str (.pair (.slice (.int .i64)) (.slice .str))), 3, false⟩), (116, ⟨(.pair (.slice .str) (.pair (.int .i64) (.slice (.pair .str (.pair (.slice (.int .i64)) (.slice .str)))))), 1, false⟩), (121, ⟨(.seq (.pair (.int .i64) (.slice (.int .i64)))), 0, false⟩), (124, ⟨(.pair (.int .i64) (.slice (.int .i64))), 2, false⟩), (127, ⟨(.pair (.int .i64) (.pair (.int .i64) (.pair (.slice (.int .i64)) (.slice (.slice (.int .i64)))))), 1, false⟩), (136, ⟨(.fn1 (.int .i64) .bool), 0, false⟩), (139, ⟨(.fn1 .str .bool), 0, false⟩), (148, ⟨(.pair (.int .i64) (.int .i64)), 2, true⟩), (149, ⟨(.fn2 (.pair (.int .i64) (.int .i64)) (.int .i64) (.pair (.int .i64) (.int .i64))), 0, false⟩), (150, ⟨(.seq (.pair (.pair (.int .i64) (.int .i64)) (.slice (.int .i64)))), 0, false⟩), (153, ⟨(.pair (.pair (.int .i64) (.int .i64)) (.slice (.int .i64))), 2, false⟩), (155, ⟨(.slice (.pair (.int .i64) (.int .i64))), 0, false⟩), (157, ⟨(.map (.int .i64) (.int .i64)), 0, false⟩), (161, ⟨(.slice .bool), 0, false⟩), (165, ⟨(.slice (.int .i64)), 0, false⟩), (170, ⟨(.slice (.int .u8)), 0, false⟩), (172, ⟨(.map (.pair (.int .i64) (.int .i64)) .bool), 0, false⟩), (173, ⟨(.slice (.pair (.pair (.int .i64) (.int .i64)) (.slice (.int .i64)))), 0, false⟩), (176, ⟨(.fn2 (.int .i64) (.int .i64) .bool), 0, false⟩), (178, ⟨(.map (.int .i64) .bool), 0, false⟩), (179, ⟨(.slice (.pair (.int .i64) (.slice (.int .i64)))), 0, false⟩)]
def gQ : List (Nat × Ty) := [(54, (.pair (.int .i64) (.int .i64))), (148, (.pair (.int .i64) (.int .i64)))]
theorem q54 : EqOK Go.Proofs.Try.prog 54 (.pair (.int .i64) (.int .i64)) := eqOK_gen (d := 40) (by decide) (by kernel_rfl) rfl (by kernel_rfl)
theorem q148 : EqOK Go.Proofs.Try.prog 148 (.pair (.int .i64) (.int .i64)) := eqOK_gen (d := 40) (by decide) (by kernel_rfl) rfl (by kernel_rfl)
def e0 (n : Nat) : Env := ⟨gT, [], gQ, [], [], [], [], []⟩
theorem hP : Go.Proofs.Try.prog.follows .mixedOrders = true := by kernel_rfl
theorem h0 (n : Nat) : EnvOK Go.Proofs.Try.prog (e0 n) := env_eq (env_eq (env_nil (by kernel_rfl)) q148) q54

/-- criadera/criaderalaw07.Rules -/
def s77 (n : Nat) : Option (((List (List UInt8)) × Int × (List ((List UInt8) × (List Int) × (List (List UInt8)))))) :=
  some ((([[114, 97, 121, 97], [112, 97, 108, 109, 97]] : List (List UInt8)), ((0 : Int), ([([109, 111, 115, 116, 111], (([(1 : Int), (2 : Int)] : List Int), ([[102, 97, 116], [116, 104, 105, 110]] : List (List UInt8)))), ([111, 108, 111, 114, 111, 115, 111], (([(1 : Int), (1 : Int)] : List Int), ([[107, 101, 101, 112], [107, 101, 101, 112]] : List (List UInt8)))), ([102, 105, 110, 111], (([(1 : Int), (2 : Int)] : List Int), ([[102, 97, 108, 108, 101, 110], [107, 101, 101, 112]] : List (List UInt8))))] : List ((List UInt8) × (List Int) × (List (List UInt8)))))))

def s77_c (n : Nat) : Con := ⟨[], [], [(.pair (.slice .str) (.pair (.int .i64) (.slice (.pair .str (.pair (.slice (.int .i64)) (.slice .str))))))], fun x y => s77 n, false⟩
theorem s77_eq (n : Nat) (x : denL []) (y : denL []) : funR (e0 n) Go.Proofs.Try.f77 [] [] [(.pair (.slice .str) (.pair (.int .i64) (.slice (.pair .str (.pair (.slice (.int .i64)) (.slice .str))))))] false [] x y = (s77_c n).fn x y := by kernel_rfl
theorem s77_ok (n : Nat) : ConOK Go.Proofs.Try.prog 77 (s77_c n) := func_ok (h0 n) hP Go.Proofs.Try.func77 (by kernel_rfl) (by kernel_rfl) (O := []) trivial (s77_eq n)
def e1 (n : Nat) : Env := ⟨gT, (77, s77_c n) :: (e0 n).C, gQ, (e0 n).I, (e0 n).M, (e0 n).S, (e0 n).D, []⟩
theorem h1 (n : Nat) : EnvOK Go.Proofs.Try.prog (e1 n) := env_add (h0 n) (s77_ok n)

/-- criadera/taste.unless -/
def s81 (n : Nat) (ok : Bool) (e : Int) : Option (Int) :=
  bif ok then
    some ((0 : Int))
  else
    some (e)

def s81_c (n : Nat) : Con := ⟨[.bool, (.int .i64)], [], [(.int .i64)], fun x y => s81 n x.1 x.2, false⟩
theorem s81_eq (n : Nat) (x : denL [.bool, (.int .i64)]) (y : denL []) : funR (e1 n) Go.Proofs.Try.f81 [.bool, (.int .i64)] [] [(.int .i64)] false [] x y = (s81_c n).fn x y := by kernel_rfl
theorem s81_ok (n : Nat) : ConOK Go.Proofs.Try.prog 81 (s81_c n) := func_ok (h1 n) hP Go.Proofs.Try.func81 (by kernel_rfl) (by kernel_rfl) (O := []) trivial (s81_eq n)
def e2 (n : Nat) : Env := ⟨gT, (81, s81_c n) :: (e1 n).C, gQ, (e1 n).I, (e1 n).M, (e1 n).S, (e1 n).D, []⟩
theorem h2 (n : Nat) : EnvOK Go.Proofs.Try.prog (e2 n) := env_add (h1 n) (s81_ok n)

def s80_l0 (n : Nat) (d : (List Int) × Int × Int × Unit) (again : ((List Int) × Int × Int × Unit) → Option (Int)) (ks : (Unit → Option (Int)) × (Int × Unit → Option (Int)) × Unit) : Option (Int) :=
  match d, ks with
  | (t5, t6, t7, _), (k0, k1, _) =>
  bif (decide (t7 < t6)) then
    (geti t5 t7).bind fun e =>
    bif (e != (0 : Int)) then
      k1 (e, ())
    else
      again (t5, t6, (IntKind.wrap .i64 (t7 + (1 : Int))), ())
  else
    k0 (())

/-- criadera/taste.first -/
def s80 (n : Nat) (l : List Int) : Option (Int) :=
  loopG (s80_l0 n) n (l, ((List.length l : Nat) : Int), (0 : Int), ())
    (fun (_) =>
      some ((0 : Int)),
    fun (t2, _) =>
      some (t2), ())

def s80_t0 : Templ := ⟨15, [(.slice (.int .i64)), (.int .i64), (.int .i64)], [(5, .v (.hole (.slice (.int .i64)))), (6, .v (.hole (.int .i64))), (7, .v (.hole (.int .i64)))], [], []⟩
def s80_x0 : List (Way × Templ) := [(.exit 0, ⟨15, [], [], [], []⟩), (.ret, ⟨15, [(.int .i64)], [(2, .v (.hole (.int .i64)))], [], []⟩)]
def s80_o0 (n : Nat) : Ev (denL [(.int .i64)]) := loopO n (e2 n) s80_t0 s80_x0 (s80_l0 n)
theorem s80_b0 (n : Nat) (d) (again) (ks) : codeR (R := (denL [(.int .i64)])) (e2 n) (Hdl.no (R := (denL [(.int .i64)]))) (inn (lp (bd Go.Proofs.Try.f80) 0)) [] (mk s80_t0 d) (turnR (e2 n) s80_t0 s80_x0 again ks) = s80_l0 n d again ks := by kernel_rfl
theorem s80_s0 (n : Nat) : Sound Go.Proofs.Try.prog (Hdl.no (R := (denL [(.int .i64)]))) false (lp (bd Go.Proofs.Try.f80) 0) (s80_o0 n) := loop_ok (h2 n) hP (by kernel_rfl) (O := []) trivial (s80_b0 n)
def s80_c (n : Nat) : Con := ⟨[(.slice (.int .i64))], [], [(.int .i64)], fun x y => s80 n x, false⟩
theorem s80_eq (n : Nat) (x : denL [(.slice (.int .i64))]) (y : denL []) : funR (e2 n) Go.Proofs.Try.f80 [(.slice (.int .i64))] [] [(.int .i64)] false [s80_o0 n] x y = (s80_c n).fn x y := by kernel_rfl
theorem s80_ok (n : Nat) : ConOK Go.Proofs.Try.prog 80 (s80_c n) := func_ok (h2 n) hP Go.Proofs.Try.func80 (by kernel_rfl) (by kernel_rfl) (O := [s80_o0 n]) ⟨s80_s0 n, trivial⟩ (s80_eq n)
def e3 (n : Nat) : Env := ⟨gT, (80, s80_c n) :: (e2 n).C, gQ, (e2 n).I, (e2 n).M, (e2 n).S, (e2 n).D, []⟩
theorem h3 (n : Nat) : EnvOK Go.Proofs.Try.prog (e3 n) := env_add (h2 n) (s80_ok n)

def s98_l0 (n : Nat) (d : (List UInt8) × (List Int) × Int × Int × Unit) (again : ((List UInt8) × (List Int) × Int × Int × Unit) → Option (Bool)) (ks : ((List UInt8) × Unit → Option (Bool)) × (Bool × Unit → Option (Bool)) × Unit) : Option (Bool) :=
  match d, ks with
  | (s, t7, t8, t9, _), (k0, k1, _) =>
  bif (decide (t9 < t8)) then
    (geti t7 t9).bind fun e =>
    bif ((!(((decide (e ≥ (97 : Int))) && (decide (e ≤ (122 : Int)))) || ((decide (e ≥ (65 : Int))) && (decide (e ≤ (90 : Int)))))) && ((t9 == (0 : Int)) || ((e != (45 : Int)) && ((decide (e < (48 : Int))) || (decide (e > (57 : Int))))))) then
      k1 (false, ())
    else
      again (s, t7, t8, (IntKind.wrap .i64 (t9 + (1 : Int))), ())
  else
    k0 (s, ())

/-- criadera/taste.isName -/
def s98 (n : Nat) (s : List UInt8) : Option (Bool) :=
  loopG (s98_l0 n) n (s, (bytesOf s), ((List.length (bytesOf s) : Nat) : Int), (0 : Int), ())
    (fun (s_2, _) =>
      some ((((s_2 : List UInt8) != []) && (decide (((List.length s_2 : Nat) : Int) ≤ (12 : Int))))),
    fun (t2, _) =>
      some (t2), ())

def s98_t0 : Templ := ⟨54, [.str, (.slice (.int .u8)), (.int .i64), (.int .i64)], [(0, .v (.hole .str)), (7, .v (.hole (.slice (.int .u8)))), (8, .v (.hole (.int .i64))), (9, .v (.hole (.int .i64)))], [], []⟩
def s98_x0 : List (Way × Templ) := [(.exit 0, ⟨54, [.str], [(0, .v (.hole .str))], [], []⟩), (.ret, ⟨54, [.bool], [(2, .v (.hole .bool))], [], []⟩)]
def s98_o0 (n : Nat) : Ev (denL [.bool]) := loopO n (e3 n) s98_t0 s98_x0 (s98_l0 n)
theorem s98_b0 (n : Nat) (d) (again) (ks) : codeR (R := (denL [.bool])) (e3 n) (Hdl.no (R := (denL [.bool]))) (inn (lp (bd Go.Proofs.Try.f98) 0)) [] (mk s98_t0 d) (turnR (e3 n) s98_t0 s98_x0 again ks) = s98_l0 n d again ks := by kernel_rfl
theorem s98_s0 (n : Nat) : Sound Go.Proofs.Try.prog (Hdl.no (R := (denL [.bool]))) false (lp (bd Go.Proofs.Try.f98) 0) (s98_o0 n) := loop_ok (h3 n) hP (by kernel_rfl) (O := []) trivial (s98_b0 n)
def s98_c (n : Nat) : Con := ⟨[.str], [], [.bool], fun x y => s98 n x, false⟩
theorem s98_eq (n : Nat) (x : denL [.str]) (y : denL []) : funR (e3 n) Go.Proofs.Try.f98 [.str] [] [.bool] false [s98_o0 n] x y = (s98_c n).fn x y := by kernel_rfl
theorem s98_ok (n : Nat) : ConOK Go.Proofs.Try.prog 98 (s98_c n) := func_ok (h3 n) hP Go.Proofs.Try.func98 (by kernel_rfl) (by kernel_rfl) (O := [s98_o0 n]) ⟨s98_s0 n, trivial⟩ (s98_eq n)
def e4 (n : Nat) : Env := ⟨gT, (98, s98_c n) :: (e3 n).C, gQ, (e3 n).I, (e3 n).M, (e3 n).S, (e3 n).D, []⟩
theorem h4 (n : Nat) : EnvOK Go.Proofs.Try.prog (e4 n) := env_add (h3 n) (s98_ok n)

def s143_l0 (n : Nat) (d : (List (List UInt8)) × (List UInt8) × Int × Int × Unit) (again : ((List (List UInt8)) × (List UInt8) × Int × Int × Unit) → Option (Int)) (ks : (Unit → Option (Int)) × (Int × Unit → Option (Int)) × Unit) : Option (Int) :=
  match d, ks with
  | (s, v, t7, t8, _), (k0, k1, _) =>
  bif (decide (t8 < t7)) then
    (geti s t8).bind fun e =>
    bif ((v : List UInt8) == e) then
      k1 (t8, ())
    else
      again (s, v, t7, (IntKind.wrap .i64 (t8 + (1 : Int))), ())
  else
    k0 (())

/-- slices.Index[[]string,string] -/
def s143 (n : Nat) (s : List (List UInt8)) (v : List UInt8) : Option (Int) :=
  loopG (s143_l0 n) n (s, v, ((List.length s : Nat) : Int), (0 : Int), ())
    (fun (_) =>
      some ((-1 : Int)),
    fun (t4, _) =>
      some (t4), ())

def s143_t0 : Templ := ⟨19, [(.slice .str), .str, (.int .i64), (.int .i64)], [(0, .v (.hole (.slice .str))), (1, .v (.hole .str)), (7, .v (.hole (.int .i64))), (8, .v (.hole (.int .i64)))], [], []⟩
def s143_x0 : List (Way × Templ) := [(.exit 0, ⟨19, [], [], [], []⟩), (.ret, ⟨19, [(.int .i64)], [(4, .v (.hole (.int .i64)))], [], []⟩)]
def s143_o0 (n : Nat) : Ev (denL [(.int .i64)]) := loopO n (e4 n) s143_t0 s143_x0 (s143_l0 n)
theorem s143_b0 (n : Nat) (d) (again) (ks) : codeR (R := (denL [(.int .i64)])) (e4 n) (Hdl.no (R := (denL [(.int .i64)]))) (inn (lp (bd Go.Proofs.Try.f143) 0)) [] (mk s143_t0 d) (turnR (e4 n) s143_t0 s143_x0 again ks) = s143_l0 n d again ks := by kernel_rfl
theorem s143_s0 (n : Nat) : Sound Go.Proofs.Try.prog (Hdl.no (R := (denL [(.int .i64)]))) false (lp (bd Go.Proofs.Try.f143) 0) (s143_o0 n) := loop_ok (h4 n) hP (by kernel_rfl) (O := []) trivial (s143_b0 n)
def s143_c (n : Nat) : Con := ⟨[(.slice .str), .str], [], [(.int .i64)], fun x y => s143 n x.1 x.2, false⟩
theorem s143_eq (n : Nat) (x : denL [(.slice .str), .str]) (y : denL []) : funR (e4 n) Go.Proofs.Try.f143 [(.slice .str), .str] [] [(.int .i64)] false [s143_o0 n] x y = (s143_c n).fn x y := by kernel_rfl
theorem s143_ok (n : Nat) : ConOK Go.Proofs.Try.prog 143 (s143_c n) := func_ok (h4 n) hP Go.Proofs.Try.func143 (by kernel_rfl) (by kernel_rfl) (O := [s143_o0 n]) ⟨s143_s0 n, trivial⟩ (s143_eq n)
def e5 (n : Nat) : Env := ⟨gT, (143, s143_c n) :: (e4 n).C, gQ, (e4 n).I, (e4 n).M, (e4 n).S, (e4 n).D, []⟩
theorem h5 (n : Nat) : EnvOK Go.Proofs.Try.prog (e5 n) := env_add (h4 n) (s143_ok n)

/-- slices.Contains[[]string,string] -/
def s129 (n : Nat) (s : List (List UInt8)) (v : List UInt8) : Option (Bool) :=
  (s143 n s v).bind fun x =>
  some ((decide (x ≥ (0 : Int))))

def s129_c (n : Nat) : Con := ⟨[(.slice .str), .str], [], [.bool], fun x y => s129 n x.1 x.2, false⟩
theorem s129_eq (n : Nat) (x : denL [(.slice .str), .str]) (y : denL []) : funR (e5 n) Go.Proofs.Try.f129 [(.slice .str), .str] [] [.bool] false [] x y = (s129_c n).fn x y := by kernel_rfl
theorem s129_ok (n : Nat) : ConOK Go.Proofs.Try.prog 129 (s129_c n) := func_ok (h5 n) hP Go.Proofs.Try.func129 (by kernel_rfl) (by kernel_rfl) (O := []) trivial (s129_eq n)
def e6 (n : Nat) : Env := ⟨gT, (129, s129_c n) :: (e5 n).C, gQ, (e5 n).I, (e5 n).M, (e5 n).S, (e5 n).D, []⟩
theorem h6 (n : Nat) : EnvOK Go.Proofs.Try.prog (e6 n) := env_add (h5 n) (s129_ok n)

/-- criadera/taste.nameErr -/
def s92 (n : Nat) (name : List UInt8) (others : List (List UInt8)) : Option (Int) :=
  (s98 n name).bind fun x =>
  (s81 n x (4 : Int)).bind fun x_1 =>
  (s129 n others name).bind fun x_2 =>
  (s81 n (!x_2) (5 : Int)).bind fun x_3 =>
  (s80 n ([x_1, x_3] : List Int)).bind fun x_4 =>
  some (x_4)

def s92_c (n : Nat) : Con := ⟨[.str, (.slice .str)], [], [(.int .i64)], fun x y => s92 n x.1 x.2, false⟩
theorem s92_eq (n : Nat) (x : denL [.str, (.slice .str)]) (y : denL []) : funR (e6 n) Go.Proofs.Try.f92 [.str, (.slice .str)] [] [(.int .i64)] false [] x y = (s92_c n).fn x y := by kernel_rfl
theorem s92_ok (n : Nat) : ConOK Go.Proofs.Try.prog 92 (s92_c n) := func_ok (h6 n) hP Go.Proofs.Try.func92 (by kernel_rfl) (by kernel_rfl) (O := []) trivial (s92_eq n)
def e7 (n : Nat) : Env := ⟨gT, (92, s92_c n) :: (e6 n).C, gQ, (e6 n).I, (e6 n).M, (e6 n).S, (e6 n).D, []⟩
theorem h7 (n : Nat) : EnvOK Go.Proofs.Try.prog (e7 n) := env_add (h6 n) (s92_ok n)

/-- criadera/taste.within -/
def s82 (n : Nat) (v_n : Int) (lo : Int) (hi : Int) : Option (Bool) :=
  some (((decide (lo ≤ v_n)) && (decide (v_n ≤ hi))))

def s82_c (n : Nat) : Con := ⟨[(.int .i64), (.int .i64), (.int .i64)], [], [.bool], fun x y => s82 n x.1 x.2.1 x.2.2, false⟩
theorem s82_eq (n : Nat) (x : denL [(.int .i64), (.int .i64), (.int .i64)]) (y : denL []) : funR (e7 n) Go.Proofs.Try.f82 [(.int .i64), (.int .i64), (.int .i64)] [] [.bool] false [] x y = (s82_c n).fn x y := by kernel_rfl
theorem s82_ok (n : Nat) : ConOK Go.Proofs.Try.prog 82 (s82_c n) := func_ok (h7 n) hP Go.Proofs.Try.func82 (by kernel_rfl) (by kernel_rfl) (O := []) trivial (s82_eq n)
def e8 (n : Nat) : Env := ⟨gT, (82, s82_c n) :: (e7 n).C, gQ, (e7 n).I, (e7 n).M, (e7 n).S, (e7 n).D, []⟩
theorem h8 (n : Nat) : EnvOK Go.Proofs.Try.prog (e8 n) := env_add (h7 n) (s82_ok n)

/-- criadera/taste.CheckBook$1 -/
def s93 (n : Nat) (v_n : Int) (c0 : Int) : Option (Bool) :=
  (s82 n v_n (0 : Int) (IntKind.wrap .i64 (c0 - (1 : Int)))).bind fun x =>
  some (x)

def s93_c (n : Nat) : Con := ⟨[(.int .i64)], [(.int .i64)], [.bool], fun x y => s93 n x y, false⟩
theorem s93_eq (n : Nat) (x : denL [(.int .i64)]) (y : denL [(.int .i64)]) : funR (e8 n) Go.Proofs.Try.f93 [(.int .i64)] [(.int .i64)] [.bool] false [] x y = (s93_c n).fn x y := by kernel_rfl
theorem s93_ok (n : Nat) : ConOK Go.Proofs.Try.prog 93 (s93_c n) := func_ok (h8 n) hP Go.Proofs.Try.func93 (by kernel_rfl) (by kernel_rfl) (O := []) trivial (s93_eq n)
def e9 (n : Nat) : Env := ⟨gT, (93, s93_c n) :: (e8 n).C, gQ, (e8 n).I, (e8 n).M, (e8 n).S, (e8 n).D, []⟩
theorem h9 (n : Nat) : EnvOK Go.Proofs.Try.prog (e9 n) := env_add (h8 n) (s93_ok n)

/-- criadera/taste.CheckBook$2 -/
def s95 (n : Nat) (v_n : Int) (c0 : Int → Option Bool) : Option (Bool) :=
  (c0 v_n).bind fun x =>
  some ((!x))

def s95_c (n : Nat) : Con := ⟨[(.int .i64)], [(.fn1 (.int .i64) .bool)], [.bool], fun x y => s95 n x y, false⟩
theorem s95_eq (n : Nat) (x : denL [(.int .i64)]) (y : denL [(.fn1 (.int .i64) .bool)]) : funR (e9 n) Go.Proofs.Try.f95 [(.int .i64)] [(.fn1 (.int .i64) .bool)] [.bool] false [] x y = (s95_c n).fn x y := by kernel_rfl
theorem s95_ok (n : Nat) : ConOK Go.Proofs.Try.prog 95 (s95_c n) := func_ok (h9 n) hP Go.Proofs.Try.func95 (by kernel_rfl) (by kernel_rfl) (O := []) trivial (s95_eq n)
def e10 (n : Nat) : Env := ⟨gT, (95, s95_c n) :: (e9 n).C, gQ, (e9 n).I, (e9 n).M, (e9 n).S, (e9 n).D, []⟩
theorem h10 (n : Nat) : EnvOK Go.Proofs.Try.prog (e10 n) := env_add (h9 n) (s95_ok n)

def s130_l0 (n : Nat) (d : (List Int) × (Int → Option Bool) × Int × Int × Unit) (again : ((List Int) × (Int → Option Bool) × Int × Int × Unit) → Option (Int)) (ks : (Unit → Option (Int)) × (Int × Unit → Option (Int)) × Unit) : Option (Int) :=
  match d, ks with
  | (s, f, t7, t8, _), (k0, k1, _) =>
  bif (decide (t8 < t7)) then
    (geti s t8).bind fun e =>
    (f e).bind fun x =>
    bif x then
      k1 (t8, ())
    else
      again (s, f, t7, (IntKind.wrap .i64 (t8 + (1 : Int))), ())
  else
    k0 (())

/-- slices.IndexFunc[[]int,int] -/
def s130 (n : Nat) (s : List Int) (f : Int → Option Bool) : Option (Int) :=
  loopG (s130_l0 n) n (s, f, ((List.length s : Nat) : Int), (0 : Int), ())
    (fun (_) =>
      some ((-1 : Int)),
    fun (t4, _) =>
      some (t4), ())

def s130_t0 : Templ := ⟨19, [(.slice (.int .i64)), (.fn1 (.int .i64) .bool), (.int .i64), (.int .i64)], [(0, .v (.hole (.slice (.int .i64)))), (1, .v (.hole (.fn1 (.int .i64) .bool))), (7, .v (.hole (.int .i64))), (8, .v (.hole (.int .i64)))], [], []⟩
def s130_x0 : List (Way × Templ) := [(.exit 0, ⟨19, [], [], [], []⟩), (.ret, ⟨19, [(.int .i64)], [(4, .v (.hole (.int .i64)))], [], []⟩)]
def s130_o0 (n : Nat) : Ev (denL [(.int .i64)]) := loopO n (e10 n) s130_t0 s130_x0 (s130_l0 n)
theorem s130_b0 (n : Nat) (d) (again) (ks) : codeR (R := (denL [(.int .i64)])) (e10 n) (Hdl.no (R := (denL [(.int .i64)]))) (inn (lp (bd Go.Proofs.Try.f130) 0)) [] (mk s130_t0 d) (turnR (e10 n) s130_t0 s130_x0 again ks) = s130_l0 n d again ks := by kernel_rfl
theorem s130_s0 (n : Nat) : Sound Go.Proofs.Try.prog (Hdl.no (R := (denL [(.int .i64)]))) false (lp (bd Go.Proofs.Try.f130) 0) (s130_o0 n) := loop_ok (h10 n) hP (by kernel_rfl) (O := []) trivial (s130_b0 n)
def s130_c (n : Nat) : Con := ⟨[(.slice (.int .i64)), (.fn1 (.int .i64) .bool)], [], [(.int .i64)], fun x y => s130 n x.1 x.2, false⟩
theorem s130_eq (n : Nat) (x : denL [(.slice (.int .i64)), (.fn1 (.int .i64) .bool)]) (y : denL []) : funR (e10 n) Go.Proofs.Try.f130 [(.slice (.int .i64)), (.fn1 (.int .i64) .bool)] [] [(.int .i64)] false [s130_o0 n] x y = (s130_c n).fn x y := by kernel_rfl
theorem s130_ok (n : Nat) : ConOK Go.Proofs.Try.prog 130 (s130_c n) := func_ok (h10 n) hP Go.Proofs.Try.func130 (by kernel_rfl) (by kernel_rfl) (O := [s130_o0 n]) ⟨s130_s0 n, trivial⟩ (s130_eq n)
def e11 (n : Nat) : Env := ⟨gT, (130, s130_c n) :: (e10 n).C, gQ, (e10 n).I, (e10 n).M, (e10 n).S, (e10 n).D, []⟩
theorem h11 (n : Nat) : EnvOK Go.Proofs.Try.prog (e11 n) := env_add (h10 n) (s130_ok n)

/-- slices.ContainsFunc[[]int,int] -/
def s94 (n : Nat) (s : List Int) (f : Int → Option Bool) : Option (Bool) :=
  (s130 n s f).bind fun x =>
  some ((decide (x ≥ (0 : Int))))

def s94_c (n : Nat) : Con := ⟨[(.slice (.int .i64)), (.fn1 (.int .i64) .bool)], [], [.bool], fun x y => s94 n x.1 x.2, false⟩
theorem s94_eq (n : Nat) (x : denL [(.slice (.int .i64)), (.fn1 (.int .i64) .bool)]) (y : denL []) : funR (e11 n) Go.Proofs.Try.f94 [(.slice (.int .i64)), (.fn1 (.int .i64) .bool)] [] [.bool] false [] x y = (s94_c n).fn x y := by kernel_rfl
theorem s94_ok (n : Nat) : ConOK Go.Proofs.Try.prog 94 (s94_c n) := func_ok (h11 n) hP Go.Proofs.Try.func94 (by kernel_rfl) (by kernel_rfl) (O := []) trivial (s94_eq n)
def e12 (n : Nat) : Env := ⟨gT, (94, s94_c n) :: (e11 n).C, gQ, (e11 n).I, (e11 n).M, (e11 n).S, (e11 n).D, []⟩
theorem h12 (n : Nat) : EnvOK Go.Proofs.Try.prog (e12 n) := env_add (h11 n) (s94_ok n)

def s131_l0 (n : Nat) (d : (List (List UInt8)) × ((List UInt8) → Option Bool) × Int × Int × Unit) (again : ((List (List UInt8)) × ((List UInt8) → Option Bool) × Int × Int × Unit) → Option (Int)) (ks : (Unit → Option (Int)) × (Int × Unit → Option (Int)) × Unit) : Option (Int) :=
  match d, ks with
  | (s, f, t7, t8, _), (k0, k1, _) =>
  bif (decide (t8 < t7)) then
    (geti s t8).bind fun e =>
    (f e).bind fun x =>
    bif x then
      k1 (t8, ())
    else
      again (s, f, t7, (IntKind.wrap .i64 (t8 + (1 : Int))), ())
  else
    k0 (())

/-- slices.IndexFunc[[]string,string] -/
def s131 (n : Nat) (s : List (List UInt8)) (f : (List UInt8) → Option Bool) : Option (Int) :=
  loopG (s131_l0 n) n (s, f, ((List.length s : Nat) : Int), (0 : Int), ())
    (fun (_) =>
      some ((-1 : Int)),
    fun (t4, _) =>
      some (t4), ())

def s131_t0 : Templ := ⟨19, [(.slice .str), (.fn1 .str .bool), (.int .i64), (.int .i64)], [(0, .v (.hole (.slice .str))), (1, .v (.hole (.fn1 .str .bool))), (7, .v (.hole (.int .i64))), (8, .v (.hole (.int .i64)))], [], []⟩
def s131_x0 : List (Way × Templ) := [(.exit 0, ⟨19, [], [], [], []⟩), (.ret, ⟨19, [(.int .i64)], [(4, .v (.hole (.int .i64)))], [], []⟩)]
def s131_o0 (n : Nat) : Ev (denL [(.int .i64)]) := loopO n (e12 n) s131_t0 s131_x0 (s131_l0 n)
theorem s131_b0 (n : Nat) (d) (again) (ks) : codeR (R := (denL [(.int .i64)])) (e12 n) (Hdl.no (R := (denL [(.int .i64)]))) (inn (lp (bd Go.Proofs.Try.f131) 0)) [] (mk s131_t0 d) (turnR (e12 n) s131_t0 s131_x0 again ks) = s131_l0 n d again ks := by kernel_rfl
theorem s131_s0 (n : Nat) : Sound Go.Proofs.Try.prog (Hdl.no (R := (denL [(.int .i64)]))) false (lp (bd Go.Proofs.Try.f131) 0) (s131_o0 n) := loop_ok (h12 n) hP (by kernel_rfl) (O := []) trivial (s131_b0 n)
def s131_c (n : Nat) : Con := ⟨[(.slice .str), (.fn1 .str .bool)], [], [(.int .i64)], fun x y => s131 n x.1 x.2, false⟩
theorem s131_eq (n : Nat) (x : denL [(.slice .str), (.fn1 .str .bool)]) (y : denL []) : funR (e12 n) Go.Proofs.Try.f131 [(.slice .str), (.fn1 .str .bool)] [] [(.int .i64)] false [s131_o0 n] x y = (s131_c n).fn x y := by kernel_rfl
theorem s131_ok (n : Nat) : ConOK Go.Proofs.Try.prog 131 (s131_c n) := func_ok (h12 n) hP Go.Proofs.Try.func131 (by kernel_rfl) (by kernel_rfl) (O := [s131_o0 n]) ⟨s131_s0 n, trivial⟩ (s131_eq n)
def e13 (n : Nat) : Env := ⟨gT, (131, s131_c n) :: (e12 n).C, gQ, (e12 n).I, (e12 n).M, (e12 n).S, (e12 n).D, []⟩
theorem h13 (n : Nat) : EnvOK Go.Proofs.Try.prog (e13 n) := env_add (h12 n) (s131_ok n)

/-- slices.ContainsFunc[[]string,string] -/
def s96 (n : Nat) (s : List (List UInt8)) (f : (List UInt8) → Option Bool) : Option (Bool) :=
  (s131 n s f).bind fun x =>
  some ((decide (x ≥ (0 : Int))))

def s96_c (n : Nat) : Con := ⟨[(.slice .str), (.fn1 .str .bool)], [], [.bool], fun x y => s96 n x.1 x.2, false⟩
theorem s96_eq (n : Nat) (x : denL [(.slice .str), (.fn1 .str .bool)]) (y : denL []) : funR (e13 n) Go.Proofs.Try.f96 [(.slice .str), (.fn1 .str .bool)] [] [.bool] false [] x y = (s96_c n).fn x y := by kernel_rfl
theorem s96_ok (n : Nat) : ConOK Go.Proofs.Try.prog 96 (s96_c n) := func_ok (h13 n) hP Go.Proofs.Try.func96 (by kernel_rfl) (by kernel_rfl) (O := []) trivial (s96_eq n)
def e14 (n : Nat) : Env := ⟨gT, (96, s96_c n) :: (e13 n).C, gQ, (e13 n).I, (e13 n).M, (e13 n).S, (e13 n).D, []⟩
theorem h14 (n : Nat) : EnvOK Go.Proofs.Try.prog (e14 n) := env_add (h13 n) (s96_ok n)

/-- criadera/taste.CheckBook$3 -/
def s97 (n : Nat) (s : List UInt8) : Option (Bool) :=
  (s98 n s).bind fun x =>
  some ((!x))

def s97_c (n : Nat) : Con := ⟨[.str], [], [.bool], fun x y => s97 n x, false⟩
theorem s97_eq (n : Nat) (x : denL [.str]) (y : denL []) : funR (e14 n) Go.Proofs.Try.f97 [.str] [] [.bool] false [] x y = (s97_c n).fn x y := by kernel_rfl
theorem s97_ok (n : Nat) : ConOK Go.Proofs.Try.prog 97 (s97_c n) := func_ok (h14 n) hP Go.Proofs.Try.func97 (by kernel_rfl) (by kernel_rfl) (O := []) trivial (s97_eq n)
def e15 (n : Nat) : Env := ⟨gT, (97, s97_c n) :: (e14 n).C, gQ, (e14 n).I, (e14 n).M, (e14 n).S, (e14 n).D, []⟩
theorem h15 (n : Nat) : EnvOK Go.Proofs.Try.prog (e15 n) := env_add (h14 n) (s97_ok n)

def s37_l0 (n : Nat) (d : Int × (List (List UInt8)) × Int × Int × (List (List UInt8)) × Int × (List ((List UInt8) × (List Int) × (List (List UInt8)))) × Int × Unit) (again : (Int × (List (List UInt8)) × Int × Int × (List (List UInt8)) × Int × (List ((List UInt8) × (List Int) × (List (List UInt8)))) × Int × Unit) → Option (Int × Int)) (ks : (Int × (List (List UInt8)) × Int × (List ((List UInt8) × (List Int) × (List (List UInt8)))) × Int × Unit → Option (Int × Int)) × (Int × Int × Unit → Option (Int × Int)) × Unit) : Option (Int × Int) :=
  match d, ks with
  | (marks, t43, t44, t45, b, b_1, b_2, classes, _), (k0, k1, _) =>
  bif (decide (t45 < t44)) then
    (geti t43 t45).bind fun e =>
    (cut b 0 t45).bind fun x =>
    (s92 n e x).bind fun x_1 =>
    bif (x_1 != (0 : Int)) then
      k1 ((0 : Int), x_1, ())
    else
      again (marks, t43, t44, (IntKind.wrap .i64 (t45 + (1 : Int))), b, b_1, b_2, classes, ())
  else
    k0 (marks, b, b_1, b_2, classes, ())

def s37_l1 (n : Nat) (d : Int × (Int → Option Bool) × (List ((List UInt8) × (List Int) × (List (List UInt8)))) × Int × Int × (List (List UInt8)) × Unit) (again : (Int × (Int → Option Bool) × (List ((List UInt8) × (List Int) × (List (List UInt8)))) × Int × Int × (List (List UInt8)) × Unit) → Option (Int × Int)) (ks : (Unit → Option (Int × Int)) × (Int × Int × Unit → Option (Int × Int)) × Unit) : Option (Int × Int) :=
  match d, ks with
  | (marks, isClass, t67, t68, t69, names, _), (k0, k1, _) =>
  bif (decide (t69 < t68)) then
    (geti t67 t69).bind fun e =>
    (s94 n e.2.1 (fun y0 => s95 n y0 isClass)).bind fun x =>
    (s96 n e.2.2 (fun x => s97 n x)).bind fun x_1 =>
    (s92 n e.1 names).bind fun x_2 =>
    (s81 n ((((List.length e.2.1 : Nat) : Int) == marks) && (((List.length e.2.2 : Nat) : Int) == marks)) (10 : Int)).bind fun x_3 =>
    (s81 n (!x) (6 : Int)).bind fun x_4 =>
    (s81 n (!x_1) (4 : Int)).bind fun x_5 =>
    (s80 n ([x_2, x_3, x_4, x_5] : List Int)).bind fun x_6 =>
    bif (x_6 != (0 : Int)) then
      k1 (t69, x_6, ())
    else
      (chk (List.length names + List.length ([e.1] : List (List UInt8)))).bind fun u =>
      again (marks, isClass, t67, t68, (IntKind.wrap .i64 (t69 + (1 : Int))), (names ++ ([e.1] : List (List UInt8))), ())
  else
    k0 (())

/-- criadera/taste.CheckBook -/
def s37 (n : Nat) (b : (List (List UInt8)) × Int × (List ((List UInt8) × (List Int) × (List (List UInt8))))) : Option (Int × Int) :=
  (s81 n ((decide (((List.length b.1 : Nat) : Int) > (0 : Int))) && (decide (((List.length b.2.2 : Nat) : Int) > (0 : Int)))) (10 : Int)).bind fun x =>
  (s81 n ((decide (((List.length b.1 : Nat) : Int) ≤ (6 : Int))) && (decide (((List.length b.2.2 : Nat) : Int) ≤ (8 : Int)))) (8 : Int)).bind fun x_1 =>
  (s80 n ([x, x_1] : List Int)).bind fun x_2 =>
  bif (x_2 != (0 : Int)) then
    some ((0 : Int), x_2)
  else
    loopG (s37_l0 n) n (((List.length b.1 : Nat) : Int), b.1, ((List.length b.1 : Nat) : Int), (0 : Int), b.1, b.2.1, b.2.2, ((List.length b.2.2 : Nat) : Int), ())
      (fun (marks_1, b_4, b_5, b_6, classes_1, _) =>
        ((fun y0 => s93 n y0 classes_1) b_5).bind fun x_5 =>
        bif (!x_5) then
          some ((0 : Int), (6 : Int))
        else
          loopG (s37_l1 n) n (marks_1, (fun y0 => s93 n y0 classes_1), b_6, ((List.length b_6 : Nat) : Int), (0 : Int), ([] : List (List UInt8)), ())
            (fun (_) =>
              some ((0 : Int), (0 : Int)),
            fun (t2, t3, _) =>
              some (t2, t3), ()),
      fun (t2_1, t3_1, _) =>
        some (t2_1, t3_1), ())

def s37_t0 : Templ := ⟨116, [(.int .i64), (.slice .str), (.int .i64), (.int .i64), (.slice .str), (.int .i64), (.slice (.pair .str (.pair (.slice (.int .i64)) (.slice .str)))), (.int .i64)], [(1, .v (.bptr 116 0)), (4, .v (.hole (.int .i64))), (5, .v (.bptr 117 0)), (43, .v (.hole (.slice .str))), (44, .v (.hole (.int .i64))), (45, .v (.hole (.int .i64)))], [(116, .box (.pair (.slice .str) (.pair (.int .i64) (.slice (.pair .str (.pair (.slice (.int .i64)) (.slice .str)))))) [.hole (.slice .str), .hole (.int .i64), .hole (.slice (.pair .str (.pair (.slice (.int .i64)) (.slice .str))))]), (117, .box (.int .i64) [.hole (.int .i64)])], []⟩
def s37_x0 : List (Way × Templ) := [(.exit 0, ⟨116, [(.int .i64), (.slice .str), (.int .i64), (.slice (.pair .str (.pair (.slice (.int .i64)) (.slice .str)))), (.int .i64)], [(1, .v (.bptr 116 0)), (4, .v (.hole (.int .i64))), (5, .v (.bptr 117 0))], [(116, .box (.pair (.slice .str) (.pair (.int .i64) (.slice (.pair .str (.pair (.slice (.int .i64)) (.slice .str)))))) [.hole (.slice .str), .hole (.int .i64), .hole (.slice (.pair .str (.pair (.slice (.int .i64)) (.slice .str))))]), (117, .box (.int .i64) [.hole (.int .i64)])], []⟩), (.ret, ⟨116, [(.int .i64), (.int .i64)], [(2, .v (.hole (.int .i64))), (3, .v (.hole (.int .i64)))], [], []⟩)]
def s37_o0 (n : Nat) : Ev (denL [(.int .i64), (.int .i64)]) := loopO n (e15 n) s37_t0 s37_x0 (s37_l0 n)
theorem s37_b0 (n : Nat) (d) (again) (ks) : codeR (R := (denL [(.int .i64), (.int .i64)])) (e15 n) (Hdl.no (R := (denL [(.int .i64), (.int .i64)]))) (inn (lp (bd Go.Proofs.Try.f37) 0)) [] (mk s37_t0 d) (turnR (e15 n) s37_t0 s37_x0 again ks) = s37_l0 n d again ks := by kernel_rfl
theorem s37_s0 (n : Nat) : Sound Go.Proofs.Try.prog (Hdl.no (R := (denL [(.int .i64), (.int .i64)]))) false (lp (bd Go.Proofs.Try.f37) 0) (s37_o0 n) := loop_ok (h15 n) hP (by kernel_rfl) (O := []) trivial (s37_b0 n)
def s37_t1 : Templ := ⟨116, [(.int .i64), (.fn1 (.int .i64) .bool), (.slice (.pair .str (.pair (.slice (.int .i64)) (.slice .str)))), (.int .i64), (.int .i64), (.slice .str)], [(4, .v (.hole (.int .i64))), (10, .v (.pp (.fn1 (.int .i64) .bool))), (11, .v (.hand 116)), (67, .v (.hole (.slice (.pair .str (.pair (.slice (.int .i64)) (.slice .str)))))), (68, .v (.hole (.int .i64))), (69, .v (.hole (.int .i64)))], [(116, .buf .str)], []⟩
def s37_x1 : List (Way × Templ) := [(.exit 2, ⟨116, [], [], [], []⟩), (.ret, ⟨116, [(.int .i64), (.int .i64)], [(2, .v (.hole (.int .i64))), (3, .v (.hole (.int .i64)))], [], []⟩)]
def s37_o1 (n : Nat) : Ev (denL [(.int .i64), (.int .i64)]) := loopO n (e15 n) s37_t1 s37_x1 (s37_l1 n)
theorem s37_b1 (n : Nat) (d) (again) (ks) : codeR (R := (denL [(.int .i64), (.int .i64)])) (e15 n) (Hdl.no (R := (denL [(.int .i64), (.int .i64)]))) (inn (lp (bd Go.Proofs.Try.f37) 1)) [] (mk s37_t1 d) (turnR (e15 n) s37_t1 s37_x1 again ks) = s37_l1 n d again ks := by kernel_rfl
theorem s37_s1 (n : Nat) : Sound Go.Proofs.Try.prog (Hdl.no (R := (denL [(.int .i64), (.int .i64)]))) false (lp (bd Go.Proofs.Try.f37) 1) (s37_o1 n) := loop_ok (h15 n) hP (by kernel_rfl) (O := []) trivial (s37_b1 n)
def s37_c (n : Nat) : Con := ⟨[(.pair (.slice .str) (.pair (.int .i64) (.slice (.pair .str (.pair (.slice (.int .i64)) (.slice .str))))))], [], [(.int .i64), (.int .i64)], fun x y => s37 n x, false⟩
theorem s37_eq (n : Nat) (x : denL [(.pair (.slice .str) (.pair (.int .i64) (.slice (.pair .str (.pair (.slice (.int .i64)) (.slice .str))))))]) (y : denL []) : funR (e15 n) Go.Proofs.Try.f37 [(.pair (.slice .str) (.pair (.int .i64) (.slice (.pair .str (.pair (.slice (.int .i64)) (.slice .str))))))] [] [(.int .i64), (.int .i64)] false [s37_o0 n, s37_o1 n] x y = (s37_c n).fn x y := by kernel_rfl
theorem s37_ok (n : Nat) : ConOK Go.Proofs.Try.prog 37 (s37_c n) := func_ok (h15 n) hP Go.Proofs.Try.func37 (by kernel_rfl) (by kernel_rfl) (O := [s37_o0 n, s37_o1 n]) ⟨s37_s0 n, s37_s1 n, trivial⟩ (s37_eq n)
def e16 (n : Nat) : Env := ⟨gT, (37, s37_c n) :: (e15 n).C, gQ, (e15 n).I, (e15 n).M, (e15 n).S, (e15 n).D, []⟩
theorem h16 (n : Nat) : EnvOK Go.Proofs.Try.prog (e16 n) := env_add (h15 n) (s37_ok n)

/-- criadera/taste.open -/
def s79 (n : Nat) (b : (List (List UInt8)) × Int × (List ((List UInt8) × (List Int) × (List (List UInt8))))) : Option (((List (List UInt8)) × Int × (List ((List UInt8) × (List Int) × (List (List UInt8))))) × Int) :=
  (s37 n (b.1, (b.2.1, b.2.2))).bind fun x =>
  some ((b.1, (b.2.1, b.2.2)), x.2)

def s79_c (n : Nat) : Con := ⟨[(.pair (.slice .str) (.pair (.int .i64) (.slice (.pair .str (.pair (.slice (.int .i64)) (.slice .str))))))], [], [(.pair (.slice .str) (.pair (.int .i64) (.slice (.pair .str (.pair (.slice (.int .i64)) (.slice .str)))))), (.int .i64)], fun x y => s79 n x, false⟩
theorem s79_eq (n : Nat) (x : denL [(.pair (.slice .str) (.pair (.int .i64) (.slice (.pair .str (.pair (.slice (.int .i64)) (.slice .str))))))]) (y : denL []) : funR (e16 n) Go.Proofs.Try.f79 [(.pair (.slice .str) (.pair (.int .i64) (.slice (.pair .str (.pair (.slice (.int .i64)) (.slice .str))))))] [] [(.pair (.slice .str) (.pair (.int .i64) (.slice (.pair .str (.pair (.slice (.int .i64)) (.slice .str)))))), (.int .i64)] false [] x y = (s79_c n).fn x y := by kernel_rfl
theorem s79_ok (n : Nat) : ConOK Go.Proofs.Try.prog 79 (s79_c n) := func_ok (h16 n) hP Go.Proofs.Try.func79 (by kernel_rfl) (by kernel_rfl) (O := []) trivial (s79_eq n)
def e17 (n : Nat) : Env := ⟨gT, (79, s79_c n) :: (e16 n).C, gQ, (e16 n).I, (e16 n).M, (e16 n).S, (e16 n).D, []⟩
theorem h17 (n : Nat) : EnvOK Go.Proofs.Try.prog (e17 n) := env_add (h16 n) (s79_ok n)

/-- (criadera/taste.book).marksErr$1 -/
def s132 (n : Nat) (v_n : Int) (c0 : (List (List UInt8)) × Int × (List ((List UInt8) × (List Int) × (List (List UInt8))))) : Option (Bool) :=
  (s82 n v_n (0 : Int) (IntKind.wrap .i64 (((List.length c0.1 : Nat) : Int) - (1 : Int)))).bind fun x =>
  some ((!x))

def s132_c (n : Nat) : Con := ⟨[(.int .i64)], [(.pair (.slice .str) (.pair (.int .i64) (.slice (.pair .str (.pair (.slice (.int .i64)) (.slice .str))))))], [.bool], fun x y => s132 n x y, false⟩
theorem s132_eq (n : Nat) (x : denL [(.int .i64)]) (y : denL [(.pair (.slice .str) (.pair (.int .i64) (.slice (.pair .str (.pair (.slice (.int .i64)) (.slice .str))))))]) : funR (e17 n) Go.Proofs.Try.f132 [(.int .i64)] [(.pair (.slice .str) (.pair (.int .i64) (.slice (.pair .str (.pair (.slice (.int .i64)) (.slice .str))))))] [.bool] false [] x y = (s132_c n).fn x y := by kernel_rfl
theorem s132_ok (n : Nat) : ConOK Go.Proofs.Try.prog 132 (s132_c n) := func_ok (h17 n) hP Go.Proofs.Try.func132 (by kernel_rfl) (by kernel_rfl) (O := []) trivial (s132_eq n)
def e18 (n : Nat) : Env := ⟨gT, (132, s132_c n) :: (e17 n).C, gQ, (e17 n).I, (e17 n).M, (e17 n).S, (e17 n).D, []⟩
theorem h18 (n : Nat) : EnvOK Go.Proofs.Try.prog (e18 n) := env_add (h17 n) (s132_ok n)

/-- (criadera/taste.book).marksErr -/
def s99 (n : Nat) (b : (List (List UInt8)) × Int × (List ((List UInt8) × (List Int) × (List (List UInt8))))) (l : List Int) : Option (Int) :=
  (s94 n l (fun y0 => s132 n y0 (b.1, (b.2.1, b.2.2)))).bind fun x =>
  (s81 n (decide (((List.length l : Nat) : Int) ≤ (40 : Int))) (8 : Int)).bind fun x_1 =>
  (s81 n (!x) (6 : Int)).bind fun x_2 =>
  (s80 n ([x_1, x_2] : List Int)).bind fun x_3 =>
  some (x_3)

def s99_c (n : Nat) : Con := ⟨[(.pair (.slice .str) (.pair (.int .i64) (.slice (.pair .str (.pair (.slice (.int .i64)) (.slice .str)))))), (.slice (.int .i64))], [], [(.int .i64)], fun x y => s99 n x.1 x.2, false⟩
theorem s99_eq (n : Nat) (x : denL [(.pair (.slice .str) (.pair (.int .i64) (.slice (.pair .str (.pair (.slice (.int .i64)) (.slice .str)))))), (.slice (.int .i64))]) (y : denL []) : funR (e18 n) Go.Proofs.Try.f99 [(.pair (.slice .str) (.pair (.int .i64) (.slice (.pair .str (.pair (.slice (.int .i64)) (.slice .str)))))), (.slice (.int .i64))] [] [(.int .i64)] false [] x y = (s99_c n).fn x y := by kernel_rfl
theorem s99_ok (n : Nat) : ConOK Go.Proofs.Try.prog 99 (s99_c n) := func_ok (h18 n) hP Go.Proofs.Try.func99 (by kernel_rfl) (by kernel_rfl) (O := []) trivial (s99_eq n)
def e19 (n : Nat) : Env := ⟨gT, (99, s99_c n) :: (e18 n).C, gQ, (e18 n).I, (e18 n).M, (e18 n).S, (e18 n).D, []⟩
theorem h19 (n : Nat) : EnvOK Go.Proofs.Try.prog (e19 n) := env_add (h18 n) (s99_ok n)

/-- criadera/taste.openSheet -/
def s104 (n : Nat) (b : (List (List UInt8)) × Int × (List ((List UInt8) × (List Int) × (List (List UInt8))))) (s : (List UInt8) × (List Int)) : Option (((List (List UInt8)) × Int × (List ((List UInt8) × (List Int) × (List (List UInt8))))) × Int) :=
  (s79 n (b.1, (b.2.1, b.2.2))).bind fun x =>
  bif (x.2 != (0 : Int)) then
    some ((x.1.1, (x.1.2.1, x.1.2.2)), x.2)
  else
    (s98 n s.1).bind fun x_1 =>
    (s81 n x_1 (4 : Int)).bind fun x_2 =>
    (s99 n (x.1.1, (x.1.2.1, x.1.2.2)) s.2).bind fun x_3 =>
    (s80 n ([x_2, x_3] : List Int)).bind fun x_4 =>
    some ((x.1.1, (x.1.2.1, x.1.2.2)), x_4)

def s104_c (n : Nat) : Con := ⟨[(.pair (.slice .str) (.pair (.int .i64) (.slice (.pair .str (.pair (.slice (.int .i64)) (.slice .str)))))), (.pair .str (.slice (.int .i64)))], [], [(.pair (.slice .str) (.pair (.int .i64) (.slice (.pair .str (.pair (.slice (.int .i64)) (.slice .str)))))), (.int .i64)], fun x y => s104 n x.1 x.2, false⟩
theorem s104_eq (n : Nat) (x : denL [(.pair (.slice .str) (.pair (.int .i64) (.slice (.pair .str (.pair (.slice (.int .i64)) (.slice .str)))))), (.pair .str (.slice (.int .i64)))]) (y : denL []) : funR (e19 n) Go.Proofs.Try.f104 [(.pair (.slice .str) (.pair (.int .i64) (.slice (.pair .str (.pair (.slice (.int .i64)) (.slice .str)))))), (.pair .str (.slice (.int .i64)))] [] [(.pair (.slice .str) (.pair (.int .i64) (.slice (.pair .str (.pair (.slice (.int .i64)) (.slice .str)))))), (.int .i64)] false [] x y = (s104_c n).fn x y := by kernel_rfl
theorem s104_ok (n : Nat) : ConOK Go.Proofs.Try.prog 104 (s104_c n) := func_ok (h19 n) hP Go.Proofs.Try.func104 (by kernel_rfl) (by kernel_rfl) (O := []) trivial (s104_eq n)
def e20 (n : Nat) : Env := ⟨gT, (104, s104_c n) :: (e19 n).C, gQ, (e19 n).I, (e19 n).M, (e19 n).S, (e19 n).D, []⟩
theorem h20 (n : Nat) : EnvOK Go.Proofs.Try.prog (e20 n) := env_add (h19 n) (s104_ok n)

def s100_l0 (n : Nat) (d : (List Int) × Int × Int × (List (List UInt8)) × Int × (List ((List UInt8) × (List Int) × (List (List UInt8)))) × (List Int) × Unit) (again : ((List Int) × Int × Int × (List (List UInt8)) × Int × (List ((List UInt8) × (List Int) × (List (List UInt8)))) × (List Int) × Unit) → Option ((List Int))) (ks : ((List Int) × Unit → Option ((List Int))) × Unit) : Option ((List Int)) :=
  match d, ks with
  | (t12, t13, t14, b, b_1, b_2, out, _), (k0, _) =>
  bif (decide (t14 < t13)) then
    (geti t12 t14).bind fun e =>
    (geti out (IntKind.wrap .i64 (((List.length out : Nat) : Int) - (1 : Int)))).bind fun e_1 =>
    (geti out (IntKind.wrap .i64 (((List.length out : Nat) : Int) - (1 : Int)))).bind fun x =>
    (geti b_2 x).bind fun e_2 =>
    (geti e_2.2.1 e).bind fun e_3 =>
    (chk (List.length out + List.length ([e_3] : List Int))).bind fun u =>
    again (t12, t13, (IntKind.wrap .i64 (t14 + (1 : Int))), b, b_1, b_2, (out ++ ([e_3] : List Int)), ())
  else
    k0 (out, ())

/-- (criadera/taste.book).walk -/
def s100 (n : Nat) (b : (List (List UInt8)) × Int × (List ((List UInt8) × (List Int) × (List (List UInt8))))) (marks : List Int) : Option ((List Int)) :=
  loopG (s100_l0 n) n (marks, ((List.length marks : Nat) : Int), (0 : Int), b.1, b.2.1, b.2.2, ([b.2.1] : List Int), ())
    (fun (out_1, _) =>
      some (out_1), ())

def s100_t0 : Templ := ⟨38, [(.slice (.int .i64)), (.int .i64), (.int .i64), (.slice .str), (.int .i64), (.slice (.pair .str (.pair (.slice (.int .i64)) (.slice .str)))), (.slice (.int .i64))], [(2, .v (.bptr 38 0)), (5, .v (.hand 39)), (12, .v (.hole (.slice (.int .i64)))), (13, .v (.hole (.int .i64))), (14, .v (.hole (.int .i64)))], [(38, .box (.pair (.slice .str) (.pair (.int .i64) (.slice (.pair .str (.pair (.slice (.int .i64)) (.slice .str)))))) [.hole (.slice .str), .hole (.int .i64), .hole (.slice (.pair .str (.pair (.slice (.int .i64)) (.slice .str))))]), (39, .buf (.int .i64))], []⟩
def s100_x0 : List (Way × Templ) := [(.exit 0, ⟨38, [(.slice (.int .i64))], [(5, .v (.hand 38))], [(38, .buf (.int .i64))], []⟩)]
def s100_o0 (n : Nat) : Ev (denL [(.slice (.int .i64))]) := loopO n (e20 n) s100_t0 s100_x0 (s100_l0 n)
theorem s100_b0 (n : Nat) (d) (again) (ks) : codeR (R := (denL [(.slice (.int .i64))])) (e20 n) (Hdl.no (R := (denL [(.slice (.int .i64))]))) (inn (lp (bd Go.Proofs.Try.f100) 0)) [] (mk s100_t0 d) (turnR (e20 n) s100_t0 s100_x0 again ks) = s100_l0 n d again ks := by kernel_rfl
theorem s100_s0 (n : Nat) : Sound Go.Proofs.Try.prog (Hdl.no (R := (denL [(.slice (.int .i64))]))) false (lp (bd Go.Proofs.Try.f100) 0) (s100_o0 n) := loop_ok (h20 n) hP (by kernel_rfl) (O := []) trivial (s100_b0 n)
def s100_c (n : Nat) : Con := ⟨[(.pair (.slice .str) (.pair (.int .i64) (.slice (.pair .str (.pair (.slice (.int .i64)) (.slice .str)))))), (.slice (.int .i64))], [], [(.slice (.int .i64))], fun x y => s100 n x.1 x.2, false⟩
theorem s100_eq (n : Nat) (x : denL [(.pair (.slice .str) (.pair (.int .i64) (.slice (.pair .str (.pair (.slice (.int .i64)) (.slice .str)))))), (.slice (.int .i64))]) (y : denL []) : funR (e20 n) Go.Proofs.Try.f100 [(.pair (.slice .str) (.pair (.int .i64) (.slice (.pair .str (.pair (.slice (.int .i64)) (.slice .str)))))), (.slice (.int .i64))] [] [(.slice (.int .i64))] false [s100_o0 n] x y = (s100_c n).fn x y := by kernel_rfl
theorem s100_ok (n : Nat) : ConOK Go.Proofs.Try.prog 100 (s100_c n) := func_ok (h20 n) hP Go.Proofs.Try.func100 (by kernel_rfl) (by kernel_rfl) (O := [s100_o0 n]) ⟨s100_s0 n, trivial⟩ (s100_eq n)
def e21 (n : Nat) : Env := ⟨gT, (100, s100_c n) :: (e20 n).C, gQ, (e20 n).I, (e20 n).M, (e20 n).S, (e20 n).D, []⟩
theorem h21 (n : Nat) : EnvOK Go.Proofs.Try.prog (e21 n) := env_add (h20 n) (s100_ok n)

/-- criadera/taste.ClassOf -/
def s41 (n : Nat) (b : (List (List UInt8)) × Int × (List ((List UInt8) × (List Int) × (List (List UInt8))))) (s : (List UInt8) × (List Int)) : Option ((List UInt8) × Int) :=
  (s104 n (b.1, (b.2.1, b.2.2)) (s.1, s.2)).bind fun x =>
  bif (x.2 != (0 : Int)) then
    some ([], x.2)
  else
    (s100 n (x.1.1, (x.1.2.1, x.1.2.2)) s.2).bind fun x_1 =>
    (geti x_1 (IntKind.wrap .i64 (((List.length x_1 : Nat) : Int) - (1 : Int)))).bind fun e =>
    (geti x.1.2.2 e).bind fun e_1 =>
    some (e_1.1, (0 : Int))

def s41_c (n : Nat) : Con := ⟨[(.pair (.slice .str) (.pair (.int .i64) (.slice (.pair .str (.pair (.slice (.int .i64)) (.slice .str)))))), (.pair .str (.slice (.int .i64)))], [], [.str, (.int .i64)], fun x y => s41 n x.1 x.2, false⟩
theorem s41_eq (n : Nat) (x : denL [(.pair (.slice .str) (.pair (.int .i64) (.slice (.pair .str (.pair (.slice (.int .i64)) (.slice .str)))))), (.pair .str (.slice (.int .i64)))]) (y : denL []) : funR (e21 n) Go.Proofs.Try.f41 [(.pair (.slice .str) (.pair (.int .i64) (.slice (.pair .str (.pair (.slice (.int .i64)) (.slice .str)))))), (.pair .str (.slice (.int .i64)))] [] [.str, (.int .i64)] false [] x y = (s41_c n).fn x y := by kernel_rfl
theorem s41_ok (n : Nat) : ConOK Go.Proofs.Try.prog 41 (s41_c n) := func_ok (h21 n) hP Go.Proofs.Try.func41 (by kernel_rfl) (by kernel_rfl) (O := []) trivial (s41_eq n)
def e22 (n : Nat) : Env := ⟨gT, (41, s41_c n) :: (e21 n).C, gQ, (e21 n).I, (e21 n).M, (e21 n).S, (e21 n).D, []⟩
theorem h22 (n : Nat) : EnvOK Go.Proofs.Try.prog (e22 n) := env_add (h21 n) (s41_ok n)

/-- (criadera/taste.book).next -/
def s114 (n : Nat) (b : (List (List UInt8)) × Int × (List ((List UInt8) × (List Int) × (List (List UInt8))))) (v_class : Int) (mark : Int) : Option (Int) :=
  (geti b.2.2 v_class).bind fun e =>
  (geti e.2.1 mark).bind fun e_1 =>
  some (e_1)

def s114_c (n : Nat) : Con := ⟨[(.pair (.slice .str) (.pair (.int .i64) (.slice (.pair .str (.pair (.slice (.int .i64)) (.slice .str)))))), (.int .i64), (.int .i64)], [], [(.int .i64)], fun x y => s114 n x.1 x.2.1 x.2.2, false⟩
theorem s114_eq (n : Nat) (x : denL [(.pair (.slice .str) (.pair (.int .i64) (.slice (.pair .str (.pair (.slice (.int .i64)) (.slice .str)))))), (.int .i64), (.int .i64)]) (y : denL []) : funR (e22 n) Go.Proofs.Try.f114 [(.pair (.slice .str) (.pair (.int .i64) (.slice (.pair .str (.pair (.slice (.int .i64)) (.slice .str)))))), (.int .i64), (.int .i64)] [] [(.int .i64)] false [] x y = (s114_c n).fn x y := by kernel_rfl
theorem s114_ok (n : Nat) : ConOK Go.Proofs.Try.prog 114 (s114_c n) := func_ok (h22 n) hP Go.Proofs.Try.func114 (by kernel_rfl) (by kernel_rfl) (O := []) trivial (s114_eq n)
def e23 (n : Nat) : Env := ⟨gT, (114, s114_c n) :: (e22 n).C, gQ, (e22 n).I, (e22 n).M, (e22 n).S, (e22 n).D, []⟩
theorem h23 (n : Nat) : EnvOK Go.Proofs.Try.prog (e23 n) := env_add (h22 n) (s114_ok n)

def e24 (n : Nat) : Env := ⟨gT, (135, s135_c n) :: (e23 n).C, gQ, (e23 n).I, (e23 n).M, (e23 n).S, (e23 n).D, []⟩
theorem h24 (n : Nat) : EnvOK Go.Proofs.Try.prog (e24 n) := env_add (h23 n) (s135_ok n)

def s140_l0_0 (n : Nat) (d : Int × (Int → Int → Option Int) × Int × Int × (List (Int × Bool)) × (List (Int × (List Int))) × Int × (List Int) × Unit) (again : (Int × (Int → Int → Option Int) × Int × Int × (List (Int × Bool)) × (List (Int × (List Int))) × Int × (List Int) × Unit) → Option (List ((Int × (List Int))))) (ks : (Int × (Int → Int → Option Int) × (List (Int × Bool)) × (List (Int × (List Int))) × Unit → Option (List ((Int × (List Int))))) × Unit) : Option (List ((Int × (List Int)))) :=
  match d, ks with
  | (t2, t3, t28, t29, seen, queue, t7, t7_1, _), (k0, _) =>
  bif (decide (t29 < t28)) then
    (t3 t7 t29).bind fun x =>
    bif (!(Option.getD (mget seen x) false)) then
      (s135 n t7_1).bind fun x_1 =>
      (chk (List.length x_1 + List.length ([t29] : List Int))).bind fun u =>
      (chk (List.length queue + List.length ([(x, (x_1 ++ ([t29] : List Int)))] : List (Int × (List Int))))).bind fun u_1 =>
      again (t2, t3, t28, (IntKind.wrap .i64 (t29 + (1 : Int))), (mput seen x true), (queue ++ ([(x, (x_1 ++ ([t29] : List Int)))] : List (Int × (List Int)))), t7, t7_1, ())
    else
      again (t2, t3, t28, (IntKind.wrap .i64 (t29 + (1 : Int))), seen, queue, t7, t7_1, ())
  else
    k0 (t2, t3, seen, queue, ())

def s140_l0 (n : Nat) (d : Int × (Int → Int → Option Int) × (List (Int × Bool)) × (List (Int × (List Int))) × Unit) (again : (Int × (Int → Int → Option Int) × (List (Int × Bool)) × (List (Int × (List Int))) × Unit) → Option (List ((Int × (List Int))))) (ks : (Unit → Option (List ((Int × (List Int))))) × (Unit → Option (List ((Int × (List Int))))) × Unit) : Option (List ((Int × (List Int)))) :=
  match d, ks with
  | (t2, t3, seen, queue, _), (k0, k1, _) =>
  bif (decide (((List.length queue : Nat) : Int) > (0 : Int))) then
    (geti queue (0 : Int)).bind fun e =>
    (geti queue (0 : Int)).bind fun x =>
    (cut queue (1 : Int) ((List.length queue : Nat) : Int)).bind fun x_1 =>
    emitL (α := (Int × (List Int))) (x.1, x.2) (
        loopG (s140_l0_0 n) n (t2, t3, t2, (0 : Int), seen, x_1, x.1, x.2, ())
          (fun (t2_2, t3_2, seen_2, queue_2, _) =>
            again (t2_2, t3_2, seen_2, queue_2, ()), ())
      ) (
        k1 (())
      )
  else
    k0 (())

/-- criadera/taste.search[int]$1 -/
def s140 (n : Nat) (c0 : Int) (c1 : Int) (c2 : Int → Int → Option Int) : Option (List ((Int × (List Int)))) :=
  loopG (s140_l0 n) n (c1, c2, (mput ([] : List (Int × Bool)) c0 true), ([(c0, ([] : List Int))] : List (Int × (List Int))), ())
    (fun (_) =>
      some [],
    fun (_) =>
      some [], ())

def s140_t0_0 : Templ := ⟨55, [(.int .i64), (.fn2 (.int .i64) (.int .i64) (.int .i64)), (.int .i64), (.int .i64), (.map (.int .i64) .bool), (.slice (.pair (.int .i64) (.slice (.int .i64)))), (.int .i64), (.slice (.int .i64))], [(0, .v (.yld)), (2, .v (.pp (.int .i64))), (3, .v (.pp (.fn2 (.int .i64) (.int .i64) (.int .i64)))), (5, .v (.hand 55)), (6, .v (.hand 56)), (7, .v (.bptr 57 0)), (28, .v (.hole (.int .i64))), (29, .v (.hole (.int .i64)))], [(55, .map (.int .i64) .bool), (56, .buf (.pair (.int .i64) (.slice (.int .i64)))), (57, .box (.pair (.int .i64) (.slice (.int .i64))) [.hole (.int .i64), .hole (.slice (.int .i64))])], []⟩
def s140_x0_0 : List (Way × Templ) := [(.exit 2, ⟨55, [(.int .i64), (.fn2 (.int .i64) (.int .i64) (.int .i64)), (.map (.int .i64) .bool), (.slice (.pair (.int .i64) (.slice (.int .i64))))], [(0, .v (.yld)), (2, .v (.pp (.int .i64))), (3, .v (.pp (.fn2 (.int .i64) (.int .i64) (.int .i64)))), (5, .v (.hand 55)), (6, .v (.hand 56))], [(55, .map (.int .i64) .bool), (56, .buf (.pair (.int .i64) (.slice (.int .i64))))], []⟩)]
def s140_o0_0 (n : Nat) : Ev (List (denL [(.pair (.int .i64) (.slice (.int .i64)))])) := loopO n (e24 n) s140_t0_0 s140_x0_0 (s140_l0_0 n)
theorem s140_b0_0 (n : Nat) (d) (again) (ks) : codeR (R := (List (denL [(.pair (.int .i64) (.slice (.int .i64)))]))) (e24 n) (hdlL [(.pair (.int .i64) (.slice (.int .i64)))]) (inn (lp (inn (lp (bd Go.Proofs.Try.f140) 0)) 0)) [] (mk s140_t0_0 d) (turnR (e24 n) s140_t0_0 s140_x0_0 again ks) = s140_l0_0 n d again ks := by kernel_rfl
theorem s140_s0_0 (n : Nat) : Sound Go.Proofs.Try.prog (hdlL [(.pair (.int .i64) (.slice (.int .i64)))]) false (lp (inn (lp (bd Go.Proofs.Try.f140) 0)) 0) (s140_o0_0 n) := loop_ok (h24 n) hP (by kernel_rfl) (O := []) trivial (s140_b0_0 n)
def s140_t0 : Templ := ⟨55, [(.int .i64), (.fn2 (.int .i64) (.int .i64) (.int .i64)), (.map (.int .i64) .bool), (.slice (.pair (.int .i64) (.slice (.int .i64))))], [(0, .v (.yld)), (2, .v (.pp (.int .i64))), (3, .v (.pp (.fn2 (.int .i64) (.int .i64) (.int .i64)))), (5, .v (.hand 55)), (6, .v (.hand 56))], [(55, .map (.int .i64) .bool), (56, .buf (.pair (.int .i64) (.slice (.int .i64))))], []⟩
def s140_x0 : List (Way × Templ) := [(.exit 0, ⟨55, [], [], [], []⟩), (.ret, ⟨55, [], [], [], []⟩)]
def s140_o0 (n : Nat) : Ev (List (denL [(.pair (.int .i64) (.slice (.int .i64)))])) := loopO n (e24 n) s140_t0 s140_x0 (s140_l0 n)
theorem s140_b0 (n : Nat) (d) (again) (ks) : codeR (R := (List (denL [(.pair (.int .i64) (.slice (.int .i64)))]))) (e24 n) (hdlL [(.pair (.int .i64) (.slice (.int .i64)))]) (inn (lp (bd Go.Proofs.Try.f140) 0)) [s140_o0_0 n] (mk s140_t0 d) (turnR (e24 n) s140_t0 s140_x0 again ks) = s140_l0 n d again ks := by kernel_rfl
theorem s140_s0 (n : Nat) : Sound Go.Proofs.Try.prog (hdlL [(.pair (.int .i64) (.slice (.int .i64)))]) false (lp (bd Go.Proofs.Try.f140) 0) (s140_o0 n) := loop_ok (h24 n) hP (by kernel_rfl) (O := [s140_o0_0 n]) ⟨s140_s0_0 n, trivial⟩ (s140_b0 n)
def s140_i (n : Nat) : ICon := ⟨[(.int .i64), (.int .i64), (.fn2 (.int .i64) (.int .i64) (.int .i64))], (.seq (.pair (.int .i64) (.slice (.int .i64)))), fun y => s140 n y.1 y.2.1 y.2.2⟩
theorem s140_eq (n : Nat) (y : denL [(.int .i64), (.int .i64), (.fn2 (.int .i64) (.int .i64) (.int .i64))]) : iterR (e24 n) Go.Proofs.Try.f140 [(.pair (.int .i64) (.slice (.int .i64)))] [(.int .i64), (.int .i64), (.fn2 (.int .i64) (.int .i64) (.int .i64))] [s140_o0 n] y = (s140_i n).fn y := by kernel_rfl
theorem s140_ok (n : Nat) : IConOK Go.Proofs.Try.prog 140 (s140_i n) := itf1_ok (h24 n) hP Go.Proofs.Try.func140 (by kernel_rfl) (by kernel_rfl) (O := [s140_o0 n]) ⟨s140_s0 n, trivial⟩ (s140_eq n)
def e25 (n : Nat) : Env := ⟨gT, (e24 n).C, gQ, (140, s140_i n) :: (e24 n).I, (e24 n).M, (e24 n).S, (e24 n).D, []⟩
theorem h25 (n : Nat) : EnvOK Go.Proofs.Try.prog (e25 n) := env_it (h24 n) (s140_ok n)

/-- criadera/taste.search[int] -/
def s118 (n : Nat) (v_begin : Int) (marks : Int) (next : Int → Int → Option Int) : Option ((List (Int × (List Int)))) :=
  (s140 n v_begin marks next).bind fun x =>
  some (x)

def s118_c (n : Nat) : Con := ⟨[(.int .i64), (.int .i64), (.fn2 (.int .i64) (.int .i64) (.int .i64))], [], [(.seq (.pair (.int .i64) (.slice (.int .i64))))], fun x y => s118 n x.1 x.2.1 x.2.2, false⟩
theorem s118_eq (n : Nat) (x : denL [(.int .i64), (.int .i64), (.fn2 (.int .i64) (.int .i64) (.int .i64))]) (y : denL []) : funR (e25 n) Go.Proofs.Try.f118 [(.int .i64), (.int .i64), (.fn2 (.int .i64) (.int .i64) (.int .i64))] [] [(.seq (.pair (.int .i64) (.slice (.int .i64))))] false [] x y = (s118_c n).fn x y := by kernel_rfl
theorem s118_ok (n : Nat) : ConOK Go.Proofs.Try.prog 118 (s118_c n) := func_ok (h25 n) hP Go.Proofs.Try.func118 (by kernel_rfl) (by kernel_rfl) (O := []) trivial (s118_eq n)
def e26 (n : Nat) : Env := ⟨gT, (118, s118_c n) :: (e25 n).C, gQ, (e25 n).I, (e25 n).M, (e25 n).S, (e25 n).D, []⟩
theorem h26 (n : Nat) : EnvOK Go.Proofs.Try.prog (e26 n) := env_add (h25 n) (s118_ok n)

/-- (criadera/taste.book).from -/
def s83 (n : Nat) (b : (List (List UInt8)) × Int × (List ((List UInt8) × (List Int) × (List (List UInt8))))) (v_class : Int) : Option ((List (Int × (List Int)))) :=
  (s118 n v_class ((List.length b.1 : Nat) : Int) (fun y0 y1 => s114 n (b.1, (b.2.1, b.2.2)) y0 y1)).bind fun x =>
  some (x)

def s83_c (n : Nat) : Con := ⟨[(.pair (.slice .str) (.pair (.int .i64) (.slice (.pair .str (.pair (.slice (.int .i64)) (.slice .str)))))), (.int .i64)], [], [(.seq (.pair (.int .i64) (.slice (.int .i64))))], fun x y => s83 n x.1 x.2, false⟩
theorem s83_eq (n : Nat) (x : denL [(.pair (.slice .str) (.pair (.int .i64) (.slice (.pair .str (.pair (.slice (.int .i64)) (.slice .str)))))), (.int .i64)]) (y : denL []) : funR (e26 n) Go.Proofs.Try.f83 [(.pair (.slice .str) (.pair (.int .i64) (.slice (.pair .str (.pair (.slice (.int .i64)) (.slice .str)))))), (.int .i64)] [] [(.seq (.pair (.int .i64) (.slice (.int .i64))))] false [] x y = (s83_c n).fn x y := by kernel_rfl
theorem s83_ok (n : Nat) : ConOK Go.Proofs.Try.prog 83 (s83_c n) := func_ok (h26 n) hP Go.Proofs.Try.func83 (by kernel_rfl) (by kernel_rfl) (O := []) trivial (s83_eq n)
def e27 (n : Nat) : Env := ⟨gT, (83, s83_c n) :: (e26 n).C, gQ, (e26 n).I, (e26 n).M, (e26 n).S, (e26 n).D, []⟩
theorem h27 (n : Nat) : EnvOK Go.Proofs.Try.prog (e27 n) := env_add (h26 n) (s83_ok n)

def s20_l0 (n : Nat) (d : (List (Int × (List Int))) × Int × Int × Unit) (y : Int × (List Int)) (again : ((List (Int × (List Int))) × Int × Int × Unit) → Option ((List Int) × Int)) (ks : ((List Int) × Int × Unit → Option ((List Int) × Int)) × Unit) : Option ((List Int) × Int) :=
  match d, ks with
  | (t30, v_class, t5, _), (k0, _) =>
  bif (y.1 == v_class) then
    k0 (y.2, (0 : Int), ())
  else
    again (t30, v_class, t5, ())

/-- criadera/taste.SheetTo -/
def s20 (n : Nat) (b : (List (List UInt8)) × Int × (List ((List UInt8) × (List Int) × (List (List UInt8))))) (v_class : Int) : Option ((List Int) × Int) :=
  (s79 n (b.1, (b.2.1, b.2.2))).bind fun x =>
  (s82 n v_class (0 : Int) (IntKind.wrap .i64 (((List.length b.2.2 : Nat) : Int) - (1 : Int)))).bind fun x_1 =>
  (s81 n x_1 (6 : Int)).bind fun x_2 =>
  (s80 n ([x.2, x_2] : List Int)).bind fun x_3 =>
  bif (x_3 != (0 : Int)) then
    some (([] : List Int), x_3)
  else
    (s83 n (x.1.1, (x.1.2.1, x.1.2.2)) b.2.1).bind fun x_4 =>
    rangeG (s20_l0 n) (fun (t4, t5_2, _) =>
        some (t4, t5_2), ()) (fun (t30_1, v_class_2, t5_1, _) =>
        some (([] : List Int), (12 : Int))) x_4 (x_4, v_class, (0 : Int), ())

def s20_t0 : Templ := ⟨38, [(.seq (.pair (.int .i64) (.slice (.int .i64)))), (.int .i64), (.int .i64)], [(3, .v (.bptr 38 0)), (4, .v (.bptr 39 0)), (5, .v (.bptr 40 0)), (30, .v (.hole (.seq (.pair (.int .i64) (.slice (.int .i64))))))], [(38, .box (.int .i64) [.hole (.int .i64)]), (39, .box (.slice (.int .i64)) [.nils]), (40, .box (.int .i64) [.hole (.int .i64)])], []⟩
def s20_x0 : List (Way × Templ) := [(.ret, ⟨38, [(.slice (.int .i64)), (.int .i64)], [(4, .v (.bptr 38 0)), (5, .v (.bptr 39 0))], [(38, .box (.slice (.int .i64)) [.hole (.slice (.int .i64))]), (39, .box (.int .i64) [.hole (.int .i64)])], []⟩)]
theorem s20_b0 (n : Nat) (d) (x) (again) (ks) : codeR (R := (denL [(.slice (.int .i64)), (.int .i64)])) (e27 n) (Hdl.no (R := (denL [(.slice (.int .i64)), (.int .i64)]))) (rgA (lp (bd Go.Proofs.Try.f20) 0)) [] (mkB s20_t0 [3, 4, 5, 30] 31 (.pair (.int .i64) (.slice (.int .i64))) d x) (thenB fun st => codeR (R := (denL [(.slice (.int .i64)), (.int .i64)])) (e27 n) (Hdl.no (R := (denL [(.slice (.int .i64)), (.int .i64)]))) (rgB (lp (bd Go.Proofs.Try.f20) 0)) [] st (turnB (e27 n) s20_t0 [3, 4, 5, 30] s20_x0 again ks)) = s20_l0 n d x again ks := by kernel_rfl
theorem s20_s0 (n : Nat) : Sound Go.Proofs.Try.prog (Hdl.no (R := (denL [(.slice (.int .i64)), (.int .i64)]))) false (lp (bd Go.Proofs.Try.f20) 0) ((fun n => rangeO (R := (denL [(.slice (.int .i64)), (.int .i64)])) (e27 n) (.pair (.int .i64) (.slice (.int .i64))) (rgG (lp (bd Go.Proofs.Try.f20) 0)) s20_t0 s20_x0 (s20_l0 n)) n) := range_ok (h27 n) hP (p := 31) (F := [3, 4, 5, 30]) (Oa := []) (Ob := []) (by kernel_rfl) rfl (by decide) (by decide) rfl trivial trivial (s20_b0 n)
def s20_c (n : Nat) : Con := ⟨[(.pair (.slice .str) (.pair (.int .i64) (.slice (.pair .str (.pair (.slice (.int .i64)) (.slice .str)))))), (.int .i64)], [], [(.slice (.int .i64)), (.int .i64)], fun x y => s20 n x.1 x.2, false⟩
theorem s20_eq (n : Nat) (x : denL [(.pair (.slice .str) (.pair (.int .i64) (.slice (.pair .str (.pair (.slice (.int .i64)) (.slice .str)))))), (.int .i64)]) (y : denL []) : funR (e27 n) Go.Proofs.Try.f20 [(.pair (.slice .str) (.pair (.int .i64) (.slice (.pair .str (.pair (.slice (.int .i64)) (.slice .str)))))), (.int .i64)] [] [(.slice (.int .i64)), (.int .i64)] false [(fun n => rangeO (R := (denL [(.slice (.int .i64)), (.int .i64)])) (e27 n) (.pair (.int .i64) (.slice (.int .i64))) (rgG (lp (bd Go.Proofs.Try.f20) 0)) s20_t0 s20_x0 (s20_l0 n)) n] x y = (s20_c n).fn x y := by kernel_rfl
theorem s20_ok (n : Nat) : ConOK Go.Proofs.Try.prog 20 (s20_c n) := func_ok (h27 n) hP Go.Proofs.Try.func20 (by kernel_rfl) (by kernel_rfl) (O := [(fun n => rangeO (R := (denL [(.slice (.int .i64)), (.int .i64)])) (e27 n) (.pair (.int .i64) (.slice (.int .i64))) (rgG (lp (bd Go.Proofs.Try.f20) 0)) s20_t0 s20_x0 (s20_l0 n)) n]) ⟨s20_s0 n, trivial⟩ (s20_eq n)
def e28 (n : Nat) : Env := ⟨gT, (20, s20_c n) :: (e27 n).C, gQ, (e27 n).I, (e27 n).M, (e27 n).S, (e27 n).D, []⟩
theorem h28 (n : Nat) : EnvOK Go.Proofs.Try.prog (e28 n) := env_add (h27 n) (s20_ok n)

/-- criadera/criaderalaw07.Panel -/
def s78 (n : Nat) : Option ((Int × Int × (List Int) × (List (List Int)))) :=
  some (((2 : Int), ((2 : Int), (([(0 : Int), (1 : Int), (0 : Int), (1 : Int), (0 : Int)] : List Int), ([([(0 : Int), (1 : Int), (0 : Int), (0 : Int), (1 : Int)] : List Int), ([(0 : Int), (1 : Int), (0 : Int), (1 : Int), (0 : Int)] : List Int)] : List (List Int))))))

def s78_c (n : Nat) : Con := ⟨[], [], [(.pair (.int .i64) (.pair (.int .i64) (.pair (.slice (.int .i64)) (.slice (.slice (.int .i64))))))], fun x y => s78 n, false⟩
theorem s78_eq (n : Nat) (x : denL []) (y : denL []) : funR (e28 n) Go.Proofs.Try.f78 [] [] [(.pair (.int .i64) (.pair (.int .i64) (.pair (.slice (.int .i64)) (.slice (.slice (.int .i64))))))] false [] x y = (s78_c n).fn x y := by kernel_rfl
theorem s78_ok (n : Nat) : ConOK Go.Proofs.Try.prog 78 (s78_c n) := func_ok (h28 n) hP Go.Proofs.Try.func78 (by kernel_rfl) (by kernel_rfl) (O := []) trivial (s78_eq n)
def e29 (n : Nat) : Env := ⟨gT, (78, s78_c n) :: (e28 n).C, gQ, (e28 n).I, (e28 n).M, (e28 n).S, (e28 n).D, []⟩
theorem h29 (n : Nat) : EnvOK Go.Proofs.Try.prog (e29 n) := env_add (h28 n) (s78_ok n)

/-- criadera/taste.CheckPanel$1 -/
def s107 (n : Nat) (v_n : Int) (c0 : Int × Int × (List Int) × (List (List Int))) : Option (Bool) :=
  (s82 n v_n (0 : Int) (IntKind.wrap .i64 (c0.1 - (1 : Int)))).bind fun x =>
  some ((!x))

def s107_c (n : Nat) : Con := ⟨[(.int .i64)], [(.pair (.int .i64) (.pair (.int .i64) (.pair (.slice (.int .i64)) (.slice (.slice (.int .i64))))))], [.bool], fun x y => s107 n x y, false⟩
theorem s107_eq (n : Nat) (x : denL [(.int .i64)]) (y : denL [(.pair (.int .i64) (.pair (.int .i64) (.pair (.slice (.int .i64)) (.slice (.slice (.int .i64))))))]) : funR (e29 n) Go.Proofs.Try.f107 [(.int .i64)] [(.pair (.int .i64) (.pair (.int .i64) (.pair (.slice (.int .i64)) (.slice (.slice (.int .i64))))))] [.bool] false [] x y = (s107_c n).fn x y := by kernel_rfl
theorem s107_ok (n : Nat) : ConOK Go.Proofs.Try.prog 107 (s107_c n) := func_ok (h29 n) hP Go.Proofs.Try.func107 (by kernel_rfl) (by kernel_rfl) (O := []) trivial (s107_eq n)
def e30 (n : Nat) : Env := ⟨gT, (107, s107_c n) :: (e29 n).C, gQ, (e29 n).I, (e29 n).M, (e29 n).S, (e29 n).D, []⟩
theorem h30 (n : Nat) : EnvOK Go.Proofs.Try.prog (e30 n) := env_add (h29 n) (s107_ok n)

/-- criadera/taste.CheckPanel$2 -/
def s108 (n : Nat) (v_n : Int) (c0 : Int × Int × (List Int) × (List (List Int))) : Option (Bool) :=
  (s82 n v_n (0 : Int) (IntKind.wrap .i64 (c0.2.1 - (1 : Int)))).bind fun x =>
  some ((!x))

def s108_c (n : Nat) : Con := ⟨[(.int .i64)], [(.pair (.int .i64) (.pair (.int .i64) (.pair (.slice (.int .i64)) (.slice (.slice (.int .i64))))))], [.bool], fun x y => s108 n x y, false⟩
theorem s108_eq (n : Nat) (x : denL [(.int .i64)]) (y : denL [(.pair (.int .i64) (.pair (.int .i64) (.pair (.slice (.int .i64)) (.slice (.slice (.int .i64))))))]) : funR (e30 n) Go.Proofs.Try.f108 [(.int .i64)] [(.pair (.int .i64) (.pair (.int .i64) (.pair (.slice (.int .i64)) (.slice (.slice (.int .i64))))))] [.bool] false [] x y = (s108_c n).fn x y := by kernel_rfl
theorem s108_ok (n : Nat) : ConOK Go.Proofs.Try.prog 108 (s108_c n) := func_ok (h30 n) hP Go.Proofs.Try.func108 (by kernel_rfl) (by kernel_rfl) (O := []) trivial (s108_eq n)
def e31 (n : Nat) : Env := ⟨gT, (108, s108_c n) :: (e30 n).C, gQ, (e30 n).I, (e30 n).M, (e30 n).S, (e30 n).D, []⟩
theorem h31 (n : Nat) : EnvOK Go.Proofs.Try.prog (e31 n) := env_add (h30 n) (s108_ok n)

def s50_l0 (n : Nat) (d : (Int × Int × (List Int) × (List (List Int))) × (List (List Int)) × Int × Int × Unit) (again : ((Int × Int × (List Int) × (List (List Int))) × (List (List Int)) × Int × Int × Unit) → Option (Int × Int)) (ks : (Unit → Option (Int × Int)) × (Int × Int × Unit → Option (Int × Int)) × Unit) : Option (Int × Int) :=
  match d, ks with
  | (p, t58, t59, t60, _), (k0, k1, _) =>
  bif (decide (t60 < t59)) then
    (geti t58 t60).bind fun e =>
    (s94 n e (fun y0 => s108 n y0 p)).bind fun x =>
    (s81 n (((List.length e : Nat) : Int) == ((List.length p.2.2.1 : Nat) : Int)) (10 : Int)).bind fun x_1 =>
    (s81 n (!x) (6 : Int)).bind fun x_2 =>
    (s80 n ([x_1, x_2] : List Int)).bind fun x_3 =>
    bif (x_3 != (0 : Int)) then
      k1 (t60, x_3, ())
    else
      again (p, t58, t59, (IntKind.wrap .i64 (t60 + (1 : Int))), ())
  else
    k0 (())

/-- criadera/taste.CheckPanel -/
def s50 (n : Nat) (p : Int × Int × (List Int) × (List (List Int))) : Option (Int × Int) :=
  (s82 n p.1 (1 : Int) (30 : Int)).bind fun x =>
  (part x (s82 n p.2.1 (1 : Int) (6 : Int)) false).bind fun x_1 =>
  (s94 n p.2.2.1 (fun y0 => s107 n y0 (p.1, (p.2.1, (p.2.2.1, p.2.2.2))))).bind fun x_2 =>
  (s81 n (x && x_1) (2 : Int)).bind fun x_3 =>
  (s81 n ((decide (((List.length p.2.2.1 : Nat) : Int) > (0 : Int))) && (decide (((List.length p.2.2.2 : Nat) : Int) > (0 : Int)))) (10 : Int)).bind fun x_4 =>
  (s81 n ((decide (((List.length p.2.2.1 : Nat) : Int) ≤ (30 : Int))) && (decide (((List.length p.2.2.2 : Nat) : Int) ≤ (8 : Int)))) (8 : Int)).bind fun x_5 =>
  (s81 n (!x_2) (6 : Int)).bind fun x_6 =>
  (s80 n ([x_3, x_4, x_5, x_6] : List Int)).bind fun x_7 =>
  bif (x_7 != (0 : Int)) then
    some ((0 : Int), x_7)
  else
    loopG (s50_l0 n) n ((p.1, (p.2.1, (p.2.2.1, p.2.2.2))), p.2.2.2, ((List.length p.2.2.2 : Nat) : Int), (0 : Int), ())
      (fun (_) =>
        some ((0 : Int), (0 : Int)),
      fun (t2, t3, _) =>
        some (t2, t3), ())

def s50_t0 : Templ := ⟨85, [(.pair (.int .i64) (.pair (.int .i64) (.pair (.slice (.int .i64)) (.slice (.slice (.int .i64)))))), (.slice (.slice (.int .i64))), (.int .i64), (.int .i64)], [(1, .v (.pp (.pair (.int .i64) (.pair (.int .i64) (.pair (.slice (.int .i64)) (.slice (.slice (.int .i64)))))))), (58, .v (.hole (.slice (.slice (.int .i64))))), (59, .v (.hole (.int .i64))), (60, .v (.hole (.int .i64)))], [], []⟩
def s50_x0 : List (Way × Templ) := [(.exit 0, ⟨85, [], [], [], []⟩), (.ret, ⟨85, [(.int .i64), (.int .i64)], [(2, .v (.hole (.int .i64))), (3, .v (.hole (.int .i64)))], [], []⟩)]
def s50_o0 (n : Nat) : Ev (denL [(.int .i64), (.int .i64)]) := loopO n (e31 n) s50_t0 s50_x0 (s50_l0 n)
theorem s50_b0 (n : Nat) (d) (again) (ks) : codeR (R := (denL [(.int .i64), (.int .i64)])) (e31 n) (Hdl.no (R := (denL [(.int .i64), (.int .i64)]))) (inn (lp (bd Go.Proofs.Try.f50) 0)) [] (mk s50_t0 d) (turnR (e31 n) s50_t0 s50_x0 again ks) = s50_l0 n d again ks := by kernel_rfl
theorem s50_s0 (n : Nat) : Sound Go.Proofs.Try.prog (Hdl.no (R := (denL [(.int .i64), (.int .i64)]))) false (lp (bd Go.Proofs.Try.f50) 0) (s50_o0 n) := loop_ok (h31 n) hP (by kernel_rfl) (O := []) trivial (s50_b0 n)
def s50_c (n : Nat) : Con := ⟨[(.pair (.int .i64) (.pair (.int .i64) (.pair (.slice (.int .i64)) (.slice (.slice (.int .i64))))))], [], [(.int .i64), (.int .i64)], fun x y => s50 n x, false⟩
theorem s50_eq (n : Nat) (x : denL [(.pair (.int .i64) (.pair (.int .i64) (.pair (.slice (.int .i64)) (.slice (.slice (.int .i64))))))]) (y : denL []) : funR (e31 n) Go.Proofs.Try.f50 [(.pair (.int .i64) (.pair (.int .i64) (.pair (.slice (.int .i64)) (.slice (.slice (.int .i64))))))] [] [(.int .i64), (.int .i64)] false [s50_o0 n] x y = (s50_c n).fn x y := by kernel_rfl
theorem s50_ok (n : Nat) : ConOK Go.Proofs.Try.prog 50 (s50_c n) := func_ok (h31 n) hP Go.Proofs.Try.func50 (by kernel_rfl) (by kernel_rfl) (O := [s50_o0 n]) ⟨s50_s0 n, trivial⟩ (s50_eq n)
def e32 (n : Nat) : Env := ⟨gT, (50, s50_c n) :: (e31 n).C, gQ, (e31 n).I, (e31 n).M, (e31 n).S, (e31 n).D, []⟩
theorem h32 (n : Nat) : EnvOK Go.Proofs.Try.prog (e32 n) := env_add (h31 n) (s50_ok n)

/-- criadera/taste.openPanel -/
def s89 (n : Nat) (p : Int × Int × (List Int) × (List (List Int))) : Option ((Int × Int × (List Int) × (List (List Int))) × Int) :=
  (s50 n (p.1, (p.2.1, (p.2.2.1, p.2.2.2)))).bind fun x =>
  some ((p.1, (p.2.1, (p.2.2.1, p.2.2.2))), x.2)

def s89_c (n : Nat) : Con := ⟨[(.pair (.int .i64) (.pair (.int .i64) (.pair (.slice (.int .i64)) (.slice (.slice (.int .i64))))))], [], [(.pair (.int .i64) (.pair (.int .i64) (.pair (.slice (.int .i64)) (.slice (.slice (.int .i64)))))), (.int .i64)], fun x y => s89 n x, false⟩
theorem s89_eq (n : Nat) (x : denL [(.pair (.int .i64) (.pair (.int .i64) (.pair (.slice (.int .i64)) (.slice (.slice (.int .i64))))))]) (y : denL []) : funR (e32 n) Go.Proofs.Try.f89 [(.pair (.int .i64) (.pair (.int .i64) (.pair (.slice (.int .i64)) (.slice (.slice (.int .i64))))))] [] [(.pair (.int .i64) (.pair (.int .i64) (.pair (.slice (.int .i64)) (.slice (.slice (.int .i64)))))), (.int .i64)] false [] x y = (s89_c n).fn x y := by kernel_rfl
theorem s89_ok (n : Nat) : ConOK Go.Proofs.Try.prog 89 (s89_c n) := func_ok (h32 n) hP Go.Proofs.Try.func89 (by kernel_rfl) (by kernel_rfl) (O := []) trivial (s89_eq n)
def e33 (n : Nat) : Env := ⟨gT, (89, s89_c n) :: (e32 n).C, gQ, (e32 n).I, (e32 n).M, (e32 n).S, (e32 n).D, []⟩
theorem h33 (n : Nat) : EnvOK Go.Proofs.Try.prog (e33 n) := env_add (h32 n) (s89_ok n)

/-- (criadera/taste.panel).tasterErr -/
def s90 (n : Nat) (p : Int × Int × (List Int) × (List (List Int))) (v_n : Int) : Option (Int) :=
  (s82 n v_n (0 : Int) (IntKind.wrap .i64 (((List.length p.2.2.2 : Nat) : Int) - (1 : Int)))).bind fun x =>
  (s81 n x (6 : Int)).bind fun x_1 =>
  some (x_1)

def s90_c (n : Nat) : Con := ⟨[(.pair (.int .i64) (.pair (.int .i64) (.pair (.slice (.int .i64)) (.slice (.slice (.int .i64)))))), (.int .i64)], [], [(.int .i64)], fun x y => s90 n x.1 x.2, false⟩
theorem s90_eq (n : Nat) (x : denL [(.pair (.int .i64) (.pair (.int .i64) (.pair (.slice (.int .i64)) (.slice (.slice (.int .i64)))))), (.int .i64)]) (y : denL []) : funR (e33 n) Go.Proofs.Try.f90 [(.pair (.int .i64) (.pair (.int .i64) (.pair (.slice (.int .i64)) (.slice (.slice (.int .i64)))))), (.int .i64)] [] [(.int .i64)] false [] x y = (s90_c n).fn x y := by kernel_rfl
theorem s90_ok (n : Nat) : ConOK Go.Proofs.Try.prog 90 (s90_c n) := func_ok (h33 n) hP Go.Proofs.Try.func90 (by kernel_rfl) (by kernel_rfl) (O := []) trivial (s90_eq n)
def e34 (n : Nat) : Env := ⟨gT, (90, s90_c n) :: (e33 n).C, gQ, (e33 n).I, (e33 n).M, (e33 n).S, (e33 n).D, []⟩
theorem h34 (n : Nat) : EnvOK Go.Proofs.Try.prog (e34 n) := env_add (h33 n) (s90_ok n)

def s91_l0_0 (n : Nat) (d : (List Int) × Int × Int × (List Int) × Int × Int × Int × Int × Int × Int × (List Int) × (List (List Int)) × Int × Int × Int × Int × Unit) (again : ((List Int) × Int × Int × (List Int) × Int × Int × Int × Int × Int × Int × (List Int) × (List (List Int)) × Int × Int × Int × Int × Unit) → Option ((Int × Int))) (ks : ((List Int) × (List Int) × Int × Int × Int × Int × (List Int) × (List (List Int)) × Int × Int × Int × Int × Unit → Option ((Int × Int))) × Unit) : Option ((Int × Int)) :=
  match d, ks with
  | (l, i, cask, t18, t19, t20, t25, t26, p, p_1, p_2, p_3, t4, t4_1, out, out_1, _), (k0, _) =>
  bif (decide (t26 < t25)) then
    (geti p_2 t26).bind fun e =>
    bif (e != cask) then
      again (l, i, cask, t18, t19, t20, t25, (IntKind.wrap .i64 (t26 + (1 : Int))), p, p_1, p_2, p_3, t4, t4_1, out, out_1, ())
    else
      (geti l i).bind fun e_1 =>
      (geti l t26).bind fun e_2 =>
      bif (e_1 == e_2) then
        again (l, i, cask, t18, t19, t20, t25, (IntKind.wrap .i64 (t26 + (1 : Int))), p, p_1, p_2, p_3, t4, t4_1, (IntKind.wrap .i64 (out + (1 : Int))), (IntKind.wrap .i64 (out_1 + (1 : Int))), ())
      else
        again (l, i, cask, t18, t19, t20, t25, (IntKind.wrap .i64 (t26 + (1 : Int))), p, p_1, p_2, p_3, t4, t4_1, out, (IntKind.wrap .i64 (out_1 + (1 : Int))), ())
  else
    k0 (l, t18, t19, t20, p, p_1, p_2, p_3, t4, t4_1, out, out_1, ())

def s91_l0 (n : Nat) (d : (List Int) × (List Int) × Int × Int × Int × Int × (List Int) × (List (List Int)) × Int × Int × Int × Int × Unit) (again : ((List Int) × (List Int) × Int × Int × Int × Int × (List Int) × (List (List Int)) × Int × Int × Int × Int × Unit) → Option ((Int × Int))) (ks : (Int × Int × Int × Int × Unit → Option ((Int × Int))) × Unit) : Option ((Int × Int)) :=
  match d, ks with
  | (l, t18, t19, t20, p, p_1, p_2, p_3, t4, t4_1, out, out_1, _), (k0, _) =>
  bif (decide (t20 < t19)) then
    (geti t18 t20).bind fun e =>
    loopG (s91_l0_0 n) n (l, t20, e, t18, t19, t20, t20, (0 : Int), p, p_1, p_2, p_3, t4, t4_1, out, out_1, ())
      (fun (l_2, t18_2, t19_2, t20_2, p_8, p_9, p_10, p_11, t4_4, t4_5, out_4, out_5, _) =>
        again (l_2, t18_2, t19_2, (IntKind.wrap .i64 (t20_2 + (1 : Int))), p_8, p_9, p_10, p_11, t4_4, t4_5, out_4, out_5, ()), ())
  else
    k0 (t4, t4_1, out, out_1, ())

/-- (criadera/taste.panel).steadiness -/
def s91 (n : Nat) (p : Int × Int × (List Int) × (List (List Int))) (taster : Int) : Option ((Int × Int)) :=
  (geti p.2.2.2 taster).bind fun e =>
  loopG (s91_l0 n) n (e, p.2.2.1, ((List.length p.2.2.1 : Nat) : Int), (0 : Int), p.1, p.2.1, p.2.2.1, p.2.2.2, (0 : Int), (0 : Int), (0 : Int), (0 : Int), ())
    (fun (t4_6, t4_7, out_6, out_7, _) =>
      some ((out_6, out_7)), ())

def s91_t0_0 : Templ := ⟨57, [(.slice (.int .i64)), (.int .i64), (.int .i64), (.slice (.int .i64)), (.int .i64), (.int .i64), (.int .i64), (.int .i64), (.int .i64), (.int .i64), (.slice (.int .i64)), (.slice (.slice (.int .i64))), (.int .i64), (.int .i64), (.int .i64), (.int .i64)], [(2, .v (.bptr 57 0)), (4, .v (.bptr 58 0)), (5, .v (.bptr 59 0)), (6, .v (.hole (.slice (.int .i64)))), (7, .v (.hole (.int .i64))), (8, .v (.hole (.int .i64))), (18, .v (.hole (.slice (.int .i64)))), (19, .v (.hole (.int .i64))), (20, .v (.hole (.int .i64))), (25, .v (.hole (.int .i64))), (26, .v (.hole (.int .i64)))], [(57, .box (.pair (.int .i64) (.pair (.int .i64) (.pair (.slice (.int .i64)) (.slice (.slice (.int .i64)))))) [.hole (.int .i64), .hole (.int .i64), .hole (.slice (.int .i64)), .hole (.slice (.slice (.int .i64)))]), (58, .box (.pair (.int .i64) (.int .i64)) [.hole (.int .i64), .hole (.int .i64)]), (59, .box (.pair (.int .i64) (.int .i64)) [.hole (.int .i64), .hole (.int .i64)])], []⟩
def s91_x0_0 : List (Way × Templ) := [(.exit 2, ⟨57, [(.slice (.int .i64)), (.slice (.int .i64)), (.int .i64), (.int .i64), (.int .i64), (.int .i64), (.slice (.int .i64)), (.slice (.slice (.int .i64))), (.int .i64), (.int .i64), (.int .i64), (.int .i64)], [(2, .v (.bptr 57 0)), (4, .v (.bptr 58 0)), (5, .v (.bptr 59 0)), (6, .v (.hole (.slice (.int .i64)))), (18, .v (.hole (.slice (.int .i64)))), (19, .v (.hole (.int .i64))), (20, .v (.hole (.int .i64)))], [(57, .box (.pair (.int .i64) (.pair (.int .i64) (.pair (.slice (.int .i64)) (.slice (.slice (.int .i64)))))) [.hole (.int .i64), .hole (.int .i64), .hole (.slice (.int .i64)), .hole (.slice (.slice (.int .i64)))]), (58, .box (.pair (.int .i64) (.int .i64)) [.hole (.int .i64), .hole (.int .i64)]), (59, .box (.pair (.int .i64) (.int .i64)) [.hole (.int .i64), .hole (.int .i64)])], []⟩)]
def s91_o0_0 (n : Nat) : Ev (denL [(.pair (.int .i64) (.int .i64))]) := loopO n (e34 n) s91_t0_0 s91_x0_0 (s91_l0_0 n)
theorem s91_b0_0 (n : Nat) (d) (again) (ks) : codeR (R := (denL [(.pair (.int .i64) (.int .i64))])) (e34 n) (Hdl.no (R := (denL [(.pair (.int .i64) (.int .i64))]))) (inn (lp (inn (lp (bd Go.Proofs.Try.f91) 0)) 0)) [] (mk s91_t0_0 d) (turnR (e34 n) s91_t0_0 s91_x0_0 again ks) = s91_l0_0 n d again ks := by kernel_rfl
theorem s91_s0_0 (n : Nat) : Sound Go.Proofs.Try.prog (Hdl.no (R := (denL [(.pair (.int .i64) (.int .i64))]))) false (lp (inn (lp (bd Go.Proofs.Try.f91) 0)) 0) (s91_o0_0 n) := loop_ok (h34 n) hP (by kernel_rfl) (O := []) trivial (s91_b0_0 n)
def s91_t0 : Templ := ⟨57, [(.slice (.int .i64)), (.slice (.int .i64)), (.int .i64), (.int .i64), (.int .i64), (.int .i64), (.slice (.int .i64)), (.slice (.slice (.int .i64))), (.int .i64), (.int .i64), (.int .i64), (.int .i64)], [(2, .v (.bptr 57 0)), (4, .v (.bptr 58 0)), (5, .v (.bptr 59 0)), (6, .v (.hole (.slice (.int .i64)))), (18, .v (.hole (.slice (.int .i64)))), (19, .v (.hole (.int .i64))), (20, .v (.hole (.int .i64)))], [(57, .box (.pair (.int .i64) (.pair (.int .i64) (.pair (.slice (.int .i64)) (.slice (.slice (.int .i64)))))) [.hole (.int .i64), .hole (.int .i64), .hole (.slice (.int .i64)), .hole (.slice (.slice (.int .i64)))]), (58, .box (.pair (.int .i64) (.int .i64)) [.hole (.int .i64), .hole (.int .i64)]), (59, .box (.pair (.int .i64) (.int .i64)) [.hole (.int .i64), .hole (.int .i64)])], []⟩
def s91_x0 : List (Way × Templ) := [(.exit 0, ⟨57, [(.int .i64), (.int .i64), (.int .i64), (.int .i64)], [(4, .v (.bptr 57 0)), (5, .v (.bptr 58 0))], [(57, .box (.pair (.int .i64) (.int .i64)) [.hole (.int .i64), .hole (.int .i64)]), (58, .box (.pair (.int .i64) (.int .i64)) [.hole (.int .i64), .hole (.int .i64)])], []⟩)]
def s91_o0 (n : Nat) : Ev (denL [(.pair (.int .i64) (.int .i64))]) := loopO n (e34 n) s91_t0 s91_x0 (s91_l0 n)
theorem s91_b0 (n : Nat) (d) (again) (ks) : codeR (R := (denL [(.pair (.int .i64) (.int .i64))])) (e34 n) (Hdl.no (R := (denL [(.pair (.int .i64) (.int .i64))]))) (inn (lp (bd Go.Proofs.Try.f91) 0)) [s91_o0_0 n] (mk s91_t0 d) (turnR (e34 n) s91_t0 s91_x0 again ks) = s91_l0 n d again ks := by kernel_rfl
theorem s91_s0 (n : Nat) : Sound Go.Proofs.Try.prog (Hdl.no (R := (denL [(.pair (.int .i64) (.int .i64))]))) false (lp (bd Go.Proofs.Try.f91) 0) (s91_o0 n) := loop_ok (h34 n) hP (by kernel_rfl) (O := [s91_o0_0 n]) ⟨s91_s0_0 n, trivial⟩ (s91_b0 n)
def s91_c (n : Nat) : Con := ⟨[(.pair (.int .i64) (.pair (.int .i64) (.pair (.slice (.int .i64)) (.slice (.slice (.int .i64)))))), (.int .i64)], [], [(.pair (.int .i64) (.int .i64))], fun x y => s91 n x.1 x.2, false⟩
theorem s91_eq (n : Nat) (x : denL [(.pair (.int .i64) (.pair (.int .i64) (.pair (.slice (.int .i64)) (.slice (.slice (.int .i64)))))), (.int .i64)]) (y : denL []) : funR (e34 n) Go.Proofs.Try.f91 [(.pair (.int .i64) (.pair (.int .i64) (.pair (.slice (.int .i64)) (.slice (.slice (.int .i64)))))), (.int .i64)] [] [(.pair (.int .i64) (.int .i64))] false [s91_o0 n] x y = (s91_c n).fn x y := by kernel_rfl
theorem s91_ok (n : Nat) : ConOK Go.Proofs.Try.prog 91 (s91_c n) := func_ok (h34 n) hP Go.Proofs.Try.func91 (by kernel_rfl) (by kernel_rfl) (O := [s91_o0 n]) ⟨s91_s0 n, trivial⟩ (s91_eq n)
def e35 (n : Nat) : Env := ⟨gT, (91, s91_c n) :: (e34 n).C, gQ, (e34 n).I, (e34 n).M, (e34 n).S, (e34 n).D, []⟩
theorem h35 (n : Nat) : EnvOK Go.Proofs.Try.prog (e35 n) := env_add (h34 n) (s91_ok n)

/-- criadera/taste.SteadyOf -/
def s35 (n : Nat) (p : Int × Int × (List Int) × (List (List Int))) (taster : Int) : Option ((Int × Int) × Int) :=
  (s89 n (p.1, (p.2.1, (p.2.2.1, p.2.2.2)))).bind fun x =>
  (s90 n (x.1.1, (x.1.2.1, (x.1.2.2.1, x.1.2.2.2))) taster).bind fun x_1 =>
  (s80 n ([x.2, x_1] : List Int)).bind fun x_2 =>
  bif (x_2 != (0 : Int)) then
    some (((0 : Int), (0 : Int)), x_2)
  else
    (s91 n (x.1.1, (x.1.2.1, (x.1.2.2.1, x.1.2.2.2))) taster).bind fun x_3 =>
    some ((x_3.1, x_3.2), (0 : Int))

def s35_c (n : Nat) : Con := ⟨[(.pair (.int .i64) (.pair (.int .i64) (.pair (.slice (.int .i64)) (.slice (.slice (.int .i64)))))), (.int .i64)], [], [(.pair (.int .i64) (.int .i64)), (.int .i64)], fun x y => s35 n x.1 x.2, false⟩
theorem s35_eq (n : Nat) (x : denL [(.pair (.int .i64) (.pair (.int .i64) (.pair (.slice (.int .i64)) (.slice (.slice (.int .i64)))))), (.int .i64)]) (y : denL []) : funR (e35 n) Go.Proofs.Try.f35 [(.pair (.int .i64) (.pair (.int .i64) (.pair (.slice (.int .i64)) (.slice (.slice (.int .i64)))))), (.int .i64)] [] [(.pair (.int .i64) (.int .i64)), (.int .i64)] false [] x y = (s35_c n).fn x y := by kernel_rfl
theorem s35_ok (n : Nat) : ConOK Go.Proofs.Try.prog 35 (s35_c n) := func_ok (h35 n) hP Go.Proofs.Try.func35 (by kernel_rfl) (by kernel_rfl) (O := []) trivial (s35_eq n)
def e36 (n : Nat) : Env := ⟨gT, (35, s35_c n) :: (e35 n).C, gQ, (e35 n).I, (e35 n).M, (e35 n).S, (e35 n).D, []⟩
theorem h36 (n : Nat) : EnvOK Go.Proofs.Try.prog (e36 n) := env_add (h35 n) (s35_ok n)

/-- (criadera/taste.panel).caskErr -/
def s124 (n : Nat) (p : Int × Int × (List Int) × (List (List Int))) (v_n : Int) : Option (Int) :=
  (s82 n v_n (0 : Int) (IntKind.wrap .i64 (p.1 - (1 : Int)))).bind fun x =>
  (s81 n x (6 : Int)).bind fun x_1 =>
  some (x_1)

def s124_c (n : Nat) : Con := ⟨[(.pair (.int .i64) (.pair (.int .i64) (.pair (.slice (.int .i64)) (.slice (.slice (.int .i64)))))), (.int .i64)], [], [(.int .i64)], fun x y => s124 n x.1 x.2, false⟩
theorem s124_eq (n : Nat) (x : denL [(.pair (.int .i64) (.pair (.int .i64) (.pair (.slice (.int .i64)) (.slice (.slice (.int .i64)))))), (.int .i64)]) (y : denL []) : funR (e36 n) Go.Proofs.Try.f124 [(.pair (.int .i64) (.pair (.int .i64) (.pair (.slice (.int .i64)) (.slice (.slice (.int .i64)))))), (.int .i64)] [] [(.int .i64)] false [] x y = (s124_c n).fn x y := by kernel_rfl
theorem s124_ok (n : Nat) : ConOK Go.Proofs.Try.prog 124 (s124_c n) := func_ok (h36 n) hP Go.Proofs.Try.func124 (by kernel_rfl) (by kernel_rfl) (O := []) trivial (s124_eq n)
def e37 (n : Nat) : Env := ⟨gT, (124, s124_c n) :: (e36 n).C, gQ, (e36 n).I, (e36 n).M, (e36 n).S, (e36 n).D, []⟩
theorem h37 (n : Nat) : EnvOK Go.Proofs.Try.prog (e37 n) := env_add (h36 n) (s124_ok n)

def s125_l0 (n : Nat) (d : (List Int) × (List Int) × Int × Int × Int × Int × (List Int) × (List (List Int)) × Unit) (again : ((List Int) × (List Int) × Int × Int × Int × Int × (List Int) × (List (List Int)) × Unit) → Option (Int)) (ks : (Unit → Option (Int)) × (Int × Unit → Option (Int)) × Unit) : Option (Int) :=
  match d, ks with
  | (l, t8, t9, t10, p, p_1, p_2, p_3, _), (k0, k1, _) =>
  bif (decide (t10 < t9)) then
    (geti t8 t10).bind fun e =>
    (s90 n (p, (p_1, (p_2, p_3))) e).bind fun x =>
    (part (!(t10 == (0 : Int))) (geti l (imax (0 : Int) (IntKind.wrap .i64 (t10 - (1 : Int))))) (0 : Int)).bind fun e_1 =>
    (s81 n ((t10 == (0 : Int)) || (decide (e > e_1))) (9 : Int)).bind fun x_1 =>
    (s80 n ([x, x_1] : List Int)).bind fun x_2 =>
    bif (x_2 != (0 : Int)) then
      k1 (x_2, ())
    else
      again (l, t8, t9, (IntKind.wrap .i64 (t10 + (1 : Int))), p, p_1, p_2, p_3, ())
  else
    k0 (())

/-- (criadera/taste.panel).tastersErr -/
def s125 (n : Nat) (p : Int × Int × (List Int) × (List (List Int))) (l : List Int) : Option (Int) :=
  loopG (s125_l0 n) n (l, l, ((List.length l : Nat) : Int), (0 : Int), p.1, p.2.1, p.2.2.1, p.2.2.2, ())
    (fun (_) =>
      some ((0 : Int)),
    fun (t4, _) =>
      some (t4), ())

def s125_t0 : Templ := ⟨37, [(.slice (.int .i64)), (.slice (.int .i64)), (.int .i64), (.int .i64), (.int .i64), (.int .i64), (.slice (.int .i64)), (.slice (.slice (.int .i64)))], [(1, .v (.hole (.slice (.int .i64)))), (2, .v (.bptr 37 0)), (8, .v (.hole (.slice (.int .i64)))), (9, .v (.hole (.int .i64))), (10, .v (.hole (.int .i64)))], [(37, .box (.pair (.int .i64) (.pair (.int .i64) (.pair (.slice (.int .i64)) (.slice (.slice (.int .i64)))))) [.hole (.int .i64), .hole (.int .i64), .hole (.slice (.int .i64)), .hole (.slice (.slice (.int .i64)))])], []⟩
def s125_x0 : List (Way × Templ) := [(.exit 0, ⟨37, [], [], [], []⟩), (.ret, ⟨37, [(.int .i64)], [(4, .v (.hole (.int .i64)))], [], []⟩)]
def s125_o0 (n : Nat) : Ev (denL [(.int .i64)]) := loopO n (e37 n) s125_t0 s125_x0 (s125_l0 n)
theorem s125_b0 (n : Nat) (d) (again) (ks) : codeR (R := (denL [(.int .i64)])) (e37 n) (Hdl.no (R := (denL [(.int .i64)]))) (inn (lp (bd Go.Proofs.Try.f125) 0)) [] (mk s125_t0 d) (turnR (e37 n) s125_t0 s125_x0 again ks) = s125_l0 n d again ks := by kernel_rfl
theorem s125_s0 (n : Nat) : Sound Go.Proofs.Try.prog (Hdl.no (R := (denL [(.int .i64)]))) false (lp (bd Go.Proofs.Try.f125) 0) (s125_o0 n) := loop_ok (h37 n) hP (by kernel_rfl) (O := []) trivial (s125_b0 n)
def s125_c (n : Nat) : Con := ⟨[(.pair (.int .i64) (.pair (.int .i64) (.pair (.slice (.int .i64)) (.slice (.slice (.int .i64)))))), (.slice (.int .i64))], [], [(.int .i64)], fun x y => s125 n x.1 x.2, false⟩
theorem s125_eq (n : Nat) (x : denL [(.pair (.int .i64) (.pair (.int .i64) (.pair (.slice (.int .i64)) (.slice (.slice (.int .i64)))))), (.slice (.int .i64))]) (y : denL []) : funR (e37 n) Go.Proofs.Try.f125 [(.pair (.int .i64) (.pair (.int .i64) (.pair (.slice (.int .i64)) (.slice (.slice (.int .i64)))))), (.slice (.int .i64))] [] [(.int .i64)] false [s125_o0 n] x y = (s125_c n).fn x y := by kernel_rfl
theorem s125_ok (n : Nat) : ConOK Go.Proofs.Try.prog 125 (s125_c n) := func_ok (h37 n) hP Go.Proofs.Try.func125 (by kernel_rfl) (by kernel_rfl) (O := [s125_o0 n]) ⟨s125_s0 n, trivial⟩ (s125_eq n)
def e38 (n : Nat) : Env := ⟨gT, (125, s125_c n) :: (e37 n).C, gQ, (e37 n).I, (e37 n).M, (e37 n).S, (e37 n).D, []⟩
theorem h38 (n : Nat) : EnvOK Go.Proofs.Try.prog (e38 n) := env_add (h37 n) (s125_ok n)

/-- criadera/taste.openTasters -/
def s86 (n : Nat) (p : Int × Int × (List Int) × (List (List Int))) (cask : Int) (tasters : List Int) : Option ((Int × Int × (List Int) × (List (List Int))) × Int) :=
  (s89 n (p.1, (p.2.1, (p.2.2.1, p.2.2.2)))).bind fun x =>
  (s124 n (x.1.1, (x.1.2.1, (x.1.2.2.1, x.1.2.2.2))) cask).bind fun x_1 =>
  (s125 n (x.1.1, (x.1.2.1, (x.1.2.2.1, x.1.2.2.2))) tasters).bind fun x_2 =>
  (s80 n ([x.2, x_1, x_2] : List Int)).bind fun x_3 =>
  some ((x.1.1, (x.1.2.1, (x.1.2.2.1, x.1.2.2.2))), x_3)

def s86_c (n : Nat) : Con := ⟨[(.pair (.int .i64) (.pair (.int .i64) (.pair (.slice (.int .i64)) (.slice (.slice (.int .i64)))))), (.int .i64), (.slice (.int .i64))], [], [(.pair (.int .i64) (.pair (.int .i64) (.pair (.slice (.int .i64)) (.slice (.slice (.int .i64)))))), (.int .i64)], fun x y => s86 n x.1 x.2.1 x.2.2, false⟩
theorem s86_eq (n : Nat) (x : denL [(.pair (.int .i64) (.pair (.int .i64) (.pair (.slice (.int .i64)) (.slice (.slice (.int .i64)))))), (.int .i64), (.slice (.int .i64))]) (y : denL []) : funR (e38 n) Go.Proofs.Try.f86 [(.pair (.int .i64) (.pair (.int .i64) (.pair (.slice (.int .i64)) (.slice (.slice (.int .i64)))))), (.int .i64), (.slice (.int .i64))] [] [(.pair (.int .i64) (.pair (.int .i64) (.pair (.slice (.int .i64)) (.slice (.slice (.int .i64)))))), (.int .i64)] false [] x y = (s86_c n).fn x y := by kernel_rfl
theorem s86_ok (n : Nat) : ConOK Go.Proofs.Try.prog 86 (s86_c n) := func_ok (h38 n) hP Go.Proofs.Try.func86 (by kernel_rfl) (by kernel_rfl) (O := []) trivial (s86_eq n)
def e39 (n : Nat) : Env := ⟨gT, (86, s86_c n) :: (e38 n).C, gQ, (e38 n).I, (e38 n).M, (e38 n).S, (e38 n).D, []⟩
theorem h39 (n : Nat) : EnvOK Go.Proofs.Try.prog (e39 n) := env_add (h38 n) (s86_ok n)

def s87_l0_0 (n : Nat) (d : Int × (List Int) × Int × Int × (List Int) × Int × Int × Int × Int × (List Int) × (List (List Int)) × (List Int) × Unit) (again : (Int × (List Int) × Int × Int × (List Int) × Int × Int × Int × Int × (List Int) × (List (List Int)) × (List Int) × Unit) → Option ((List Int))) (ks : (Int × (List Int) × Int × Int × Int × Int × (List Int) × (List (List Int)) × (List Int) × Unit → Option ((List Int))) × Unit) : Option ((List Int)) :=
  match d, ks with
  | (cask, t16, t17, t18, t27, t28, t29, p, p_1, p_2, p_3, out, _), (k0, _) =>
  bif (decide (t29 < t28)) then
    (geti t27 t29).bind fun e =>
    (geti p_2 t29).bind fun e_1 =>
    bif (e_1 == cask) then
      (geti out e).bind fun e_2 =>
      (geti out e).bind fun x =>
      (geti out e).bind fun e_3 =>
      (seti out e (IntKind.wrap .i64 (x + (1 : Int)))).bind fun l =>
      again (cask, t16, t17, t18, t27, t28, (IntKind.wrap .i64 (t29 + (1 : Int))), p, p_1, p_2, p_3, l, ())
    else
      again (cask, t16, t17, t18, t27, t28, (IntKind.wrap .i64 (t29 + (1 : Int))), p, p_1, p_2, p_3, out, ())
  else
    k0 (cask, t16, t17, t18, p, p_1, p_2, p_3, out, ())

def s87_l0 (n : Nat) (d : Int × (List Int) × Int × Int × Int × Int × (List Int) × (List (List Int)) × (List Int) × Unit) (again : (Int × (List Int) × Int × Int × Int × Int × (List Int) × (List (List Int)) × (List Int) × Unit) → Option ((List Int))) (ks : ((List Int) × Unit → Option ((List Int))) × Unit) : Option ((List Int)) :=
  match d, ks with
  | (cask, t16, t17, t18, p, p_1, p_2, p_3, out, _), (k0, _) =>
  bif (decide (t18 < t17)) then
    (geti t16 t18).bind fun e =>
    (geti p_3 e).bind fun e_1 =>
    loopG (s87_l0_0 n) n (cask, t16, t17, t18, e_1, ((List.length e_1 : Nat) : Int), (0 : Int), p, p_1, p_2, p_3, out, ())
      (fun (cask_2, t16_2, t17_2, t18_2, p_8, p_9, p_10, p_11, out_2, _) =>
        again (cask_2, t16_2, t17_2, (IntKind.wrap .i64 (t18_2 + (1 : Int))), p_8, p_9, p_10, p_11, out_2, ()), ())
  else
    k0 (out, ())

/-- (criadera/taste.panel).counts -/
def s87 (n : Nat) (p : Int × Int × (List Int) × (List (List Int))) (cask : Int) (tasters : List Int) : Option ((List Int)) :=
  (chki p.2.1).bind fun u =>
  loopG (s87_l0 n) n (cask, tasters, ((List.length tasters : Nat) : Int), (0 : Int), p.1, p.2.1, p.2.2.1, p.2.2.2, (List.replicate (Int.toNat p.2.1) (0 : Int)), ())
    (fun (out_3, _) =>
      some (out_3), ())

def s87_t0_0 : Templ := ⟨51, [(.int .i64), (.slice (.int .i64)), (.int .i64), (.int .i64), (.slice (.int .i64)), (.int .i64), (.int .i64), (.int .i64), (.int .i64), (.slice (.int .i64)), (.slice (.slice (.int .i64))), (.slice (.int .i64))], [(1, .v (.hole (.int .i64))), (3, .v (.bptr 51 0)), (7, .v (.hand 52)), (16, .v (.hole (.slice (.int .i64)))), (17, .v (.hole (.int .i64))), (18, .v (.hole (.int .i64))), (27, .v (.hole (.slice (.int .i64)))), (28, .v (.hole (.int .i64))), (29, .v (.hole (.int .i64)))], [(51, .box (.pair (.int .i64) (.pair (.int .i64) (.pair (.slice (.int .i64)) (.slice (.slice (.int .i64)))))) [.hole (.int .i64), .hole (.int .i64), .hole (.slice (.int .i64)), .hole (.slice (.slice (.int .i64)))]), (52, .buf (.int .i64))], []⟩
def s87_x0_0 : List (Way × Templ) := [(.exit 2, ⟨51, [(.int .i64), (.slice (.int .i64)), (.int .i64), (.int .i64), (.int .i64), (.int .i64), (.slice (.int .i64)), (.slice (.slice (.int .i64))), (.slice (.int .i64))], [(1, .v (.hole (.int .i64))), (3, .v (.bptr 51 0)), (7, .v (.hand 52)), (16, .v (.hole (.slice (.int .i64)))), (17, .v (.hole (.int .i64))), (18, .v (.hole (.int .i64)))], [(51, .box (.pair (.int .i64) (.pair (.int .i64) (.pair (.slice (.int .i64)) (.slice (.slice (.int .i64)))))) [.hole (.int .i64), .hole (.int .i64), .hole (.slice (.int .i64)), .hole (.slice (.slice (.int .i64)))]), (52, .buf (.int .i64))], []⟩)]
def s87_o0_0 (n : Nat) : Ev (denL [(.slice (.int .i64))]) := loopO n (e39 n) s87_t0_0 s87_x0_0 (s87_l0_0 n)
theorem s87_b0_0 (n : Nat) (d) (again) (ks) : codeR (R := (denL [(.slice (.int .i64))])) (e39 n) (Hdl.no (R := (denL [(.slice (.int .i64))]))) (inn (lp (inn (lp (bd Go.Proofs.Try.f87) 0)) 0)) [] (mk s87_t0_0 d) (turnR (e39 n) s87_t0_0 s87_x0_0 again ks) = s87_l0_0 n d again ks := by kernel_rfl
theorem s87_s0_0 (n : Nat) : Sound Go.Proofs.Try.prog (Hdl.no (R := (denL [(.slice (.int .i64))]))) false (lp (inn (lp (bd Go.Proofs.Try.f87) 0)) 0) (s87_o0_0 n) := loop_ok (h39 n) hP (by kernel_rfl) (O := []) trivial (s87_b0_0 n)
def s87_t0 : Templ := ⟨51, [(.int .i64), (.slice (.int .i64)), (.int .i64), (.int .i64), (.int .i64), (.int .i64), (.slice (.int .i64)), (.slice (.slice (.int .i64))), (.slice (.int .i64))], [(1, .v (.hole (.int .i64))), (3, .v (.bptr 51 0)), (7, .v (.hand 52)), (16, .v (.hole (.slice (.int .i64)))), (17, .v (.hole (.int .i64))), (18, .v (.hole (.int .i64)))], [(51, .box (.pair (.int .i64) (.pair (.int .i64) (.pair (.slice (.int .i64)) (.slice (.slice (.int .i64)))))) [.hole (.int .i64), .hole (.int .i64), .hole (.slice (.int .i64)), .hole (.slice (.slice (.int .i64)))]), (52, .buf (.int .i64))], []⟩
def s87_x0 : List (Way × Templ) := [(.exit 0, ⟨51, [(.slice (.int .i64))], [(7, .v (.hand 51))], [(51, .buf (.int .i64))], []⟩)]
def s87_o0 (n : Nat) : Ev (denL [(.slice (.int .i64))]) := loopO n (e39 n) s87_t0 s87_x0 (s87_l0 n)
theorem s87_b0 (n : Nat) (d) (again) (ks) : codeR (R := (denL [(.slice (.int .i64))])) (e39 n) (Hdl.no (R := (denL [(.slice (.int .i64))]))) (inn (lp (bd Go.Proofs.Try.f87) 0)) [s87_o0_0 n] (mk s87_t0 d) (turnR (e39 n) s87_t0 s87_x0 again ks) = s87_l0 n d again ks := by kernel_rfl
theorem s87_s0 (n : Nat) : Sound Go.Proofs.Try.prog (Hdl.no (R := (denL [(.slice (.int .i64))]))) false (lp (bd Go.Proofs.Try.f87) 0) (s87_o0 n) := loop_ok (h39 n) hP (by kernel_rfl) (O := [s87_o0_0 n]) ⟨s87_s0_0 n, trivial⟩ (s87_b0 n)
def s87_c (n : Nat) : Con := ⟨[(.pair (.int .i64) (.pair (.int .i64) (.pair (.slice (.int .i64)) (.slice (.slice (.int .i64)))))), (.int .i64), (.slice (.int .i64))], [], [(.slice (.int .i64))], fun x y => s87 n x.1 x.2.1 x.2.2, false⟩
theorem s87_eq (n : Nat) (x : denL [(.pair (.int .i64) (.pair (.int .i64) (.pair (.slice (.int .i64)) (.slice (.slice (.int .i64)))))), (.int .i64), (.slice (.int .i64))]) (y : denL []) : funR (e39 n) Go.Proofs.Try.f87 [(.pair (.int .i64) (.pair (.int .i64) (.pair (.slice (.int .i64)) (.slice (.slice (.int .i64)))))), (.int .i64), (.slice (.int .i64))] [] [(.slice (.int .i64))] false [s87_o0 n] x y = (s87_c n).fn x y := by kernel_rfl
theorem s87_ok (n : Nat) : ConOK Go.Proofs.Try.prog 87 (s87_c n) := func_ok (h39 n) hP Go.Proofs.Try.func87 (by kernel_rfl) (by kernel_rfl) (O := [s87_o0 n]) ⟨s87_s0 n, trivial⟩ (s87_eq n)
def e40 (n : Nat) : Env := ⟨gT, (87, s87_c n) :: (e39 n).C, gQ, (e39 n).I, (e39 n).M, (e39 n).S, (e39 n).D, []⟩
theorem h40 (n : Nat) : EnvOK Go.Proofs.Try.prog (e40 n) := env_add (h39 n) (s87_ok n)

def s126_l0 (n : Nat) (d : (List Int) × Int × Int × Unit) (again : ((List Int) × Int × Int × Unit) → Option (Int)) (ks : (Int × Unit → Option (Int)) × Unit) : Option (Int) :=
  match d, ks with
  | (t0, m, i, _), (k0, _) =>
  bif (decide (i < ((List.length t0 : Nat) : Int))) then
    (geti t0 i).bind fun e =>
    again (t0, (imax m e), (IntKind.wrap .i64 (i + (1 : Int))), ())
  else
    k0 (m, ())

/-- slices.Max[[]int,int] -/
def s126 (n : Nat) (x : List Int) : Option (Int) :=
  bif (decide (((List.length x : Nat) : Int) < (1 : Int))) then
    none
  else
    (geti x (0 : Int)).bind fun e =>
    loopG (s126_l0 n) n (x, e, (1 : Int), ())
      (fun (m_1, _) =>
        some (m_1), ())

def s126_t0 : Templ := ⟨25, [(.slice (.int .i64)), (.int .i64), (.int .i64)], [(0, .v (.hole (.slice (.int .i64)))), (3, .v (.hole (.int .i64))), (4, .v (.hole (.int .i64)))], [], []⟩
def s126_x0 : List (Way × Templ) := [(.exit 0, ⟨25, [(.int .i64)], [(3, .v (.hole (.int .i64)))], [], []⟩)]
def s126_o0 (n : Nat) : Ev (denL [(.int .i64)]) := loopO n (e40 n) s126_t0 s126_x0 (s126_l0 n)
theorem s126_b0 (n : Nat) (d) (again) (ks) : codeR (R := (denL [(.int .i64)])) (e40 n) (Hdl.no (R := (denL [(.int .i64)]))) (inn (lp (bd Go.Proofs.Try.f126) 0)) [] (mk s126_t0 d) (turnR (e40 n) s126_t0 s126_x0 again ks) = s126_l0 n d again ks := by kernel_rfl
theorem s126_s0 (n : Nat) : Sound Go.Proofs.Try.prog (Hdl.no (R := (denL [(.int .i64)]))) false (lp (bd Go.Proofs.Try.f126) 0) (s126_o0 n) := loop_ok (h40 n) hP (by kernel_rfl) (O := []) trivial (s126_b0 n)
def s126_c (n : Nat) : Con := ⟨[(.slice (.int .i64))], [], [(.int .i64)], fun x y => s126 n x, false⟩
theorem s126_eq (n : Nat) (x : denL [(.slice (.int .i64))]) (y : denL []) : funR (e40 n) Go.Proofs.Try.f126 [(.slice (.int .i64))] [] [(.int .i64)] false [s126_o0 n] x y = (s126_c n).fn x y := by kernel_rfl
theorem s126_ok (n : Nat) : ConOK Go.Proofs.Try.prog 126 (s126_c n) := func_ok (h40 n) hP Go.Proofs.Try.func126 (by kernel_rfl) (by kernel_rfl) (O := [s126_o0 n]) ⟨s126_s0 n, trivial⟩ (s126_eq n)
def e41 (n : Nat) : Env := ⟨gT, (126, s126_c n) :: (e40 n).C, gQ, (e40 n).I, (e40 n).M, (e40 n).S, (e40 n).D, []⟩
theorem h41 (n : Nat) : EnvOK Go.Proofs.Try.prog (e41 n) := env_add (h40 n) (s126_ok n)

def s127_l0 (n : Nat) (d : (List Int) × Int × Int × Int × Unit) (again : ((List Int) × Int × Int × Int × Unit) → Option (Int)) (ks : (Unit → Option (Int)) × (Int × Unit → Option (Int)) × Unit) : Option (Int) :=
  match d, ks with
  | (s, v, t7, t8, _), (k0, k1, _) =>
  bif (decide (t8 < t7)) then
    (geti s t8).bind fun e =>
    bif (v == e) then
      k1 (t8, ())
    else
      again (s, v, t7, (IntKind.wrap .i64 (t8 + (1 : Int))), ())
  else
    k0 (())

/-- slices.Index[[]int,int] -/
def s127 (n : Nat) (s : List Int) (v : Int) : Option (Int) :=
  loopG (s127_l0 n) n (s, v, ((List.length s : Nat) : Int), (0 : Int), ())
    (fun (_) =>
      some ((-1 : Int)),
    fun (t4, _) =>
      some (t4), ())

def s127_t0 : Templ := ⟨19, [(.slice (.int .i64)), (.int .i64), (.int .i64), (.int .i64)], [(0, .v (.hole (.slice (.int .i64)))), (1, .v (.hole (.int .i64))), (7, .v (.hole (.int .i64))), (8, .v (.hole (.int .i64)))], [], []⟩
def s127_x0 : List (Way × Templ) := [(.exit 0, ⟨19, [], [], [], []⟩), (.ret, ⟨19, [(.int .i64)], [(4, .v (.hole (.int .i64)))], [], []⟩)]
def s127_o0 (n : Nat) : Ev (denL [(.int .i64)]) := loopO n (e41 n) s127_t0 s127_x0 (s127_l0 n)
theorem s127_b0 (n : Nat) (d) (again) (ks) : codeR (R := (denL [(.int .i64)])) (e41 n) (Hdl.no (R := (denL [(.int .i64)]))) (inn (lp (bd Go.Proofs.Try.f127) 0)) [] (mk s127_t0 d) (turnR (e41 n) s127_t0 s127_x0 again ks) = s127_l0 n d again ks := by kernel_rfl
theorem s127_s0 (n : Nat) : Sound Go.Proofs.Try.prog (Hdl.no (R := (denL [(.int .i64)]))) false (lp (bd Go.Proofs.Try.f127) 0) (s127_o0 n) := loop_ok (h41 n) hP (by kernel_rfl) (O := []) trivial (s127_b0 n)
def s127_c (n : Nat) : Con := ⟨[(.slice (.int .i64)), (.int .i64)], [], [(.int .i64)], fun x y => s127 n x.1 x.2, false⟩
theorem s127_eq (n : Nat) (x : denL [(.slice (.int .i64)), (.int .i64)]) (y : denL []) : funR (e41 n) Go.Proofs.Try.f127 [(.slice (.int .i64)), (.int .i64)] [] [(.int .i64)] false [s127_o0 n] x y = (s127_c n).fn x y := by kernel_rfl
theorem s127_ok (n : Nat) : ConOK Go.Proofs.Try.prog 127 (s127_c n) := func_ok (h41 n) hP Go.Proofs.Try.func127 (by kernel_rfl) (by kernel_rfl) (O := [s127_o0 n]) ⟨s127_s0 n, trivial⟩ (s127_eq n)
def e42 (n : Nat) : Env := ⟨gT, (127, s127_c n) :: (e41 n).C, gQ, (e41 n).I, (e41 n).M, (e41 n).S, (e41 n).D, []⟩
theorem h42 (n : Nat) : EnvOK Go.Proofs.Try.prog (e42 n) := env_add (h41 n) (s127_ok n)

/-- slices.Contains[[]int,int] -/
def s128 (n : Nat) (s : List Int) (v : Int) : Option (Bool) :=
  (s127 n s v).bind fun x =>
  some ((decide (x ≥ (0 : Int))))

def s128_c (n : Nat) : Con := ⟨[(.slice (.int .i64)), (.int .i64)], [], [.bool], fun x y => s128 n x.1 x.2, false⟩
theorem s128_eq (n : Nat) (x : denL [(.slice (.int .i64)), (.int .i64)]) (y : denL []) : funR (e42 n) Go.Proofs.Try.f128 [(.slice (.int .i64)), (.int .i64)] [] [.bool] false [] x y = (s128_c n).fn x y := by kernel_rfl
theorem s128_ok (n : Nat) : ConOK Go.Proofs.Try.prog 128 (s128_c n) := func_ok (h42 n) hP Go.Proofs.Try.func128 (by kernel_rfl) (by kernel_rfl) (O := []) trivial (s128_eq n)
def e43 (n : Nat) : Env := ⟨gT, (128, s128_c n) :: (e42 n).C, gQ, (e42 n).I, (e42 n).M, (e42 n).S, (e42 n).D, []⟩
theorem h43 (n : Nat) : EnvOK Go.Proofs.Try.prog (e43 n) := env_add (h42 n) (s128_ok n)

/-- (criadera/taste.panel).mark -/
def s88 (n : Nat) (p : Int × Int × (List Int) × (List (List Int))) (cask : Int) (tasters : List Int) : Option (Int) :=
  (s87 n (p.1, (p.2.1, (p.2.2.1, p.2.2.2))) cask tasters).bind fun x =>
  (s126 n x).bind fun x_1 =>
  (s127 n x x_1).bind fun x_2 =>
  (part (!(x_1 == (0 : Int))) (cut x (IntKind.wrap .i64 (x_2 + (1 : Int))) ((List.length x : Nat) : Int)) []).bind fun x_3 =>
  (part (!(x_1 == (0 : Int))) (s128 n x_3 x_1) false).bind fun x_4 =>
  bif ((x_1 == (0 : Int)) || x_4) then
    some ((-1 : Int))
  else
    some (x_2)

def s88_c (n : Nat) : Con := ⟨[(.pair (.int .i64) (.pair (.int .i64) (.pair (.slice (.int .i64)) (.slice (.slice (.int .i64)))))), (.int .i64), (.slice (.int .i64))], [], [(.int .i64)], fun x y => s88 n x.1 x.2.1 x.2.2, false⟩
theorem s88_eq (n : Nat) (x : denL [(.pair (.int .i64) (.pair (.int .i64) (.pair (.slice (.int .i64)) (.slice (.slice (.int .i64)))))), (.int .i64), (.slice (.int .i64))]) (y : denL []) : funR (e43 n) Go.Proofs.Try.f88 [(.pair (.int .i64) (.pair (.int .i64) (.pair (.slice (.int .i64)) (.slice (.slice (.int .i64)))))), (.int .i64), (.slice (.int .i64))] [] [(.int .i64)] false [] x y = (s88_c n).fn x y := by kernel_rfl
theorem s88_ok (n : Nat) : ConOK Go.Proofs.Try.prog 88 (s88_c n) := func_ok (h43 n) hP Go.Proofs.Try.func88 (by kernel_rfl) (by kernel_rfl) (O := []) trivial (s88_eq n)
def e44 (n : Nat) : Env := ⟨gT, (88, s88_c n) :: (e43 n).C, gQ, (e43 n).I, (e43 n).M, (e43 n).S, (e43 n).D, []⟩
theorem h44 (n : Nat) : EnvOK Go.Proofs.Try.prog (e44 n) := env_add (h43 n) (s88_ok n)

/-- criadera/taste.MarkOf -/
def s28 (n : Nat) (p : Int × Int × (List Int) × (List (List Int))) (cask : Int) (tasters : List Int) : Option (Int × Int) :=
  (s86 n (p.1, (p.2.1, (p.2.2.1, p.2.2.2))) cask tasters).bind fun x =>
  bif (x.2 != (0 : Int)) then
    some ((0 : Int), x.2)
  else
    (s88 n (x.1.1, (x.1.2.1, (x.1.2.2.1, x.1.2.2.2))) cask tasters).bind fun x_1 =>
    bif (decide (x_1 < (0 : Int))) then
      some ((0 : Int), (12 : Int))
    else
      some (x_1, (0 : Int))

def s28_c (n : Nat) : Con := ⟨[(.pair (.int .i64) (.pair (.int .i64) (.pair (.slice (.int .i64)) (.slice (.slice (.int .i64)))))), (.int .i64), (.slice (.int .i64))], [], [(.int .i64), (.int .i64)], fun x y => s28 n x.1 x.2.1 x.2.2, false⟩
theorem s28_eq (n : Nat) (x : denL [(.pair (.int .i64) (.pair (.int .i64) (.pair (.slice (.int .i64)) (.slice (.slice (.int .i64)))))), (.int .i64), (.slice (.int .i64))]) (y : denL []) : funR (e44 n) Go.Proofs.Try.f28 [(.pair (.int .i64) (.pair (.int .i64) (.pair (.slice (.int .i64)) (.slice (.slice (.int .i64)))))), (.int .i64), (.slice (.int .i64))] [] [(.int .i64), (.int .i64)] false [] x y = (s28_c n).fn x y := by kernel_rfl
theorem s28_ok (n : Nat) : ConOK Go.Proofs.Try.prog 28 (s28_c n) := func_ok (h44 n) hP Go.Proofs.Try.func28 (by kernel_rfl) (by kernel_rfl) (O := []) trivial (s28_eq n)
def e45 (n : Nat) : Env := ⟨gT, (28, s28_c n) :: (e44 n).C, gQ, (e44 n).I, (e44 n).M, (e44 n).S, (e44 n).D, []⟩
theorem h45 (n : Nat) : EnvOK Go.Proofs.Try.prog (e45 n) := env_add (h44 n) (s28_ok n)

def s32_l0 (n : Nat) (d : (List Int) × (List Int) × Int × Unit) (again : ((List Int) × (List Int) × Int × Unit) → Option (Bool)) (ks : (Unit → Option (Bool)) × (Bool × Unit → Option (Bool)) × Unit) : Option (Bool) :=
  match d, ks with
  | (a, b, i, _), (k0, k1, _) =>
  bif (decide (i < ((List.length a : Nat) : Int))) then
    (geti a i).bind fun e =>
    (geti b i).bind fun e_1 =>
    bif (e != e_1) then
      k1 (false, ())
    else
      again (a, b, (IntKind.wrap .i64 (i + (1 : Int))), ())
  else
    k0 (())

/-- criadera/criaderabase.Ints -/
def s32 (n : Nat) (a : List Int) (b : List Int) : Option (Bool) :=
  bif (((List.length a : Nat) : Int) != ((List.length b : Nat) : Int)) then
    some (false)
  else
    loopG (s32_l0 n) n (a, b, (0 : Int), ())
      (fun (_) =>
        some (true),
      fun (t4, _) =>
        some (t4), ())

def s32_t0 : Templ := ⟨26, [(.slice (.int .i64)), (.slice (.int .i64)), (.int .i64)], [(0, .v (.hole (.slice (.int .i64)))), (1, .v (.hole (.slice (.int .i64)))), (5, .v (.hole (.int .i64)))], [], []⟩
def s32_x0 : List (Way × Templ) := [(.exit 0, ⟨26, [], [], [], []⟩), (.ret, ⟨26, [.bool], [(4, .v (.hole .bool))], [], []⟩)]
def s32_o0 (n : Nat) : Ev (denL [.bool]) := loopO n (e45 n) s32_t0 s32_x0 (s32_l0 n)
theorem s32_b0 (n : Nat) (d) (again) (ks) : codeR (R := (denL [.bool])) (e45 n) (Hdl.no (R := (denL [.bool]))) (inn (lp (bd Go.Proofs.Try.f32) 0)) [] (mk s32_t0 d) (turnR (e45 n) s32_t0 s32_x0 again ks) = s32_l0 n d again ks := by kernel_rfl
theorem s32_s0 (n : Nat) : Sound Go.Proofs.Try.prog (Hdl.no (R := (denL [.bool]))) false (lp (bd Go.Proofs.Try.f32) 0) (s32_o0 n) := loop_ok (h45 n) hP (by kernel_rfl) (O := []) trivial (s32_b0 n)
def s32_c (n : Nat) : Con := ⟨[(.slice (.int .i64)), (.slice (.int .i64))], [], [.bool], fun x y => s32 n x.1 x.2, false⟩
theorem s32_eq (n : Nat) (x : denL [(.slice (.int .i64)), (.slice (.int .i64))]) (y : denL []) : funR (e45 n) Go.Proofs.Try.f32 [(.slice (.int .i64)), (.slice (.int .i64))] [] [.bool] false [s32_o0 n] x y = (s32_c n).fn x y := by kernel_rfl
theorem s32_ok (n : Nat) : ConOK Go.Proofs.Try.prog 32 (s32_c n) := func_ok (h45 n) hP Go.Proofs.Try.func32 (by kernel_rfl) (by kernel_rfl) (O := [s32_o0 n]) ⟨s32_s0 n, trivial⟩ (s32_eq n)
def e46 (n : Nat) : Env := ⟨gT, (32, s32_c n) :: (e45 n).C, gQ, (e45 n).I, (e45 n).M, (e45 n).S, (e45 n).D, []⟩
theorem h46 (n : Nat) : EnvOK Go.Proofs.Try.prog (e46 n) := env_add (h45 n) (s32_ok n)

/-- criadera/criaderalaw07.awake -/
def s15 (n : Nat) : Option (Bool) :=
  (s77 n).bind fun x =>
  (s41 n x ([98, 117, 116, 116], ([(1 : Int), (1 : Int), (0 : Int)] : List Int))).bind fun x_1 =>
  (s77 n).bind fun x_2 =>
  (s20 n x_2 (2 : Int)).bind fun x_3 =>
  (s78 n).bind fun x_4 =>
  (s35 n x_4 (0 : Int)).bind fun x_5 =>
  (s78 n).bind fun x_6 =>
  (s28 n x_6 (1 : Int) ([(0 : Int), (1 : Int)] : List Int)).bind fun x_7 =>
  (part (((x_1.2 == (0 : Int)) && ((x_1.1 : List UInt8) == [111, 108, 111, 114, 111, 115, 111])) && (x_3.2 == (0 : Int))) (s32 n x_3.1 ([(1 : Int)] : List Int)) false).bind fun x_8 =>
  some (((((((((x_1.2 == (0 : Int)) && ((x_1.1 : List UInt8) == [111, 108, 111, 114, 111, 115, 111])) && (x_3.2 == (0 : Int))) && x_8) && (x_5.2 == (0 : Int))) && ((x_5.1.1 == (1 : Int)) && (x_5.1.2 == (4 : Int)))) && (x_7.2 == (0 : Int))) && (x_7.1 == (1 : Int))))

def s15_c (n : Nat) : Con := ⟨[], [], [.bool], fun x y => s15 n, false⟩
theorem s15_eq (n : Nat) (x : denL []) (y : denL []) : funR (e46 n) Go.Proofs.Try.f15 [] [] [.bool] false [] x y = (s15_c n).fn x y := by kernel_rfl
theorem s15_ok (n : Nat) : ConOK Go.Proofs.Try.prog 15 (s15_c n) := func_ok (h46 n) hP Go.Proofs.Try.func15 (by kernel_rfl) (by kernel_rfl) (O := []) trivial (s15_eq n)
def e47 (n : Nat) : Env := ⟨gT, (15, s15_c n) :: (e46 n).C, gQ, (e46 n).I, (e46 n).M, (e46 n).S, (e46 n).D, []⟩
theorem h47 (n : Nat) : EnvOK Go.Proofs.Try.prog (e47 n) := env_add (h46 n) (s15_ok n)

def s16_l0 (n : Nat) (d : Int × (List (List UInt8)) × Int × (List ((List UInt8) × (List Int) × (List (List UInt8)))) × Unit) (again : (Int × (List (List UInt8)) × Int × (List ((List UInt8) × (List Int) × (List (List UInt8)))) × Unit) → Option (Bool)) (ks : ((List (List UInt8)) × Int × (List ((List UInt8) × (List Int) × (List (List UInt8)))) × Unit → Option (Bool)) × (Bool × Unit → Option (Bool)) × Unit) : Option (Bool) :=
  match d, ks with
  | (i, b, b_1, b_2, _), (k0, k1, _) =>
  bif (decide (i < ((List.length b : Nat) : Int))) then
    (geti b i).bind fun e =>
    bif (decide (((List.length e : Nat) : Int) > (20 : Int))) then
      k1 (false, ())
    else
      again ((IntKind.wrap .i64 (i + (1 : Int))), b, b_1, b_2, ())
  else
    k0 (b, b_1, b_2, ())

def s16_l1_0 (n : Nat) (d : Int × Int × (List (List UInt8)) × Int × (List ((List UInt8) × (List Int) × (List (List UInt8)))) × (List UInt8) × (List Int) × (List (List UInt8)) × Unit) (again : (Int × Int × (List (List UInt8)) × Int × (List ((List UInt8) × (List Int) × (List (List UInt8)))) × (List UInt8) × (List Int) × (List (List UInt8)) × Unit) → Option (Bool)) (ks : (Int × (List (List UInt8)) × Int × (List ((List UInt8) × (List Int) × (List (List UInt8)))) × Unit → Option (Bool)) × (Bool × Unit → Option (Bool)) × Unit) : Option (Bool) :=
  match d, ks with
  | (i, v_k, b, b_1, b_2, c, c_1, c_2, _), (k0, k1, _) =>
  bif (decide (v_k < ((List.length c_2 : Nat) : Int))) then
    (geti c_2 v_k).bind fun e =>
    bif (decide (((List.length e : Nat) : Int) > (20 : Int))) then
      k1 (false, ())
    else
      again (i, (IntKind.wrap .i64 (v_k + (1 : Int))), b, b_1, b_2, c, c_1, c_2, ())
  else
    k0 (i, b, b_1, b_2, ())

def s16_l1 (n : Nat) (d : Int × (List (List UInt8)) × Int × (List ((List UInt8) × (List Int) × (List (List UInt8)))) × Unit) (again : (Int × (List (List UInt8)) × Int × (List ((List UInt8) × (List Int) × (List (List UInt8)))) × Unit) → Option (Bool)) (ks : (Unit → Option (Bool)) × (Bool × Unit → Option (Bool)) × Unit) : Option (Bool) :=
  match d, ks with
  | (i, b, b_1, b_2, _), (k0, k1, _) =>
  bif (decide (i < ((List.length b_2 : Nat) : Int))) then
    (geti b_2 i).bind fun e =>
    bif (((decide (((List.length e.1 : Nat) : Int) > (20 : Int))) || (decide (((List.length e.2.1 : Nat) : Int) > (8 : Int)))) || (decide (((List.length e.2.2 : Nat) : Int) > (8 : Int)))) then
      k1 (false, ())
    else
      loopG (s16_l1_0 n) n (i, (0 : Int), b, b_1, b_2, e.1, e.2.1, e.2.2, ())
        (fun (i_2, b_6, b_7, b_8, _) =>
          again ((IntKind.wrap .i64 (i_2 + (1 : Int))), b_6, b_7, b_8, ()),
        fun (t2, _) =>
          k1 (t2, ()), ())
  else
    k0 (())

/-- criadera/criaderalaw07.Few -/
def s16 (n : Nat) (b : (List (List UInt8)) × Int × (List ((List UInt8) × (List Int) × (List (List UInt8))))) : Option (Bool) :=
  bif ((decide (((List.length b.1 : Nat) : Int) > (8 : Int))) || (decide (((List.length b.2.2 : Nat) : Int) > (10 : Int)))) then
    some (false)
  else
    loopG (s16_l0 n) n ((0 : Int), b.1, b.2.1, b.2.2, ())
      (fun (b_4, b_5, b_6, _) =>
        loopG (s16_l1 n) n ((0 : Int), b_4, b_5, b_6, ())
          (fun (_) =>
            some (true),
          fun (t2_1, _) =>
            some (t2_1), ()),
      fun (t2_2, _) =>
        some (t2_2), ())

def s16_t1_0 : Templ := ⟨73, [(.int .i64), (.int .i64), (.slice .str), (.int .i64), (.slice (.pair .str (.pair (.slice (.int .i64)) (.slice .str)))), .str, (.slice (.int .i64)), (.slice .str)], [(1, .v (.bptr 73 0)), (4, .v (.hole (.int .i64))), (5, .v (.bptr 74 0)), (6, .v (.hole (.int .i64)))], [(73, .box (.pair (.slice .str) (.pair (.int .i64) (.slice (.pair .str (.pair (.slice (.int .i64)) (.slice .str)))))) [.hole (.slice .str), .hole (.int .i64), .hole (.slice (.pair .str (.pair (.slice (.int .i64)) (.slice .str))))]), (74, .box (.pair .str (.pair (.slice (.int .i64)) (.slice .str))) [.hole .str, .hole (.slice (.int .i64)), .hole (.slice .str)])], []⟩
def s16_x1_0 : List (Way × Templ) := [(.exit 4, ⟨73, [(.int .i64), (.slice .str), (.int .i64), (.slice (.pair .str (.pair (.slice (.int .i64)) (.slice .str))))], [(1, .v (.bptr 73 0)), (4, .v (.hole (.int .i64)))], [(73, .box (.pair (.slice .str) (.pair (.int .i64) (.slice (.pair .str (.pair (.slice (.int .i64)) (.slice .str)))))) [.hole (.slice .str), .hole (.int .i64), .hole (.slice (.pair .str (.pair (.slice (.int .i64)) (.slice .str))))])], []⟩), (.ret, ⟨73, [.bool], [(2, .v (.hole .bool))], [], []⟩)]
def s16_o1_0 (n : Nat) : Ev (denL [.bool]) := loopO n (e47 n) s16_t1_0 s16_x1_0 (s16_l1_0 n)
theorem s16_b1_0 (n : Nat) (d) (again) (ks) : codeR (R := (denL [.bool])) (e47 n) (Hdl.no (R := (denL [.bool]))) (inn (lp (inn (lp (bd Go.Proofs.Try.f16) 1)) 0)) [] (mk s16_t1_0 d) (turnR (e47 n) s16_t1_0 s16_x1_0 again ks) = s16_l1_0 n d again ks := by kernel_rfl
theorem s16_s1_0 (n : Nat) : Sound Go.Proofs.Try.prog (Hdl.no (R := (denL [.bool]))) false (lp (inn (lp (bd Go.Proofs.Try.f16) 1)) 0) (s16_o1_0 n) := loop_ok (h47 n) hP (by kernel_rfl) (O := []) trivial (s16_b1_0 n)
def s16_t0 : Templ := ⟨73, [(.int .i64), (.slice .str), (.int .i64), (.slice (.pair .str (.pair (.slice (.int .i64)) (.slice .str))))], [(1, .v (.bptr 73 0)), (3, .v (.hole (.int .i64)))], [(73, .box (.pair (.slice .str) (.pair (.int .i64) (.slice (.pair .str (.pair (.slice (.int .i64)) (.slice .str)))))) [.hole (.slice .str), .hole (.int .i64), .hole (.slice (.pair .str (.pair (.slice (.int .i64)) (.slice .str))))])], []⟩
def s16_x0 : List (Way × Templ) := [(.exit 0, ⟨73, [(.slice .str), (.int .i64), (.slice (.pair .str (.pair (.slice (.int .i64)) (.slice .str))))], [(1, .v (.bptr 73 0))], [(73, .box (.pair (.slice .str) (.pair (.int .i64) (.slice (.pair .str (.pair (.slice (.int .i64)) (.slice .str)))))) [.hole (.slice .str), .hole (.int .i64), .hole (.slice (.pair .str (.pair (.slice (.int .i64)) (.slice .str))))])], []⟩), (.ret, ⟨73, [.bool], [(2, .v (.hole .bool))], [], []⟩)]
def s16_o0 (n : Nat) : Ev (denL [.bool]) := loopO n (e47 n) s16_t0 s16_x0 (s16_l0 n)
theorem s16_b0 (n : Nat) (d) (again) (ks) : codeR (R := (denL [.bool])) (e47 n) (Hdl.no (R := (denL [.bool]))) (inn (lp (bd Go.Proofs.Try.f16) 0)) [] (mk s16_t0 d) (turnR (e47 n) s16_t0 s16_x0 again ks) = s16_l0 n d again ks := by kernel_rfl
theorem s16_s0 (n : Nat) : Sound Go.Proofs.Try.prog (Hdl.no (R := (denL [.bool]))) false (lp (bd Go.Proofs.Try.f16) 0) (s16_o0 n) := loop_ok (h47 n) hP (by kernel_rfl) (O := []) trivial (s16_b0 n)
def s16_t1 : Templ := ⟨73, [(.int .i64), (.slice .str), (.int .i64), (.slice (.pair .str (.pair (.slice (.int .i64)) (.slice .str))))], [(1, .v (.bptr 73 0)), (4, .v (.hole (.int .i64)))], [(73, .box (.pair (.slice .str) (.pair (.int .i64) (.slice (.pair .str (.pair (.slice (.int .i64)) (.slice .str)))))) [.hole (.slice .str), .hole (.int .i64), .hole (.slice (.pair .str (.pair (.slice (.int .i64)) (.slice .str))))])], []⟩
def s16_x1 : List (Way × Templ) := [(.exit 2, ⟨73, [], [], [], []⟩), (.ret, ⟨73, [.bool], [(2, .v (.hole .bool))], [], []⟩)]
def s16_o1 (n : Nat) : Ev (denL [.bool]) := loopO n (e47 n) s16_t1 s16_x1 (s16_l1 n)
theorem s16_b1 (n : Nat) (d) (again) (ks) : codeR (R := (denL [.bool])) (e47 n) (Hdl.no (R := (denL [.bool]))) (inn (lp (bd Go.Proofs.Try.f16) 1)) [s16_o1_0 n] (mk s16_t1 d) (turnR (e47 n) s16_t1 s16_x1 again ks) = s16_l1 n d again ks := by kernel_rfl
theorem s16_s1 (n : Nat) : Sound Go.Proofs.Try.prog (Hdl.no (R := (denL [.bool]))) false (lp (bd Go.Proofs.Try.f16) 1) (s16_o1 n) := loop_ok (h47 n) hP (by kernel_rfl) (O := [s16_o1_0 n]) ⟨s16_s1_0 n, trivial⟩ (s16_b1 n)
def s16_c (n : Nat) : Con := ⟨[(.pair (.slice .str) (.pair (.int .i64) (.slice (.pair .str (.pair (.slice (.int .i64)) (.slice .str))))))], [], [.bool], fun x y => s16 n x, false⟩
theorem s16_eq (n : Nat) (x : denL [(.pair (.slice .str) (.pair (.int .i64) (.slice (.pair .str (.pair (.slice (.int .i64)) (.slice .str))))))]) (y : denL []) : funR (e47 n) Go.Proofs.Try.f16 [(.pair (.slice .str) (.pair (.int .i64) (.slice (.pair .str (.pair (.slice (.int .i64)) (.slice .str))))))] [] [.bool] false [s16_o0 n, s16_o1 n] x y = (s16_c n).fn x y := by kernel_rfl
theorem s16_ok (n : Nat) : ConOK Go.Proofs.Try.prog 16 (s16_c n) := func_ok (h47 n) hP Go.Proofs.Try.func16 (by kernel_rfl) (by kernel_rfl) (O := [s16_o0 n, s16_o1 n]) ⟨s16_s0 n, s16_s1 n, trivial⟩ (s16_eq n)
def e48 (n : Nat) : Env := ⟨gT, (16, s16_c n) :: (e47 n).C, gQ, (e47 n).I, (e47 n).M, (e47 n).S, (e47 n).D, []⟩
theorem h48 (n : Nat) : EnvOK Go.Proofs.Try.prog (e48 n) := env_add (h47 n) (s16_ok n)

/-- criadera/criaderabase.CopyTexts -/
def s84 (n : Nat) (l : List (List UInt8)) : Option ((List (List UInt8))) :=
  (chk (List.length ([] : List (List UInt8)) + List.length l)).bind fun u =>
  some ((([] : List (List UInt8)) ++ l))

def s84_c (n : Nat) : Con := ⟨[(.slice .str)], [], [(.slice .str)], fun x y => s84 n x, false⟩
theorem s84_eq (n : Nat) (x : denL [(.slice .str)]) (y : denL []) : funR (e48 n) Go.Proofs.Try.f84 [(.slice .str)] [] [(.slice .str)] false [] x y = (s84_c n).fn x y := by kernel_rfl
theorem s84_ok (n : Nat) : ConOK Go.Proofs.Try.prog 84 (s84_c n) := func_ok (h48 n) hP Go.Proofs.Try.func84 (by kernel_rfl) (by kernel_rfl) (O := []) trivial (s84_eq n)
def e49 (n : Nat) : Env := ⟨gT, (84, s84_c n) :: (e48 n).C, gQ, (e48 n).I, (e48 n).M, (e48 n).S, (e48 n).D, []⟩
theorem h49 (n : Nat) : EnvOK Go.Proofs.Try.prog (e49 n) := env_add (h48 n) (s84_ok n)

/-- criadera/criaderabase.CopyInts -/
def s27 (n : Nat) (l : List Int) : Option ((List Int)) :=
  (chk (List.length ([] : List Int) + List.length l)).bind fun u =>
  some (([] : List Int) ++ l)

def s27_c (n : Nat) : Con := ⟨[(.slice (.int .i64))], [], [(.slice (.int .i64))], fun x y => s27 n x, true⟩
theorem s27_eq (n : Nat) (x : denL [(.slice (.int .i64))]) (y : denL []) : funR (e49 n) Go.Proofs.Try.f27 [(.slice (.int .i64))] [] [(.slice (.int .i64))] true [] x y = (s27_c n).fn x y := by kernel_rfl
theorem s27_ok (n : Nat) : ConOK Go.Proofs.Try.prog 27 (s27_c n) := func_ok (h49 n) hP Go.Proofs.Try.func27 (by kernel_rfl) (by kernel_rfl) (O := []) trivial (s27_eq n)
def e50 (n : Nat) : Env := ⟨gT, (27, s27_c n) :: (e49 n).C, gQ, (e49 n).I, (e49 n).M, (e49 n).S, (e49 n).D, []⟩
theorem h50 (n : Nat) : EnvOK Go.Proofs.Try.prog (e50 n) := env_add (h49 n) (s27_ok n)

def s21_l0 (n : Nat) (d : Int × (List (List UInt8)) × Int × (List ((List UInt8) × (List Int) × (List (List UInt8)))) × Int × (List (List UInt8)) × Int × (List ((List UInt8) × (List Int) × (List (List UInt8)))) × Unit) (again : (Int × (List (List UInt8)) × Int × (List ((List UInt8) × (List Int) × (List (List UInt8)))) × Int × (List (List UInt8)) × Int × (List ((List UInt8) × (List Int) × (List (List UInt8)))) × Unit) → Option (((List (List UInt8)) × Int × (List ((List UInt8) × (List Int) × (List (List UInt8))))))) (ks : (Int × (List (List UInt8)) × Int × (List ((List UInt8) × (List Int) × (List (List UInt8)))) × Unit → Option (((List (List UInt8)) × Int × (List ((List UInt8) × (List Int) × (List (List UInt8))))))) × Unit) : Option (((List (List UInt8)) × Int × (List ((List UInt8) × (List Int) × (List (List UInt8)))))) :=
  match d, ks with
  | (i, b, b_1, b_2, t2, out, out_1, out_2, _), (k0, _) =>
  bif (decide (i < ((List.length b_2 : Nat) : Int))) then
    (geti b_2 i).bind fun e =>
    (s27 n e.2.1).bind fun x =>
    (s84 n e.2.2).bind fun x_1 =>
    (chk (List.length out_2 + List.length ([(e.1, (x, x_1))] : List ((List UInt8) × (List Int) × (List (List UInt8)))))).bind fun u =>
    again ((IntKind.wrap .i64 (i + (1 : Int))), b, b_1, b_2, t2, out, out_1, (out_2 ++ ([(e.1, (x, x_1))] : List ((List UInt8) × (List Int) × (List (List UInt8))))), ())
  else
    k0 (t2, out, out_1, out_2, ())

/-- criadera/criaderaref07.Copy -/
def s21 (n : Nat) (b : (List (List UInt8)) × Int × (List ((List UInt8) × (List Int) × (List (List UInt8))))) : Option (((List (List UInt8)) × Int × (List ((List UInt8) × (List Int) × (List (List UInt8)))))) :=
  (s84 n b.1).bind fun x =>
  loopG (s21_l0 n) n ((0 : Int), b.1, b.2.1, b.2.2, (0 : Int), x, b.2.1, ([] : List ((List UInt8) × (List Int) × (List (List UInt8)))), ())
    (fun (t2_1, out_3, out_4, out_5, _) =>
      some ((out_3, (out_4, out_5))), ())

def s21_t0 : Templ := ⟨39, [(.int .i64), (.slice .str), (.int .i64), (.slice (.pair .str (.pair (.slice (.int .i64)) (.slice .str)))), (.int .i64), (.slice .str), (.int .i64), (.slice (.pair .str (.pair (.slice (.int .i64)) (.slice .str))))], [(1, .v (.bptr 39 0)), (2, .v (.bptr 40 0)), (3, .v (.bptr 41 0)), (4, .v (.hole (.int .i64)))], [(39, .box (.pair (.slice .str) (.pair (.int .i64) (.slice (.pair .str (.pair (.slice (.int .i64)) (.slice .str)))))) [.hole (.slice .str), .hole (.int .i64), .hole (.slice (.pair .str (.pair (.slice (.int .i64)) (.slice .str))))]), (40, .box (.pair (.slice .str) (.pair (.int .i64) (.slice (.pair .str (.pair (.slice (.int .i64)) (.slice .str)))))) [.nils, .hole (.int .i64), .nils]), (41, .box (.pair (.slice .str) (.pair (.int .i64) (.slice (.pair .str (.pair (.slice (.int .i64)) (.slice .str)))))) [.hole (.slice .str), .hole (.int .i64), .hand 42]), (42, .buf (.pair .str (.pair (.slice (.int .i64)) (.slice .str))))], []⟩
def s21_x0 : List (Way × Templ) := [(.exit 0, ⟨39, [(.int .i64), (.slice .str), (.int .i64), (.slice (.pair .str (.pair (.slice (.int .i64)) (.slice .str))))], [(2, .v (.bptr 39 0)), (3, .v (.bptr 40 0))], [(39, .box (.pair (.slice .str) (.pair (.int .i64) (.slice (.pair .str (.pair (.slice (.int .i64)) (.slice .str)))))) [.nils, .hole (.int .i64), .nils]), (40, .box (.pair (.slice .str) (.pair (.int .i64) (.slice (.pair .str (.pair (.slice (.int .i64)) (.slice .str)))))) [.hole (.slice .str), .hole (.int .i64), .hand 41]), (41, .buf (.pair .str (.pair (.slice (.int .i64)) (.slice .str))))], []⟩)]
def s21_o0 (n : Nat) : Ev (denL [(.pair (.slice .str) (.pair (.int .i64) (.slice (.pair .str (.pair (.slice (.int .i64)) (.slice .str))))))]) := loopO n (e50 n) s21_t0 s21_x0 (s21_l0 n)
theorem s21_b0 (n : Nat) (d) (again) (ks) : codeR (R := (denL [(.pair (.slice .str) (.pair (.int .i64) (.slice (.pair .str (.pair (.slice (.int .i64)) (.slice .str))))))])) (e50 n) (Hdl.no (R := (denL [(.pair (.slice .str) (.pair (.int .i64) (.slice (.pair .str (.pair (.slice (.int .i64)) (.slice .str))))))]))) (inn (lp (bd Go.Proofs.Try.f21) 0)) [] (mk s21_t0 d) (turnR (e50 n) s21_t0 s21_x0 again ks) = s21_l0 n d again ks := by kernel_rfl
theorem s21_s0 (n : Nat) : Sound Go.Proofs.Try.prog (Hdl.no (R := (denL [(.pair (.slice .str) (.pair (.int .i64) (.slice (.pair .str (.pair (.slice (.int .i64)) (.slice .str))))))]))) false (lp (bd Go.Proofs.Try.f21) 0) (s21_o0 n) := loop_ok (h50 n) hP (by kernel_rfl) (O := []) trivial (s21_b0 n)
def s21_c (n : Nat) : Con := ⟨[(.pair (.slice .str) (.pair (.int .i64) (.slice (.pair .str (.pair (.slice (.int .i64)) (.slice .str))))))], [], [(.pair (.slice .str) (.pair (.int .i64) (.slice (.pair .str (.pair (.slice (.int .i64)) (.slice .str))))))], fun x y => s21 n x, false⟩
theorem s21_eq (n : Nat) (x : denL [(.pair (.slice .str) (.pair (.int .i64) (.slice (.pair .str (.pair (.slice (.int .i64)) (.slice .str))))))]) (y : denL []) : funR (e50 n) Go.Proofs.Try.f21 [(.pair (.slice .str) (.pair (.int .i64) (.slice (.pair .str (.pair (.slice (.int .i64)) (.slice .str))))))] [] [(.pair (.slice .str) (.pair (.int .i64) (.slice (.pair .str (.pair (.slice (.int .i64)) (.slice .str))))))] false [s21_o0 n] x y = (s21_c n).fn x y := by kernel_rfl
theorem s21_ok (n : Nat) : ConOK Go.Proofs.Try.prog 21 (s21_c n) := func_ok (h50 n) hP Go.Proofs.Try.func21 (by kernel_rfl) (by kernel_rfl) (O := [s21_o0 n]) ⟨s21_s0 n, trivial⟩ (s21_eq n)
def e51 (n : Nat) : Env := ⟨gT, (21, s21_c n) :: (e50 n).C, gQ, (e50 n).I, (e50 n).M, (e50 n).S, (e50 n).D, []⟩
theorem h51 (n : Nat) : EnvOK Go.Proofs.Try.prog (e51 n) := env_add (h50 n) (s21_ok n)

/-- (criadera/taste.book).sets$1$1 -/
def s138 (n : Nat) (v_at : Int × Int) (mark : Int) (c0 : (List (List UInt8)) × Int × (List ((List UInt8) × (List Int) × (List (List UInt8))))) : Option ((Int × Int)) :=
  (s114 n c0 v_at.1 mark).bind fun x =>
  (s114 n c0 v_at.2 mark).bind fun x_1 =>
  some ((x, x_1))

def s138_c (n : Nat) : Con := ⟨[(.pair (.int .i64) (.int .i64)), (.int .i64)], [(.pair (.slice .str) (.pair (.int .i64) (.slice (.pair .str (.pair (.slice (.int .i64)) (.slice .str))))))], [(.pair (.int .i64) (.int .i64))], fun x y => s138 n x.1 x.2 y, false⟩
theorem s138_eq (n : Nat) (x : denL [(.pair (.int .i64) (.int .i64)), (.int .i64)]) (y : denL [(.pair (.slice .str) (.pair (.int .i64) (.slice (.pair .str (.pair (.slice (.int .i64)) (.slice .str))))))]) : funR (e51 n) Go.Proofs.Try.f138 [(.pair (.int .i64) (.int .i64)), (.int .i64)] [(.pair (.slice .str) (.pair (.int .i64) (.slice (.pair .str (.pair (.slice (.int .i64)) (.slice .str))))))] [(.pair (.int .i64) (.int .i64))] false [] x y = (s138_c n).fn x y := by kernel_rfl
theorem s138_ok (n : Nat) : ConOK Go.Proofs.Try.prog 138 (s138_c n) := func_ok (h51 n) hP Go.Proofs.Try.func138 (by kernel_rfl) (by kernel_rfl) (O := []) trivial (s138_eq n)
def e52 (n : Nat) : Env := ⟨gT, (138, s138_c n) :: (e51 n).C, gQ, (e51 n).I, (e51 n).M, (e51 n).S, (e51 n).D, []⟩
theorem h52 (n : Nat) : EnvOK Go.Proofs.Try.prog (e52 n) := env_add (h51 n) (s138_ok n)

def s134_l0_0 (n : Nat) (d : Int × ((Int × Int) → Int → Option (Int × Int)) × Int × Int × (List ((Int × Int) × Bool)) × (List ((Int × Int) × (List Int))) × Int × Int × (List Int) × Unit) (again : (Int × ((Int × Int) → Int → Option (Int × Int)) × Int × Int × (List ((Int × Int) × Bool)) × (List ((Int × Int) × (List Int))) × Int × Int × (List Int) × Unit) → Option (List (((Int × Int) × (List Int))))) (ks : (Int × ((Int × Int) → Int → Option (Int × Int)) × (List ((Int × Int) × Bool)) × (List ((Int × Int) × (List Int))) × Unit → Option (List (((Int × Int) × (List Int))))) × Unit) : Option (List (((Int × Int) × (List Int)))) :=
  match d, ks with
  | (t2, t3, t28, t29, seen, queue, t7, t7_1, t7_2, _), (k0, _) =>
  bif (decide (t29 < t28)) then
    (t3 (t7, t7_1) t29).bind fun x =>
    bif (!(Option.getD (mgetE (Ty.beq (.pair (.int .i64) (.int .i64))) seen (x.1, x.2)) false)) then
      (s135 n t7_2).bind fun x_1 =>
      (chk (List.length x_1 + List.length ([t29] : List Int))).bind fun u =>
      (chk (List.length queue + List.length ([((x.1, x.2), (x_1 ++ ([t29] : List Int)))] : List ((Int × Int) × (List Int))))).bind fun u_1 =>
      again (t2, t3, t28, (IntKind.wrap .i64 (t29 + (1 : Int))), (mputE (Ty.beq (.pair (.int .i64) (.int .i64))) seen (x.1, x.2) true), (queue ++ ([((x.1, x.2), (x_1 ++ ([t29] : List Int)))] : List ((Int × Int) × (List Int)))), t7, t7_1, t7_2, ())
    else
      again (t2, t3, t28, (IntKind.wrap .i64 (t29 + (1 : Int))), seen, queue, t7, t7_1, t7_2, ())
  else
    k0 (t2, t3, seen, queue, ())

def s134_l0 (n : Nat) (d : Int × ((Int × Int) → Int → Option (Int × Int)) × (List ((Int × Int) × Bool)) × (List ((Int × Int) × (List Int))) × Unit) (again : (Int × ((Int × Int) → Int → Option (Int × Int)) × (List ((Int × Int) × Bool)) × (List ((Int × Int) × (List Int))) × Unit) → Option (List (((Int × Int) × (List Int))))) (ks : (Unit → Option (List (((Int × Int) × (List Int))))) × (Unit → Option (List (((Int × Int) × (List Int))))) × Unit) : Option (List (((Int × Int) × (List Int)))) :=
  match d, ks with
  | (t2, t3, seen, queue, _), (k0, k1, _) =>
  bif (decide (((List.length queue : Nat) : Int) > (0 : Int))) then
    (geti queue (0 : Int)).bind fun e =>
    (geti queue (0 : Int)).bind fun x =>
    (cut queue (1 : Int) ((List.length queue : Nat) : Int)).bind fun x_1 =>
    emitL (α := ((Int × Int) × (List Int))) ((x.1.1, x.1.2), x.2) (
        loopG (s134_l0_0 n) n (t2, t3, t2, (0 : Int), seen, x_1, x.1.1, x.1.2, x.2, ())
          (fun (t2_2, t3_2, seen_2, queue_2, _) =>
            again (t2_2, t3_2, seen_2, queue_2, ()), ())
      ) (
        k1 (())
      )
  else
    k0 (())

/-- criadera/taste.search[[2]int]$1 -/
def s134 (n : Nat) (c0 : Int × Int) (c1 : Int) (c2 : (Int × Int) → Int → Option (Int × Int)) : Option (List (((Int × Int) × (List Int)))) :=
  loopG (s134_l0 n) n (c1, c2, (mputE (Ty.beq (.pair (.int .i64) (.int .i64))) ([] : List ((Int × Int) × Bool)) c0 true), ([((c0.1, c0.2), ([] : List Int))] : List ((Int × Int) × (List Int))), ())
    (fun (_) =>
      some [],
    fun (_) =>
      some [], ())

def s134_t0_0 : Templ := ⟨55, [(.int .i64), (.fn2 (.pair (.int .i64) (.int .i64)) (.int .i64) (.pair (.int .i64) (.int .i64))), (.int .i64), (.int .i64), (.map (.pair (.int .i64) (.int .i64)) .bool), (.slice (.pair (.pair (.int .i64) (.int .i64)) (.slice (.int .i64)))), (.int .i64), (.int .i64), (.slice (.int .i64))], [(0, .v (.yld)), (2, .v (.pp (.int .i64))), (3, .v (.pp (.fn2 (.pair (.int .i64) (.int .i64)) (.int .i64) (.pair (.int .i64) (.int .i64))))), (5, .v (.hand 55)), (6, .v (.hand 56)), (7, .v (.bptr 57 0)), (28, .v (.hole (.int .i64))), (29, .v (.hole (.int .i64)))], [(55, .map (.pair (.int .i64) (.int .i64)) .bool), (56, .buf (.pair (.pair (.int .i64) (.int .i64)) (.slice (.int .i64)))), (57, .box (.pair (.pair (.int .i64) (.int .i64)) (.slice (.int .i64))) [.hole (.int .i64), .hole (.int .i64), .hole (.slice (.int .i64))])], []⟩
def s134_x0_0 : List (Way × Templ) := [(.exit 2, ⟨55, [(.int .i64), (.fn2 (.pair (.int .i64) (.int .i64)) (.int .i64) (.pair (.int .i64) (.int .i64))), (.map (.pair (.int .i64) (.int .i64)) .bool), (.slice (.pair (.pair (.int .i64) (.int .i64)) (.slice (.int .i64))))], [(0, .v (.yld)), (2, .v (.pp (.int .i64))), (3, .v (.pp (.fn2 (.pair (.int .i64) (.int .i64)) (.int .i64) (.pair (.int .i64) (.int .i64))))), (5, .v (.hand 55)), (6, .v (.hand 56))], [(55, .map (.pair (.int .i64) (.int .i64)) .bool), (56, .buf (.pair (.pair (.int .i64) (.int .i64)) (.slice (.int .i64))))], []⟩)]
def s134_o0_0 (n : Nat) : Ev (List (denL [(.pair (.pair (.int .i64) (.int .i64)) (.slice (.int .i64)))])) := loopO n (e52 n) s134_t0_0 s134_x0_0 (s134_l0_0 n)
theorem s134_b0_0 (n : Nat) (d) (again) (ks) : codeR (R := (List (denL [(.pair (.pair (.int .i64) (.int .i64)) (.slice (.int .i64)))]))) (e52 n) (hdlL [(.pair (.pair (.int .i64) (.int .i64)) (.slice (.int .i64)))]) (inn (lp (inn (lp (bd Go.Proofs.Try.f134) 0)) 0)) [] (mk s134_t0_0 d) (turnR (e52 n) s134_t0_0 s134_x0_0 again ks) = s134_l0_0 n d again ks := by kernel_rfl
theorem s134_s0_0 (n : Nat) : Sound Go.Proofs.Try.prog (hdlL [(.pair (.pair (.int .i64) (.int .i64)) (.slice (.int .i64)))]) false (lp (inn (lp (bd Go.Proofs.Try.f134) 0)) 0) (s134_o0_0 n) := loop_ok (h52 n) hP (by kernel_rfl) (O := []) trivial (s134_b0_0 n)
def s134_t0 : Templ := ⟨55, [(.int .i64), (.fn2 (.pair (.int .i64) (.int .i64)) (.int .i64) (.pair (.int .i64) (.int .i64))), (.map (.pair (.int .i64) (.int .i64)) .bool), (.slice (.pair (.pair (.int .i64) (.int .i64)) (.slice (.int .i64))))], [(0, .v (.yld)), (2, .v (.pp (.int .i64))), (3, .v (.pp (.fn2 (.pair (.int .i64) (.int .i64)) (.int .i64) (.pair (.int .i64) (.int .i64))))), (5, .v (.hand 55)), (6, .v (.hand 56))], [(55, .map (.pair (.int .i64) (.int .i64)) .bool), (56, .buf (.pair (.pair (.int .i64) (.int .i64)) (.slice (.int .i64))))], []⟩
def s134_x0 : List (Way × Templ) := [(.exit 0, ⟨55, [], [], [], []⟩), (.ret, ⟨55, [], [], [], []⟩)]
def s134_o0 (n : Nat) : Ev (List (denL [(.pair (.pair (.int .i64) (.int .i64)) (.slice (.int .i64)))])) := loopO n (e52 n) s134_t0 s134_x0 (s134_l0 n)
theorem s134_b0 (n : Nat) (d) (again) (ks) : codeR (R := (List (denL [(.pair (.pair (.int .i64) (.int .i64)) (.slice (.int .i64)))]))) (e52 n) (hdlL [(.pair (.pair (.int .i64) (.int .i64)) (.slice (.int .i64)))]) (inn (lp (bd Go.Proofs.Try.f134) 0)) [s134_o0_0 n] (mk s134_t0 d) (turnR (e52 n) s134_t0 s134_x0 again ks) = s134_l0 n d again ks := by kernel_rfl
theorem s134_s0 (n : Nat) : Sound Go.Proofs.Try.prog (hdlL [(.pair (.pair (.int .i64) (.int .i64)) (.slice (.int .i64)))]) false (lp (bd Go.Proofs.Try.f134) 0) (s134_o0 n) := loop_ok (h52 n) hP (by kernel_rfl) (O := [s134_o0_0 n]) ⟨s134_s0_0 n, trivial⟩ (s134_b0 n)
def s134_i (n : Nat) : ICon := ⟨[(.pair (.int .i64) (.int .i64)), (.int .i64), (.fn2 (.pair (.int .i64) (.int .i64)) (.int .i64) (.pair (.int .i64) (.int .i64)))], (.seq (.pair (.pair (.int .i64) (.int .i64)) (.slice (.int .i64)))), fun y => s134 n y.1 y.2.1 y.2.2⟩
theorem s134_eq (n : Nat) (y : denL [(.pair (.int .i64) (.int .i64)), (.int .i64), (.fn2 (.pair (.int .i64) (.int .i64)) (.int .i64) (.pair (.int .i64) (.int .i64)))]) : iterR (e52 n) Go.Proofs.Try.f134 [(.pair (.pair (.int .i64) (.int .i64)) (.slice (.int .i64)))] [(.pair (.int .i64) (.int .i64)), (.int .i64), (.fn2 (.pair (.int .i64) (.int .i64)) (.int .i64) (.pair (.int .i64) (.int .i64)))] [s134_o0 n] y = (s134_i n).fn y := by kernel_rfl
theorem s134_ok (n : Nat) : IConOK Go.Proofs.Try.prog 134 (s134_i n) := itf1_ok (h52 n) hP Go.Proofs.Try.func134 (by kernel_rfl) (by kernel_rfl) (O := [s134_o0 n]) ⟨s134_s0 n, trivial⟩ (s134_eq n)
def e53 (n : Nat) : Env := ⟨gT, (e52 n).C, gQ, (134, s134_i n) :: (e52 n).I, (e52 n).M, (e52 n).S, (e52 n).D, []⟩
theorem h53 (n : Nat) : EnvOK Go.Proofs.Try.prog (e53 n) := env_it (h52 n) (s134_ok n)

/-- criadera/taste.search[[2]int] -/
def s115 (n : Nat) (v_begin : Int × Int) (marks : Int) (next : (Int × Int) → Int → Option (Int × Int)) : Option ((List ((Int × Int) × (List Int)))) :=
  (s134 n (v_begin.1, v_begin.2) marks next).bind fun x =>
  some (x)

def s115_c (n : Nat) : Con := ⟨[(.pair (.int .i64) (.int .i64)), (.int .i64), (.fn2 (.pair (.int .i64) (.int .i64)) (.int .i64) (.pair (.int .i64) (.int .i64)))], [], [(.seq (.pair (.pair (.int .i64) (.int .i64)) (.slice (.int .i64))))], fun x y => s115 n x.1 x.2.1 x.2.2, false⟩
theorem s115_eq (n : Nat) (x : denL [(.pair (.int .i64) (.int .i64)), (.int .i64), (.fn2 (.pair (.int .i64) (.int .i64)) (.int .i64) (.pair (.int .i64) (.int .i64)))]) (y : denL []) : funR (e53 n) Go.Proofs.Try.f115 [(.pair (.int .i64) (.int .i64)), (.int .i64), (.fn2 (.pair (.int .i64) (.int .i64)) (.int .i64) (.pair (.int .i64) (.int .i64)))] [] [(.seq (.pair (.pair (.int .i64) (.int .i64)) (.slice (.int .i64))))] false [] x y = (s115_c n).fn x y := by kernel_rfl
theorem s115_ok (n : Nat) : ConOK Go.Proofs.Try.prog 115 (s115_c n) := func_ok (h53 n) hP Go.Proofs.Try.func115 (by kernel_rfl) (by kernel_rfl) (O := []) trivial (s115_eq n)
def e54 (n : Nat) : Env := ⟨gT, (115, s115_c n) :: (e53 n).C, gQ, (e53 n).I, (e53 n).M, (e53 n).S, (e53 n).D, []⟩
theorem h54 (n : Nat) : EnvOK Go.Proofs.Try.prog (e54 n) := env_add (h53 n) (s115_ok n)

def e55 (n : Nat) : Env := ⟨gT, (157, s157_c n) :: (e54 n).C, gQ, (e54 n).I, (e54 n).M, (e54 n).S, (e54 n).D, []⟩
theorem h55 (n : Nat) : EnvOK Go.Proofs.Try.prog (e55 n) := env_add (h54 n) (s157_ok n)

/-- internal/stringslite.Cut -/
def s145 (n : Nat) (s : List UInt8) (sep : List UInt8) : Option ((List UInt8) × (List UInt8) × Bool) :=
  (s157 n s sep).bind fun x =>
  bif (decide (x ≥ (0 : Int))) then
    (cut s 0 x).bind fun x_1 =>
    (cut s (IntKind.wrap .i64 (x + ((List.length sep : Nat) : Int))) ((List.length s : Nat) : Int)).bind fun x_2 =>
    some (x_1, x_2, true)
  else
    some (s, [], false)

def s145_c (n : Nat) : Con := ⟨[.str, .str], [], [.str, .str, .bool], fun x y => s145 n x.1 x.2, false⟩
theorem s145_eq (n : Nat) (x : denL [.str, .str]) (y : denL []) : funR (e55 n) Go.Proofs.Try.f145 [.str, .str] [] [.str, .str, .bool] false [] x y = (s145_c n).fn x y := by kernel_rfl
theorem s145_ok (n : Nat) : ConOK Go.Proofs.Try.prog 145 (s145_c n) := func_ok (h55 n) hP Go.Proofs.Try.func145 (by kernel_rfl) (by kernel_rfl) (O := []) trivial (s145_eq n)
def e56 (n : Nat) : Env := ⟨gT, (145, s145_c n) :: (e55 n).C, gQ, (e55 n).I, (e55 n).M, (e55 n).S, (e55 n).D, []⟩
theorem h56 (n : Nat) : EnvOK Go.Proofs.Try.prog (e56 n) := env_add (h55 n) (s145_ok n)

/-- strings.Cut -/
def s136 (n : Nat) (s : List UInt8) (sep : List UInt8) : Option ((List UInt8) × (List UInt8) × Bool) :=
  (s145 n s sep).bind fun x =>
  some (x.1, x.2.1, x.2.2)

def s136_c (n : Nat) : Con := ⟨[.str, .str], [], [.str, .str, .bool], fun x y => s136 n x.1 x.2, false⟩
theorem s136_eq (n : Nat) (x : denL [.str, .str]) (y : denL []) : funR (e56 n) Go.Proofs.Try.f136 [.str, .str] [] [.str, .str, .bool] false [] x y = (s136_c n).fn x y := by kernel_rfl
theorem s136_ok (n : Nat) : ConOK Go.Proofs.Try.prog 136 (s136_c n) := func_ok (h56 n) hP Go.Proofs.Try.func136 (by kernel_rfl) (by kernel_rfl) (O := []) trivial (s136_eq n)
def e57 (n : Nat) : Env := ⟨gT, (136, s136_c n) :: (e56 n).C, gQ, (e56 n).I, (e56 n).M, (e56 n).S, (e56 n).D, []⟩
theorem h57 (n : Nat) : EnvOK Go.Proofs.Try.prog (e57 n) := env_add (h56 n) (s136_ok n)

/-- (criadera/taste.book).rank -/
def s116 (n : Nat) (b : (List (List UInt8)) × Int × (List ((List UInt8) × (List Int) × (List (List UInt8))))) (v_class : Int) : Option ((List UInt8)) :=
  (geti b.2.2 v_class).bind fun e =>
  (s136 n e.1 [45]).bind fun x =>
  some (x.1)

def s116_c (n : Nat) : Con := ⟨[(.pair (.slice .str) (.pair (.int .i64) (.slice (.pair .str (.pair (.slice (.int .i64)) (.slice .str)))))), (.int .i64)], [], [.str], fun x y => s116 n x.1 x.2, false⟩
theorem s116_eq (n : Nat) (x : denL [(.pair (.slice .str) (.pair (.int .i64) (.slice (.pair .str (.pair (.slice (.int .i64)) (.slice .str)))))), (.int .i64)]) (y : denL []) : funR (e57 n) Go.Proofs.Try.f116 [(.pair (.slice .str) (.pair (.int .i64) (.slice (.pair .str (.pair (.slice (.int .i64)) (.slice .str)))))), (.int .i64)] [] [.str] false [] x y = (s116_c n).fn x y := by kernel_rfl
theorem s116_ok (n : Nat) : ConOK Go.Proofs.Try.prog 116 (s116_c n) := func_ok (h57 n) hP Go.Proofs.Try.func116 (by kernel_rfl) (by kernel_rfl) (O := []) trivial (s116_eq n)
def e58 (n : Nat) : Env := ⟨gT, (116, s116_c n) :: (e57 n).C, gQ, (e57 n).I, (e57 n).M, (e57 n).S, (e57 n).D, []⟩
theorem h58 (n : Nat) : EnvOK Go.Proofs.Try.prog (e58 n) := env_add (h57 n) (s116_ok n)

def s137_l0 (n : Nat) (d : ((List (List UInt8)) × Int × (List ((List UInt8) × (List Int) × (List (List UInt8))))) × (List ((Int × Int) × (List Int))) × Bool × Unit) (y : (Int × Int) × (List Int)) (again : (((List (List UInt8)) × Int × (List ((List UInt8) × (List Int) × (List (List UInt8))))) × (List ((Int × Int) × (List Int))) × Bool × Unit) → Option (Bool)) (ks : (Bool × Unit → Option (Bool)) × Unit) : Option (Bool) :=
  match d, ks with
  | (t2, t17, t5, _), (k0, _) =>
  (s116 n t2 y.1.1).bind fun x =>
  (s116 n t2 y.1.2).bind fun x_1 =>
  bif ((x : List UInt8) != x_1) then
    k0 (true, ())
  else
    again (t2, t17, t5, ())

/-- (criadera/taste.book).sets$1 -/
def s137 (n : Nat) (i : Int) (v_k : Int) (c0 : (List (List UInt8)) × Int × (List ((List UInt8) × (List Int) × (List (List UInt8))))) : Option (Bool) :=
  (s115 n (i, v_k) ((List.length c0.1 : Nat) : Int) (fun y0 y1 => s138 n y0 y1 c0)).bind fun x =>
  rangeG (s137_l0 n) (fun (t5_2, _) =>
      some (t5_2), ()) (fun (t2_1, t17_1, t5_1, _) =>
      some (false)) x (c0, x, false, ())

def s137_t0 : Templ := ⟨30, [(.pair (.slice .str) (.pair (.int .i64) (.slice (.pair .str (.pair (.slice (.int .i64)) (.slice .str)))))), (.seq (.pair (.pair (.int .i64) (.int .i64)) (.slice (.int .i64)))), .bool], [(2, .v (.pp (.pair (.slice .str) (.pair (.int .i64) (.slice (.pair .str (.pair (.slice (.int .i64)) (.slice .str)))))))), (5, .v (.bptr 30 0)), (17, .v (.hole (.seq (.pair (.pair (.int .i64) (.int .i64)) (.slice (.int .i64))))))], [(30, .box .bool [.hole .bool])], []⟩
def s137_x0 : List (Way × Templ) := [(.ret, ⟨30, [.bool], [(5, .v (.bptr 30 0))], [(30, .box .bool [.hole .bool])], []⟩)]
theorem s137_b0 (n : Nat) (d) (x) (again) (ks) : codeR (R := (denL [.bool])) (e58 n) (Hdl.no (R := (denL [.bool]))) (rgA (lp (bd Go.Proofs.Try.f137) 0)) [] (mkB s137_t0 [2, 5, 17] 18 (.pair (.pair (.int .i64) (.int .i64)) (.slice (.int .i64))) d x) (thenB fun st => codeR (R := (denL [.bool])) (e58 n) (Hdl.no (R := (denL [.bool]))) (rgB (lp (bd Go.Proofs.Try.f137) 0)) [] st (turnB (e58 n) s137_t0 [2, 5, 17] s137_x0 again ks)) = s137_l0 n d x again ks := by kernel_rfl
theorem s137_s0 (n : Nat) : Sound Go.Proofs.Try.prog (Hdl.no (R := (denL [.bool]))) false (lp (bd Go.Proofs.Try.f137) 0) ((fun n => rangeO (R := (denL [.bool])) (e58 n) (.pair (.pair (.int .i64) (.int .i64)) (.slice (.int .i64))) (rgG (lp (bd Go.Proofs.Try.f137) 0)) s137_t0 s137_x0 (s137_l0 n)) n) := range_ok (h58 n) hP (p := 18) (F := [2, 5, 17]) (Oa := []) (Ob := []) (by kernel_rfl) rfl (by decide) (by decide) rfl trivial trivial (s137_b0 n)
def s137_c (n : Nat) : Con := ⟨[(.int .i64), (.int .i64)], [(.pair (.slice .str) (.pair (.int .i64) (.slice (.pair .str (.pair (.slice (.int .i64)) (.slice .str))))))], [.bool], fun x y => s137 n x.1 x.2 y, false⟩
theorem s137_eq (n : Nat) (x : denL [(.int .i64), (.int .i64)]) (y : denL [(.pair (.slice .str) (.pair (.int .i64) (.slice (.pair .str (.pair (.slice (.int .i64)) (.slice .str))))))]) : funR (e58 n) Go.Proofs.Try.f137 [(.int .i64), (.int .i64)] [(.pair (.slice .str) (.pair (.int .i64) (.slice (.pair .str (.pair (.slice (.int .i64)) (.slice .str))))))] [.bool] false [(fun n => rangeO (R := (denL [.bool])) (e58 n) (.pair (.pair (.int .i64) (.int .i64)) (.slice (.int .i64))) (rgG (lp (bd Go.Proofs.Try.f137) 0)) s137_t0 s137_x0 (s137_l0 n)) n] x y = (s137_c n).fn x y := by kernel_rfl
theorem s137_ok (n : Nat) : ConOK Go.Proofs.Try.prog 137 (s137_c n) := func_ok (h58 n) hP Go.Proofs.Try.func137 (by kernel_rfl) (by kernel_rfl) (O := [(fun n => rangeO (R := (denL [.bool])) (e58 n) (.pair (.pair (.int .i64) (.int .i64)) (.slice (.int .i64))) (rgG (lp (bd Go.Proofs.Try.f137) 0)) s137_t0 s137_x0 (s137_l0 n)) n]) ⟨s137_s0 n, trivial⟩ (s137_eq n)
def e59 (n : Nat) : Env := ⟨gT, (137, s137_c n) :: (e58 n).C, gQ, (e58 n).I, (e58 n).M, (e58 n).S, (e58 n).D, []⟩
theorem h59 (n : Nat) : EnvOK Go.Proofs.Try.prog (e59 n) := env_add (h58 n) (s137_ok n)

/-- (criadera/taste.book).sets$2 -/
def s139 (n : Nat) (v_k : Int) (c0 : Int → Int → Option Bool) (c1 : Int) : Option (Bool) :=
  (c0 c1 v_k).bind fun x =>
  some ((!x))

def s139_c (n : Nat) : Con := ⟨[(.int .i64)], [(.fn2 (.int .i64) (.int .i64) .bool), (.int .i64)], [.bool], fun x y => s139 n x y.1 y.2, false⟩
theorem s139_eq (n : Nat) (x : denL [(.int .i64)]) (y : denL [(.fn2 (.int .i64) (.int .i64) .bool), (.int .i64)]) : funR (e59 n) Go.Proofs.Try.f139 [(.int .i64)] [(.fn2 (.int .i64) (.int .i64) .bool), (.int .i64)] [.bool] false [] x y = (s139_c n).fn x y := by kernel_rfl
theorem s139_ok (n : Nat) : ConOK Go.Proofs.Try.prog 139 (s139_c n) := func_ok (h59 n) hP Go.Proofs.Try.func139 (by kernel_rfl) (by kernel_rfl) (O := []) trivial (s139_eq n)
def e60 (n : Nat) : Env := ⟨gT, (139, s139_c n) :: (e59 n).C, gQ, (e59 n).I, (e59 n).M, (e59 n).S, (e59 n).D, []⟩
theorem h60 (n : Nat) : EnvOK Go.Proofs.Try.prog (e60 n) := env_add (h59 n) (s139_ok n)

def s117_l0 (n : Nat) (d : (Int → Int → Option Bool) × Int × Int × (List Int) × (List Int) × Unit) (again : ((Int → Int → Option Bool) × Int × Int × (List Int) × (List Int) × Unit) → Option ((List Int))) (ks : ((List Int) × Unit → Option ((List Int))) × Unit) : Option ((List Int)) :=
  match d, ks with
  | (apart, t12, t13, out, heads, _), (k0, _) =>
  bif (decide (t13 < t12)) then
    (s130 n heads (fun y0 => s139 n y0 apart t13)).bind fun x =>
    bif (decide (x < (0 : Int))) then
      (chk (List.length heads + List.length ([t13] : List Int))).bind fun u =>
      (chk (List.length out + List.length ([((List.length heads : Nat) : Int)] : List Int))).bind fun u_1 =>
      again (apart, t12, (IntKind.wrap .i64 (t13 + (1 : Int))), (out ++ ([((List.length heads : Nat) : Int)] : List Int)), (heads ++ ([t13] : List Int)), ())
    else
      (chk (List.length out + List.length ([x] : List Int))).bind fun u_2 =>
      again (apart, t12, (IntKind.wrap .i64 (t13 + (1 : Int))), (out ++ ([x] : List Int)), heads, ())
  else
    k0 (out, ())

/-- (criadera/taste.book).sets -/
def s117 (n : Nat) (b : (List (List UInt8)) × Int × (List ((List UInt8) × (List Int) × (List (List UInt8))))) : Option ((List Int)) :=
  loopG (s117_l0 n) n ((fun y0 y1 => s137 n y0 y1 (b.1, (b.2.1, b.2.2))), ((List.length b.2.2 : Nat) : Int), (0 : Int), ([] : List Int), ([] : List Int), ())
    (fun (out_1, _) =>
      some (out_1), ())

def s117_t0 : Templ := ⟨33, [(.fn2 (.int .i64) (.int .i64) .bool), (.int .i64), (.int .i64), (.slice (.int .i64)), (.slice (.int .i64))], [(3, .v (.pp (.fn2 (.int .i64) (.int .i64) .bool))), (4, .v (.hand 33)), (5, .v (.hand 34)), (12, .v (.hole (.int .i64))), (13, .v (.hole (.int .i64)))], [(33, .buf (.int .i64)), (34, .buf (.int .i64))], []⟩
def s117_x0 : List (Way × Templ) := [(.exit 0, ⟨33, [(.slice (.int .i64))], [(4, .v (.hand 33))], [(33, .buf (.int .i64))], []⟩)]
def s117_o0 (n : Nat) : Ev (denL [(.slice (.int .i64))]) := loopO n (e60 n) s117_t0 s117_x0 (s117_l0 n)
theorem s117_b0 (n : Nat) (d) (again) (ks) : codeR (R := (denL [(.slice (.int .i64))])) (e60 n) (Hdl.no (R := (denL [(.slice (.int .i64))]))) (inn (lp (bd Go.Proofs.Try.f117) 0)) [] (mk s117_t0 d) (turnR (e60 n) s117_t0 s117_x0 again ks) = s117_l0 n d again ks := by kernel_rfl
theorem s117_s0 (n : Nat) : Sound Go.Proofs.Try.prog (Hdl.no (R := (denL [(.slice (.int .i64))]))) false (lp (bd Go.Proofs.Try.f117) 0) (s117_o0 n) := loop_ok (h60 n) hP (by kernel_rfl) (O := []) trivial (s117_b0 n)
def s117_c (n : Nat) : Con := ⟨[(.pair (.slice .str) (.pair (.int .i64) (.slice (.pair .str (.pair (.slice (.int .i64)) (.slice .str))))))], [], [(.slice (.int .i64))], fun x y => s117 n x, false⟩
theorem s117_eq (n : Nat) (x : denL [(.pair (.slice .str) (.pair (.int .i64) (.slice (.pair .str (.pair (.slice (.int .i64)) (.slice .str))))))]) (y : denL []) : funR (e60 n) Go.Proofs.Try.f117 [(.pair (.slice .str) (.pair (.int .i64) (.slice (.pair .str (.pair (.slice (.int .i64)) (.slice .str))))))] [] [(.slice (.int .i64))] false [s117_o0 n] x y = (s117_c n).fn x y := by kernel_rfl
theorem s117_ok (n : Nat) : ConOK Go.Proofs.Try.prog 117 (s117_c n) := func_ok (h60 n) hP Go.Proofs.Try.func117 (by kernel_rfl) (by kernel_rfl) (O := [s117_o0 n]) ⟨s117_s0 n, trivial⟩ (s117_eq n)
def e61 (n : Nat) : Env := ⟨gT, (117, s117_c n) :: (e60 n).C, gQ, (e60 n).I, (e60 n).M, (e60 n).S, (e60 n).D, []⟩
theorem h61 (n : Nat) : EnvOK Go.Proofs.Try.prog (e61 n) := env_add (h60 n) (s117_ok n)

def s64_l0 (n : Nat) (d : (List Int) × Int × Int × (List (List Int)) × Unit) (again : ((List Int) × Int × Int × (List (List Int)) × Unit) → Option ((List (List Int)) × Int)) (ks : ((List (List Int)) × Unit → Option ((List (List Int)) × Int)) × Unit) : Option ((List (List Int)) × Int) :=
  match d, ks with
  | (t18, t19, t20, out, _), (k0, _) =>
  bif (decide (t20 < t19)) then
    (geti t18 t20).bind fun e =>
    bif (e == ((List.length out : Nat) : Int)) then
      (chk (List.length out + 1)).bind fun u =>
      (geti (out ++ [[]]) e).bind fun l =>
      (geti (out ++ [[]]) e).bind fun l_1 =>
      if e = e then
      (geti (out ++ [[]]) e).bind fun l_2 =>
      (chk (List.length l_2 + List.length ([t20] : List Int))).bind fun u_1 =>
      (seti (out ++ [[]]) e (l_2 ++ ([t20] : List Int))).bind fun l_3 =>
      again (t18, t19, (IntKind.wrap .i64 (t20 + (1 : Int))), l_3, ())
      else none
    else
      (geti out e).bind fun l_4 =>
      (geti out e).bind fun l_5 =>
      if e = e then
      (geti out e).bind fun l_6 =>
      (chk (List.length l_6 + List.length ([t20] : List Int))).bind fun u_2 =>
      (seti out e (l_6 ++ ([t20] : List Int))).bind fun l_7 =>
      again (t18, t19, (IntKind.wrap .i64 (t20 + (1 : Int))), l_7, ())
      else none
  else
    k0 (out, ())

/-- criadera/taste.Alike -/
def s64 (n : Nat) (b : (List (List UInt8)) × Int × (List ((List UInt8) × (List Int) × (List (List UInt8))))) : Option ((List (List Int)) × Int) :=
  (s79 n (b.1, (b.2.1, b.2.2))).bind fun x =>
  bif (x.2 != (0 : Int)) then
    some (([] : List (List Int)), x.2)
  else
    (s117 n (x.1.1, (x.1.2.1, x.1.2.2))).bind fun x_1 =>
    loopG (s64_l0 n) n (x_1, ((List.length x_1 : Nat) : Int), (0 : Int), ([] : List (List Int)), ())
      (fun (out_1, _) =>
        some (out_1, (0 : Int)), ())

def s64_e (n : Nat) : Env := ⟨(e61 n).G, (e61 n).C, (e61 n).Q, (e61 n).I, (e61 n).M, (e61 n).S, (e61 n).D, [6]⟩
theorem s64_h (n : Nat) : EnvOK Go.Proofs.Try.prog (s64_e n) := env_n (h61 n) _
def s64_t0 : Templ := ⟨44, [(.slice (.int .i64)), (.int .i64), (.int .i64), (.slice (.slice (.int .i64)))], [(6, .v (.nhand 44)), (18, .v (.hole (.slice (.int .i64)))), (19, .v (.hole (.int .i64))), (20, .v (.hole (.int .i64)))], [(44, .nbuf (.int .i64))], []⟩
def s64_x0 : List (Way × Templ) := [(.exit 0, ⟨44, [(.slice (.slice (.int .i64)))], [(6, .v (.nhand 44))], [(44, .nbuf (.int .i64))], []⟩)]
def s64_o0 (n : Nat) : Ev (denL [(.slice (.slice (.int .i64))), (.int .i64)]) := loopO n (s64_e n) s64_t0 s64_x0 (s64_l0 n)
theorem s64_b0 (n : Nat) (d) (again) (ks) : codeR (R := (denL [(.slice (.slice (.int .i64))), (.int .i64)])) (s64_e n) (Hdl.no (R := (denL [(.slice (.slice (.int .i64))), (.int .i64)]))) (inn (lp (bd Go.Proofs.Try.f64) 0)) [] (mk s64_t0 d) (turnR (s64_e n) s64_t0 s64_x0 again ks) = s64_l0 n d again ks := by kernel_rfl
theorem s64_s0 (n : Nat) : Sound Go.Proofs.Try.prog (Hdl.no (R := (denL [(.slice (.slice (.int .i64))), (.int .i64)]))) false (lp (bd Go.Proofs.Try.f64) 0) (s64_o0 n) := loop_ok (s64_h n) hP (by kernel_rfl) (O := []) trivial (s64_b0 n)
def s64_c (n : Nat) : Con := ⟨[(.pair (.slice .str) (.pair (.int .i64) (.slice (.pair .str (.pair (.slice (.int .i64)) (.slice .str))))))], [], [(.slice (.slice (.int .i64))), (.int .i64)], fun x y => s64 n x, false⟩
theorem s64_eq (n : Nat) (x : denL [(.pair (.slice .str) (.pair (.int .i64) (.slice (.pair .str (.pair (.slice (.int .i64)) (.slice .str))))))]) (y : denL []) : funR (s64_e n) Go.Proofs.Try.f64 [(.pair (.slice .str) (.pair (.int .i64) (.slice (.pair .str (.pair (.slice (.int .i64)) (.slice .str))))))] [] [(.slice (.slice (.int .i64))), (.int .i64)] false [s64_o0 n] x y = (s64_c n).fn x y := by kernel_rfl
theorem s64_ok (n : Nat) : ConOK Go.Proofs.Try.prog 64 (s64_c n) := func_ok (s64_h n) hP Go.Proofs.Try.func64 (by kernel_rfl) (by kernel_rfl) (O := [s64_o0 n]) ⟨s64_s0 n, trivial⟩ (s64_eq n)
def e62 (n : Nat) : Env := ⟨gT, (64, s64_c n) :: (e61 n).C, gQ, (e61 n).I, (e61 n).M, (e61 n).S, (e61 n).D, []⟩
theorem h62 (n : Nat) : EnvOK Go.Proofs.Try.prog (e62 n) := env_add (h61 n) (s64_ok n)

/-- criadera/taste.Least$1 -/
def s119 (n : Nat) (v_n : Int) (mark : Int) (c0 : List Int) (c1 : (List (List UInt8)) × Int × (List ((List UInt8) × (List Int) × (List (List UInt8))))) (c2 : List (Int × Int)) : Option (Int) :=
  (s114 n c1 (Option.getD (mget c2 v_n) (0 : Int)) mark).bind fun x =>
  (geti c0 x).bind fun e =>
  some (e)

def s119_c (n : Nat) : Con := ⟨[(.int .i64), (.int .i64)], [(.slice (.int .i64)), (.pair (.slice .str) (.pair (.int .i64) (.slice (.pair .str (.pair (.slice (.int .i64)) (.slice .str)))))), (.map (.int .i64) (.int .i64))], [(.int .i64)], fun x y => s119 n x.1 x.2 y.1 y.2.1 y.2.2, false⟩
theorem s119_eq (n : Nat) (x : denL [(.int .i64), (.int .i64)]) (y : denL [(.slice (.int .i64)), (.pair (.slice .str) (.pair (.int .i64) (.slice (.pair .str (.pair (.slice (.int .i64)) (.slice .str)))))), (.map (.int .i64) (.int .i64))]) : funR (e62 n) Go.Proofs.Try.f119 [(.int .i64), (.int .i64)] [(.slice (.int .i64)), (.pair (.slice .str) (.pair (.int .i64) (.slice (.pair .str (.pair (.slice (.int .i64)) (.slice .str)))))), (.map (.int .i64) (.int .i64))] [(.int .i64)] false [] x y = (s119_c n).fn x y := by kernel_rfl
theorem s119_ok (n : Nat) : ConOK Go.Proofs.Try.prog 119 (s119_c n) := func_ok (h62 n) hP Go.Proofs.Try.func119 (by kernel_rfl) (by kernel_rfl) (O := []) trivial (s119_eq n)
def e63 (n : Nat) : Env := ⟨gT, (119, s119_c n) :: (e62 n).C, gQ, (e62 n).I, (e62 n).M, (e62 n).S, (e62 n).D, []⟩
theorem h63 (n : Nat) : EnvOK Go.Proofs.Try.prog (e63 n) := env_add (h62 n) (s119_ok n)

def e64 (n : Nat) : Env := ⟨gT, (120, s120_c n) :: (e63 n).C, gQ, (e63 n).I, (e63 n).M, (e63 n).S, (e63 n).D, []⟩
theorem h64 (n : Nat) : EnvOK Go.Proofs.Try.prog (e64 n) := env_add (h63 n) (s120_ok n)

def s65_l0 (n : Nat) (d : (List (Int × (List Int))) × (List (List UInt8)) × Int × (List ((List UInt8) × (List Int) × (List (List UInt8)))) × Int × (List (List UInt8)) × Int × (List ((List UInt8) × (List Int) × (List (List UInt8)))) × (List Int) × (List (Int × Int)) × Unit) (y : Int × (List Int)) (again : ((List (Int × (List Int))) × (List (List UInt8)) × Int × (List ((List UInt8) × (List Int) × (List (List UInt8)))) × Int × (List (List UInt8)) × Int × (List ((List UInt8) × (List Int) × (List (List UInt8)))) × (List Int) × (List (Int × Int)) × Unit) → Option (((List (List UInt8)) × Int × (List ((List UInt8) × (List Int) × (List (List UInt8))))) × Int)) (ks : Unit) : Option (((List (List UInt8)) × Int × (List ((List UInt8) × (List Int) × (List (List UInt8))))) × Int) :=
  match d, ks with
  | (t37, b, b_1, b_2, t2, t4, t4_1, t4_2, sets, heads, _), (_) =>
  (geti sets y.1).bind fun e =>
  bif ((!(Option.isSome (mget heads e))) || (decide (y.1 < (Option.getD (mget heads e) (0 : Int))))) then
    again (t37, b, b_1, b_2, t2, t4, t4_1, t4_2, sets, (mput heads e y.1), ())
  else
    again (t37, b, b_1, b_2, t2, t4, t4_1, t4_2, sets, heads, ())

def s65_l1 (n : Nat) (d : (List Int) × (List (Int × Int)) × (List (Int × (List Int))) × (List (List UInt8)) × Int × (List ((List UInt8) × (List Int) × (List (List UInt8)))) × Int × (List (Int × Int)) × (List Int) × Unit) (y : Int × (List Int)) (again : ((List Int) × (List (Int × Int)) × (List (Int × (List Int))) × (List (List UInt8)) × Int × (List ((List UInt8) × (List Int) × (List (List UInt8)))) × Int × (List (Int × Int)) × (List Int) × Unit) → Option (((List (List UInt8)) × Int × (List ((List UInt8) × (List Int) × (List (List UInt8))))) × Int)) (ks : Unit) : Option (((List (List UInt8)) × Int × (List ((List UInt8) × (List Int) × (List (List UInt8))))) × Int) :=
  match d, ks with
  | (sets, heads, t72, b, b_1, b_2, t2, numbers, order, _), (_) =>
  (chk (List.length order + List.length ([y.1] : List Int))).bind fun u =>
  again (sets, heads, t72, b, b_1, b_2, t2, (mput numbers y.1 ((List.length order : Nat) : Int)), (order ++ ([y.1] : List Int)), ())

def s65_l2_0 (n : Nat) (d : (List Int) × (List (Int × Int)) × Int × Int × (List Int) × Int × Int × (List (List UInt8)) × Int × (List ((List UInt8) × (List Int) × (List (List UInt8)))) × Int × (List (Int × Int)) × Int × (List (List UInt8)) × (List ((List UInt8) × (List Int) × (List (List UInt8)))) × (List UInt8) × (List Int) × (List (List UInt8)) × (List Int) × Unit) (again : ((List Int) × (List (Int × Int)) × Int × Int × (List Int) × Int × Int × (List (List UInt8)) × Int × (List ((List UInt8) × (List Int) × (List (List UInt8)))) × Int × (List (Int × Int)) × Int × (List (List UInt8)) × (List ((List UInt8) × (List Int) × (List (List UInt8)))) × (List UInt8) × (List Int) × (List (List UInt8)) × (List Int) × Unit) → Option (((List (List UInt8)) × Int × (List ((List UInt8) × (List Int) × (List (List UInt8))))) × Int)) (ks : ((List Int) × (List (Int × Int)) × Int × Int × (List (List UInt8)) × Int × (List ((List UInt8) × (List Int) × (List (List UInt8)))) × Int × (List (Int × Int)) × Int × (List (List UInt8)) × (List ((List UInt8) × (List Int) × (List (List UInt8)))) × (List UInt8) × (List Int) × (List (List UInt8)) × (List Int) × Unit → Option (((List (List UInt8)) × Int × (List ((List UInt8) × (List Int) × (List (List UInt8))))) × Int)) × Unit) : Option (((List (List UInt8)) × Int × (List ((List UInt8) × (List Int) × (List (List UInt8))))) × Int) :=
  match d, ks with
  | (sets, heads, t89, t90, t108, t109, t110, b, b_1, b_2, t2, numbers, out, out_1, out_2, own, own_1, own_2, t88, _), (k0, _) =>
  bif (decide (t110 < t109)) then
    (geti t108 t110).bind fun e =>
    (geti sets e).bind fun e_1 =>
    (chk (List.length own_1 + List.length ([(Option.getD (mget numbers e_1) (0 : Int))] : List Int))).bind fun u =>
    again (sets, heads, t89, t90, t108, t109, (IntKind.wrap .i64 (t110 + (1 : Int))), b, b_1, b_2, t2, numbers, out, out_1, out_2, own, (own_1 ++ ([(Option.getD (mget numbers e_1) (0 : Int))] : List Int)), own_2, t88, ())
  else
    k0 (sets, heads, t89, t90, b, b_1, b_2, t2, numbers, out, out_1, out_2, own, own_1, own_2, t88, ())

def s65_l2 (n : Nat) (d : (List Int) × (List (Int × Int)) × Int × Int × (List (List UInt8)) × Int × (List ((List UInt8) × (List Int) × (List (List UInt8)))) × Int × (List (Int × Int)) × Int × (List (List UInt8)) × (List ((List UInt8) × (List Int) × (List (List UInt8)))) × (List Int) × Unit) (again : ((List Int) × (List (Int × Int)) × Int × Int × (List (List UInt8)) × Int × (List ((List UInt8) × (List Int) × (List (List UInt8)))) × Int × (List (Int × Int)) × Int × (List (List UInt8)) × (List ((List UInt8) × (List Int) × (List (List UInt8)))) × (List Int) × Unit) → Option (((List (List UInt8)) × Int × (List ((List UInt8) × (List Int) × (List (List UInt8))))) × Int)) (ks : (Int × Int × (List (List UInt8)) × (List ((List UInt8) × (List Int) × (List (List UInt8)))) × Unit → Option (((List (List UInt8)) × Int × (List ((List UInt8) × (List Int) × (List (List UInt8))))) × Int)) × Unit) : Option (((List (List UInt8)) × Int × (List ((List UInt8) × (List Int) × (List (List UInt8))))) × Int) :=
  match d, ks with
  | (sets, heads, t89, t90, b, b_1, b_2, t2, numbers, out, out_1, out_2, t88, _), (k0, _) =>
  bif (decide (t90 < t89)) then
    (geti t88 t90).bind fun e =>
    (geti t88 t90).bind fun x =>
    (geti b_2 (Option.getD (mget heads x) (0 : Int))).bind fun e_1 =>
    (s120 n e_1.2.2).bind fun x_1 =>
    loopG (s65_l2_0 n) n (sets, heads, t89, t90, e_1.2.1, ((List.length e_1.2.1 : Nat) : Int), (0 : Int), b, b_1, b_2, t2, numbers, out, out_1, out_2, e_1.1, ([] : List Int), x_1, t88, ())
      (fun (sets_2, heads_2, t89_2, t90_2, b_6, b_7, b_8, t2_2, numbers_2, out_6, out_7, out_8, own_3, own_4, own_5, t88_2, _) =>
        (chk (List.length out_8 + List.length ([(own_3, (own_4, own_5))] : List ((List UInt8) × (List Int) × (List (List UInt8)))))).bind fun u_1 =>
        again (sets_2, heads_2, t89_2, (IntKind.wrap .i64 (t90_2 + (1 : Int))), b_6, b_7, b_8, t2_2, numbers_2, out_6, out_7, (out_8 ++ ([(own_3, (own_4, own_5))] : List ((List UInt8) × (List Int) × (List (List UInt8))))), t88_2, ()), ())
  else
    k0 (t2, out, out_1, out_2, ())

/-- criadera/taste.Least -/
def s65 (n : Nat) (b : (List (List UInt8)) × Int × (List ((List UInt8) × (List Int) × (List (List UInt8))))) : Option (((List (List UInt8)) × Int × (List ((List UInt8) × (List Int) × (List (List UInt8))))) × Int) :=
  (s79 n (b.1, (b.2.1, b.2.2))).bind fun x =>
  bif (x.2 != (0 : Int)) then
    some ((([] : List (List UInt8)), ((0 : Int), ([] : List ((List UInt8) × (List Int) × (List (List UInt8)))))), x.2)
  else
    (s117 n (x.1.1, (x.1.2.1, x.1.2.2))).bind fun x_1 =>
    (s83 n (x.1.1, (x.1.2.1, x.1.2.2)) b.2.1).bind fun x_2 =>
    rangeG (s65_l0 n) (()) (fun (t37_1, b_4, b_5, b_6, t2_1, t4_3, t4_4, t4_5, sets_1, heads_1, _) =>
        (geti sets_1 b_5).bind fun e_1 =>
        (s118 n e_1 ((List.length b_4 : Nat) : Int) (fun y0 y1 => s119 n y0 y1 sets_1 (t4_3, (t4_4, t4_5)) heads_1)).bind fun x_3 =>
        rangeG (s65_l1 n) (()) (fun (sets_3, heads_3, t72_1, b_10, b_11, b_12, t2_3, numbers_1, order_1, _) =>
            (s120 n b_10).bind fun x_4 =>
            loopG (s65_l2 n) n (sets_3, heads_3, ((List.length order_1 : Nat) : Int), (0 : Int), b_10, b_11, b_12, t2_3, numbers_1, (0 : Int), x_4, ([] : List ((List UInt8) × (List Int) × (List (List UInt8)))), order_1, ())
              (fun (t2_7, out_9, out_10, out_11, _) =>
                some ((out_10, (out_9, out_11)), (0 : Int)), ())) x_3 (sets_1, heads_1, x_3, b_4, b_5, b_6, t2_1, ([] : List (Int × Int)), ([] : List Int), ())) x_2 (x_2, b.1, b.2.1, b.2.2, (0 : Int), x.1.1, x.1.2.1, x.1.2.2, x_1, ([] : List (Int × Int)), ())

def s65_e (n : Nat) : Env := ⟨(e64 n).G, (e64 n).C, (e64 n).Q, (e64 n).I, (e64 n).M, (e64 n).S, (e64 n).D, [1000006, 1000004, 1000007]⟩
theorem s65_h (n : Nat) : EnvOK Go.Proofs.Try.prog (s65_e n) := env_n (h64 n) _
def s65_t2_0 : Templ := ⟨134, [(.slice (.int .i64)), (.map (.int .i64) (.int .i64)), (.int .i64), (.int .i64), (.slice (.int .i64)), (.int .i64), (.int .i64), (.slice .str), (.int .i64), (.slice (.pair .str (.pair (.slice (.int .i64)) (.slice .str)))), (.int .i64), (.map (.int .i64) (.int .i64)), (.int .i64), (.slice .str), (.slice (.pair .str (.pair (.slice (.int .i64)) (.slice .str)))), .str, (.slice (.int .i64)), (.slice .str), (.slice (.int .i64))], [(1, .v (.bptr 134 0)), (2, .v (.bptr 135 0)), (6, .v (.pp (.slice (.int .i64)))), (7, .v (.pp (.map (.int .i64) (.int .i64)))), (12, .v (.bptr 136 0)), (15, .v (.bptr 138 0)), (19, .v (.bptr 141 0)), (88, .v (.hand 144)), (89, .v (.hole (.int .i64))), (90, .v (.hole (.int .i64))), (108, .v (.hole (.slice (.int .i64)))), (109, .v (.hole (.int .i64))), (110, .v (.hole (.int .i64)))], [(134, .box (.pair (.slice .str) (.pair (.int .i64) (.slice (.pair .str (.pair (.slice (.int .i64)) (.slice .str)))))) [.hole (.slice .str), .hole (.int .i64), .hole (.slice (.pair .str (.pair (.slice (.int .i64)) (.slice .str))))]), (135, .box (.pair (.slice .str) (.pair (.int .i64) (.slice (.pair .str (.pair (.slice (.int .i64)) (.slice .str)))))) [.nils, .hole (.int .i64), .nils]), (136, .box (.map (.int .i64) (.int .i64)) [.hand 137]), (137, .map (.int .i64) (.int .i64)), (138, .box (.pair (.slice .str) (.pair (.int .i64) (.slice (.pair .str (.pair (.slice (.int .i64)) (.slice .str)))))) [.hand 139, .hole (.int .i64), .hand 140]), (139, .buf .str), (140, .buf (.pair .str (.pair (.slice (.int .i64)) (.slice .str)))), (141, .box (.pair .str (.pair (.slice (.int .i64)) (.slice .str))) [.hole .str, .hand 142, .hand 143]), (142, .buf (.int .i64)), (143, .buf .str), (144, .buf (.int .i64))], []⟩
def s65_x2_0 : List (Way × Templ) := [(.exit 6, ⟨134, [(.slice (.int .i64)), (.map (.int .i64) (.int .i64)), (.int .i64), (.int .i64), (.slice .str), (.int .i64), (.slice (.pair .str (.pair (.slice (.int .i64)) (.slice .str)))), (.int .i64), (.map (.int .i64) (.int .i64)), (.int .i64), (.slice .str), (.slice (.pair .str (.pair (.slice (.int .i64)) (.slice .str)))), .str, (.slice (.int .i64)), (.slice .str), (.slice (.int .i64))], [(1, .v (.bptr 134 0)), (2, .v (.bptr 135 0)), (6, .v (.pp (.slice (.int .i64)))), (7, .v (.pp (.map (.int .i64) (.int .i64)))), (12, .v (.bptr 136 0)), (15, .v (.bptr 138 0)), (19, .v (.bptr 141 0)), (88, .v (.hand 144)), (89, .v (.hole (.int .i64))), (90, .v (.hole (.int .i64)))], [(134, .box (.pair (.slice .str) (.pair (.int .i64) (.slice (.pair .str (.pair (.slice (.int .i64)) (.slice .str)))))) [.hole (.slice .str), .hole (.int .i64), .hole (.slice (.pair .str (.pair (.slice (.int .i64)) (.slice .str))))]), (135, .box (.pair (.slice .str) (.pair (.int .i64) (.slice (.pair .str (.pair (.slice (.int .i64)) (.slice .str)))))) [.nils, .hole (.int .i64), .nils]), (136, .box (.map (.int .i64) (.int .i64)) [.hand 137]), (137, .map (.int .i64) (.int .i64)), (138, .box (.pair (.slice .str) (.pair (.int .i64) (.slice (.pair .str (.pair (.slice (.int .i64)) (.slice .str)))))) [.hand 139, .hole (.int .i64), .hand 140]), (139, .buf .str), (140, .buf (.pair .str (.pair (.slice (.int .i64)) (.slice .str)))), (141, .box (.pair .str (.pair (.slice (.int .i64)) (.slice .str))) [.hole .str, .hand 142, .hand 143]), (142, .buf (.int .i64)), (143, .buf .str), (144, .buf (.int .i64))], []⟩)]
def s65_o2_0 (n : Nat) : Ev (denL [(.pair (.slice .str) (.pair (.int .i64) (.slice (.pair .str (.pair (.slice (.int .i64)) (.slice .str)))))), (.int .i64)]) := loopO n (s65_e n) s65_t2_0 s65_x2_0 (s65_l2_0 n)
theorem s65_b2_0 (n : Nat) (d) (again) (ks) : codeR (R := (denL [(.pair (.slice .str) (.pair (.int .i64) (.slice (.pair .str (.pair (.slice (.int .i64)) (.slice .str)))))), (.int .i64)])) (s65_e n) (Hdl.no (R := (denL [(.pair (.slice .str) (.pair (.int .i64) (.slice (.pair .str (.pair (.slice (.int .i64)) (.slice .str)))))), (.int .i64)]))) (inn (lp (inn (lp (bd Go.Proofs.Try.f65) 2)) 0)) [] (mk s65_t2_0 d) (turnR (s65_e n) s65_t2_0 s65_x2_0 again ks) = s65_l2_0 n d again ks := by kernel_rfl
theorem s65_s2_0 (n : Nat) : Sound Go.Proofs.Try.prog (Hdl.no (R := (denL [(.pair (.slice .str) (.pair (.int .i64) (.slice (.pair .str (.pair (.slice (.int .i64)) (.slice .str)))))), (.int .i64)]))) false (lp (inn (lp (bd Go.Proofs.Try.f65) 2)) 0) (s65_o2_0 n) := loop_ok (s65_h n) hP (by kernel_rfl) (O := []) trivial (s65_b2_0 n)
def s65_t0 : Templ := ⟨134, [(.seq (.pair (.int .i64) (.slice (.int .i64)))), (.slice .str), (.int .i64), (.slice (.pair .str (.pair (.slice (.int .i64)) (.slice .str)))), (.int .i64), (.slice .str), (.int .i64), (.slice (.pair .str (.pair (.slice (.int .i64)) (.slice .str)))), (.slice (.int .i64)), (.map (.int .i64) (.int .i64))], [(1, .v (.bptr 134 0)), (2, .v (.bptr 135 0)), (4, .v (.bptr 136 0)), (6, .v (.bptr 137 0)), (7, .v (.bptr 138 0)), (37, .v (.hole (.seq (.pair (.int .i64) (.slice (.int .i64))))))], [(134, .box (.pair (.slice .str) (.pair (.int .i64) (.slice (.pair .str (.pair (.slice (.int .i64)) (.slice .str)))))) [.hole (.slice .str), .hole (.int .i64), .hole (.slice (.pair .str (.pair (.slice (.int .i64)) (.slice .str))))]), (135, .box (.pair (.slice .str) (.pair (.int .i64) (.slice (.pair .str (.pair (.slice (.int .i64)) (.slice .str)))))) [.nils, .hole (.int .i64), .nils]), (136, .box (.pair (.slice .str) (.pair (.int .i64) (.slice (.pair .str (.pair (.slice (.int .i64)) (.slice .str)))))) [.hole (.slice .str), .hole (.int .i64), .hole (.slice (.pair .str (.pair (.slice (.int .i64)) (.slice .str))))]), (137, .box (.slice (.int .i64)) [.hole (.slice (.int .i64))]), (138, .box (.map (.int .i64) (.int .i64)) [.hand 139]), (139, .map (.int .i64) (.int .i64))], []⟩
def s65_x0 : List (Way × Templ) := []
theorem s65_b0 (n : Nat) (d) (x) (again) (ks) : codeR (R := (denL [(.pair (.slice .str) (.pair (.int .i64) (.slice (.pair .str (.pair (.slice (.int .i64)) (.slice .str)))))), (.int .i64)])) (s65_e n) (Hdl.no (R := (denL [(.pair (.slice .str) (.pair (.int .i64) (.slice (.pair .str (.pair (.slice (.int .i64)) (.slice .str)))))), (.int .i64)]))) (rgA (lp (bd Go.Proofs.Try.f65) 0)) [] (mkB s65_t0 [1, 2, 4, 6, 7, 37] 38 (.pair (.int .i64) (.slice (.int .i64))) d x) (thenB fun st => codeR (R := (denL [(.pair (.slice .str) (.pair (.int .i64) (.slice (.pair .str (.pair (.slice (.int .i64)) (.slice .str)))))), (.int .i64)])) (s65_e n) (Hdl.no (R := (denL [(.pair (.slice .str) (.pair (.int .i64) (.slice (.pair .str (.pair (.slice (.int .i64)) (.slice .str)))))), (.int .i64)]))) (rgB (lp (bd Go.Proofs.Try.f65) 0)) [] st (turnB (s65_e n) s65_t0 [1, 2, 4, 6, 7, 37] s65_x0 again ks)) = s65_l0 n d x again ks := by kernel_rfl
theorem s65_s0 (n : Nat) : Sound Go.Proofs.Try.prog (Hdl.no (R := (denL [(.pair (.slice .str) (.pair (.int .i64) (.slice (.pair .str (.pair (.slice (.int .i64)) (.slice .str)))))), (.int .i64)]))) false (lp (bd Go.Proofs.Try.f65) 0) ((fun n => rangeO (R := (denL [(.pair (.slice .str) (.pair (.int .i64) (.slice (.pair .str (.pair (.slice (.int .i64)) (.slice .str)))))), (.int .i64)])) (s65_e n) (.pair (.int .i64) (.slice (.int .i64))) (rgG (lp (bd Go.Proofs.Try.f65) 0)) s65_t0 s65_x0 (s65_l0 n)) n) := range_ok (s65_h n) hP (p := 38) (F := [1, 2, 4, 6, 7, 37]) (Oa := []) (Ob := []) (by kernel_rfl) rfl (by decide) (by decide) rfl trivial trivial (s65_b0 n)
def s65_t1 : Templ := ⟨134, [(.slice (.int .i64)), (.map (.int .i64) (.int .i64)), (.seq (.pair (.int .i64) (.slice (.int .i64)))), (.slice .str), (.int .i64), (.slice (.pair .str (.pair (.slice (.int .i64)) (.slice .str)))), (.int .i64), (.map (.int .i64) (.int .i64)), (.slice (.int .i64))], [(1, .v (.bptr 134 0)), (2, .v (.bptr 135 0)), (6, .v (.pp (.slice (.int .i64)))), (7, .v (.pp (.map (.int .i64) (.int .i64)))), (12, .v (.bptr 136 0)), (13, .v (.bptr 138 0)), (72, .v (.hole (.seq (.pair (.int .i64) (.slice (.int .i64))))))], [(134, .box (.pair (.slice .str) (.pair (.int .i64) (.slice (.pair .str (.pair (.slice (.int .i64)) (.slice .str)))))) [.hole (.slice .str), .hole (.int .i64), .hole (.slice (.pair .str (.pair (.slice (.int .i64)) (.slice .str))))]), (135, .box (.pair (.slice .str) (.pair (.int .i64) (.slice (.pair .str (.pair (.slice (.int .i64)) (.slice .str)))))) [.nils, .hole (.int .i64), .nils]), (136, .box (.map (.int .i64) (.int .i64)) [.hand 137]), (137, .map (.int .i64) (.int .i64)), (138, .box (.slice (.int .i64)) [.hand 139]), (139, .buf (.int .i64))], []⟩
def s65_x1 : List (Way × Templ) := []
theorem s65_b1 (n : Nat) (d) (x) (again) (ks) : codeR (R := (denL [(.pair (.slice .str) (.pair (.int .i64) (.slice (.pair .str (.pair (.slice (.int .i64)) (.slice .str)))))), (.int .i64)])) (s65_e n) (Hdl.no (R := (denL [(.pair (.slice .str) (.pair (.int .i64) (.slice (.pair .str (.pair (.slice (.int .i64)) (.slice .str)))))), (.int .i64)]))) (rgA (lp (bd Go.Proofs.Try.f65) 1)) [] (mkB s65_t1 [1, 2, 6, 7, 12, 13, 72] 73 (.pair (.int .i64) (.slice (.int .i64))) d x) (thenB fun st => codeR (R := (denL [(.pair (.slice .str) (.pair (.int .i64) (.slice (.pair .str (.pair (.slice (.int .i64)) (.slice .str)))))), (.int .i64)])) (s65_e n) (Hdl.no (R := (denL [(.pair (.slice .str) (.pair (.int .i64) (.slice (.pair .str (.pair (.slice (.int .i64)) (.slice .str)))))), (.int .i64)]))) (rgB (lp (bd Go.Proofs.Try.f65) 1)) [] st (turnB (s65_e n) s65_t1 [1, 2, 6, 7, 12, 13, 72] s65_x1 again ks)) = s65_l1 n d x again ks := by kernel_rfl
theorem s65_s1 (n : Nat) : Sound Go.Proofs.Try.prog (Hdl.no (R := (denL [(.pair (.slice .str) (.pair (.int .i64) (.slice (.pair .str (.pair (.slice (.int .i64)) (.slice .str)))))), (.int .i64)]))) false (lp (bd Go.Proofs.Try.f65) 1) ((fun n => rangeO (R := (denL [(.pair (.slice .str) (.pair (.int .i64) (.slice (.pair .str (.pair (.slice (.int .i64)) (.slice .str)))))), (.int .i64)])) (s65_e n) (.pair (.int .i64) (.slice (.int .i64))) (rgG (lp (bd Go.Proofs.Try.f65) 1)) s65_t1 s65_x1 (s65_l1 n)) n) := range_ok (s65_h n) hP (p := 73) (F := [1, 2, 6, 7, 12, 13, 72]) (Oa := []) (Ob := []) (by kernel_rfl) rfl (by decide) (by decide) rfl trivial trivial (s65_b1 n)
def s65_t2 : Templ := ⟨134, [(.slice (.int .i64)), (.map (.int .i64) (.int .i64)), (.int .i64), (.int .i64), (.slice .str), (.int .i64), (.slice (.pair .str (.pair (.slice (.int .i64)) (.slice .str)))), (.int .i64), (.map (.int .i64) (.int .i64)), (.int .i64), (.slice .str), (.slice (.pair .str (.pair (.slice (.int .i64)) (.slice .str)))), (.slice (.int .i64))], [(1, .v (.bptr 134 0)), (2, .v (.bptr 135 0)), (6, .v (.pp (.slice (.int .i64)))), (7, .v (.pp (.map (.int .i64) (.int .i64)))), (12, .v (.bptr 136 0)), (15, .v (.bptr 138 0)), (88, .v (.hand 141)), (89, .v (.hole (.int .i64))), (90, .v (.hole (.int .i64)))], [(134, .box (.pair (.slice .str) (.pair (.int .i64) (.slice (.pair .str (.pair (.slice (.int .i64)) (.slice .str)))))) [.hole (.slice .str), .hole (.int .i64), .hole (.slice (.pair .str (.pair (.slice (.int .i64)) (.slice .str))))]), (135, .box (.pair (.slice .str) (.pair (.int .i64) (.slice (.pair .str (.pair (.slice (.int .i64)) (.slice .str)))))) [.nils, .hole (.int .i64), .nils]), (136, .box (.map (.int .i64) (.int .i64)) [.hand 137]), (137, .map (.int .i64) (.int .i64)), (138, .box (.pair (.slice .str) (.pair (.int .i64) (.slice (.pair .str (.pair (.slice (.int .i64)) (.slice .str)))))) [.hand 139, .hole (.int .i64), .hand 140]), (139, .buf .str), (140, .buf (.pair .str (.pair (.slice (.int .i64)) (.slice .str)))), (141, .buf (.int .i64))], []⟩
def s65_x2 : List (Way × Templ) := [(.exit 4, ⟨134, [(.int .i64), (.int .i64), (.slice .str), (.slice (.pair .str (.pair (.slice (.int .i64)) (.slice .str))))], [(2, .v (.bptr 134 0)), (15, .v (.bptr 135 0))], [(134, .box (.pair (.slice .str) (.pair (.int .i64) (.slice (.pair .str (.pair (.slice (.int .i64)) (.slice .str)))))) [.nils, .hole (.int .i64), .nils]), (135, .box (.pair (.slice .str) (.pair (.int .i64) (.slice (.pair .str (.pair (.slice (.int .i64)) (.slice .str)))))) [.hand 136, .hole (.int .i64), .hand 137]), (136, .buf .str), (137, .buf (.pair .str (.pair (.slice (.int .i64)) (.slice .str))))], []⟩)]
def s65_o2 (n : Nat) : Ev (denL [(.pair (.slice .str) (.pair (.int .i64) (.slice (.pair .str (.pair (.slice (.int .i64)) (.slice .str)))))), (.int .i64)]) := loopO n (s65_e n) s65_t2 s65_x2 (s65_l2 n)
theorem s65_b2 (n : Nat) (d) (again) (ks) : codeR (R := (denL [(.pair (.slice .str) (.pair (.int .i64) (.slice (.pair .str (.pair (.slice (.int .i64)) (.slice .str)))))), (.int .i64)])) (s65_e n) (Hdl.no (R := (denL [(.pair (.slice .str) (.pair (.int .i64) (.slice (.pair .str (.pair (.slice (.int .i64)) (.slice .str)))))), (.int .i64)]))) (inn (lp (bd Go.Proofs.Try.f65) 2)) [s65_o2_0 n] (mk s65_t2 d) (turnR (s65_e n) s65_t2 s65_x2 again ks) = s65_l2 n d again ks := by kernel_rfl
theorem s65_s2 (n : Nat) : Sound Go.Proofs.Try.prog (Hdl.no (R := (denL [(.pair (.slice .str) (.pair (.int .i64) (.slice (.pair .str (.pair (.slice (.int .i64)) (.slice .str)))))), (.int .i64)]))) false (lp (bd Go.Proofs.Try.f65) 2) (s65_o2 n) := loop_ok (s65_h n) hP (by kernel_rfl) (O := [s65_o2_0 n]) ⟨s65_s2_0 n, trivial⟩ (s65_b2 n)
def s65_c (n : Nat) : Con := ⟨[(.pair (.slice .str) (.pair (.int .i64) (.slice (.pair .str (.pair (.slice (.int .i64)) (.slice .str))))))], [], [(.pair (.slice .str) (.pair (.int .i64) (.slice (.pair .str (.pair (.slice (.int .i64)) (.slice .str)))))), (.int .i64)], fun x y => s65 n x, false⟩
theorem s65_eq (n : Nat) (x : denL [(.pair (.slice .str) (.pair (.int .i64) (.slice (.pair .str (.pair (.slice (.int .i64)) (.slice .str))))))]) (y : denL []) : funR (s65_e n) Go.Proofs.Try.f65 [(.pair (.slice .str) (.pair (.int .i64) (.slice (.pair .str (.pair (.slice (.int .i64)) (.slice .str))))))] [] [(.pair (.slice .str) (.pair (.int .i64) (.slice (.pair .str (.pair (.slice (.int .i64)) (.slice .str)))))), (.int .i64)] false [(fun n => rangeO (R := (denL [(.pair (.slice .str) (.pair (.int .i64) (.slice (.pair .str (.pair (.slice (.int .i64)) (.slice .str)))))), (.int .i64)])) (s65_e n) (.pair (.int .i64) (.slice (.int .i64))) (rgG (lp (bd Go.Proofs.Try.f65) 0)) s65_t0 s65_x0 (s65_l0 n)) n, (fun n => rangeO (R := (denL [(.pair (.slice .str) (.pair (.int .i64) (.slice (.pair .str (.pair (.slice (.int .i64)) (.slice .str)))))), (.int .i64)])) (s65_e n) (.pair (.int .i64) (.slice (.int .i64))) (rgG (lp (bd Go.Proofs.Try.f65) 1)) s65_t1 s65_x1 (s65_l1 n)) n, s65_o2 n] x y = (s65_c n).fn x y := by kernel_rfl
theorem s65_ok (n : Nat) : ConOK Go.Proofs.Try.prog 65 (s65_c n) := func_ok (s65_h n) hP Go.Proofs.Try.func65 (by kernel_rfl) (by kernel_rfl) (O := [(fun n => rangeO (R := (denL [(.pair (.slice .str) (.pair (.int .i64) (.slice (.pair .str (.pair (.slice (.int .i64)) (.slice .str)))))), (.int .i64)])) (s65_e n) (.pair (.int .i64) (.slice (.int .i64))) (rgG (lp (bd Go.Proofs.Try.f65) 0)) s65_t0 s65_x0 (s65_l0 n)) n, (fun n => rangeO (R := (denL [(.pair (.slice .str) (.pair (.int .i64) (.slice (.pair .str (.pair (.slice (.int .i64)) (.slice .str)))))), (.int .i64)])) (s65_e n) (.pair (.int .i64) (.slice (.int .i64))) (rgG (lp (bd Go.Proofs.Try.f65) 1)) s65_t1 s65_x1 (s65_l1 n)) n, s65_o2 n]) ⟨s65_s0 n, s65_s1 n, s65_s2 n, trivial⟩ (s65_eq n)
def e65 (n : Nat) : Env := ⟨gT, (65, s65_c n) :: (e64 n).C, gQ, (e64 n).I, (e64 n).M, (e64 n).S, (e64 n).D, []⟩
theorem h65 (n : Nat) : EnvOK Go.Proofs.Try.prog (e65 n) := env_add (h64 n) (s65_ok n)

def s101_l0 (n : Nat) (d : (List UInt8) × Int × Unit) (again : ((List UInt8) × Int × Unit) → Option (Bool)) (ks : (Unit → Option (Bool)) × (Bool × Unit → Option (Bool)) × Unit) : Option (Bool) :=
  match d, ks with
  | (s, i, _), (k0, k1, _) =>
  bif (decide (i < ((List.length s : Nat) : Int))) then
    (geti s i).bind fun c =>
    bif ((!(((decide (((UInt8.toNat c : Nat) : Int) ≥ (97 : Int))) && (decide (((UInt8.toNat c : Nat) : Int) ≤ (122 : Int)))) || ((decide (((UInt8.toNat c : Nat) : Int) ≥ (65 : Int))) && (decide (((UInt8.toNat c : Nat) : Int) ≤ (90 : Int)))))) && ((i == (0 : Int)) || ((((UInt8.toNat c : Nat) : Int) != (45 : Int)) && ((decide (((UInt8.toNat c : Nat) : Int) < (48 : Int))) || (decide (((UInt8.toNat c : Nat) : Int) > (57 : Int))))))) then
      k1 (false, ())
    else
      again (s, (IntKind.wrap .i64 (i + (1 : Int))), ())
  else
    k0 (())

/-- criadera/criaderabase.IsName -/
def s101 (n : Nat) (s : List UInt8) : Option (Bool) :=
  bif ((decide (((List.length s : Nat) : Int) < (1 : Int))) || (decide (((List.length s : Nat) : Int) > (12 : Int)))) then
    some (false)
  else
    loopG (s101_l0 n) n (s, (0 : Int), ())
      (fun (_) =>
        some (true),
      fun (t2, _) =>
        some (t2), ())

def s101_t0 : Templ := ⟨55, [.str, (.int .i64)], [(0, .v (.hole .str)), (3, .v (.hole (.int .i64)))], [], []⟩
def s101_x0 : List (Way × Templ) := [(.exit 0, ⟨55, [], [], [], []⟩), (.ret, ⟨55, [.bool], [(2, .v (.hole .bool))], [], []⟩)]
def s101_o0 (n : Nat) : Ev (denL [.bool]) := loopO n (e65 n) s101_t0 s101_x0 (s101_l0 n)
theorem s101_b0 (n : Nat) (d) (again) (ks) : codeR (R := (denL [.bool])) (e65 n) (Hdl.no (R := (denL [.bool]))) (inn (lp (bd Go.Proofs.Try.f101) 0)) [] (mk s101_t0 d) (turnR (e65 n) s101_t0 s101_x0 again ks) = s101_l0 n d again ks := by kernel_rfl
theorem s101_s0 (n : Nat) : Sound Go.Proofs.Try.prog (Hdl.no (R := (denL [.bool]))) false (lp (bd Go.Proofs.Try.f101) 0) (s101_o0 n) := loop_ok (h65 n) hP (by kernel_rfl) (O := []) trivial (s101_b0 n)
def s101_c (n : Nat) : Con := ⟨[.str], [], [.bool], fun x y => s101 n x, false⟩
theorem s101_eq (n : Nat) (x : denL [.str]) (y : denL []) : funR (e65 n) Go.Proofs.Try.f101 [.str] [] [.bool] false [s101_o0 n] x y = (s101_c n).fn x y := by kernel_rfl
theorem s101_ok (n : Nat) : ConOK Go.Proofs.Try.prog 101 (s101_c n) := func_ok (h65 n) hP Go.Proofs.Try.func101 (by kernel_rfl) (by kernel_rfl) (O := [s101_o0 n]) ⟨s101_s0 n, trivial⟩ (s101_eq n)
def e66 (n : Nat) : Env := ⟨gT, (101, s101_c n) :: (e65 n).C, gQ, (e65 n).I, (e65 n).M, (e65 n).S, (e65 n).D, []⟩
theorem h66 (n : Nat) : EnvOK Go.Proofs.Try.prog (e66 n) := env_add (h65 n) (s101_ok n)

def s102_l0 (n : Nat) (d : (List (List UInt8)) × (List UInt8) × Int × Unit) (again : ((List (List UInt8)) × (List UInt8) × Int × Unit) → Option (Bool)) (ks : (Unit → Option (Bool)) × (Bool × Unit → Option (Bool)) × Unit) : Option (Bool) :=
  match d, ks with
  | (l, s, i, _), (k0, k1, _) =>
  bif (decide (i < ((List.length l : Nat) : Int))) then
    (geti l i).bind fun e =>
    bif ((e : List UInt8) == s) then
      k1 (true, ())
    else
      again (l, s, (IntKind.wrap .i64 (i + (1 : Int))), ())
  else
    k0 (())

/-- criadera/criaderabase.HasText -/
def s102 (n : Nat) (l : List (List UInt8)) (s : List UInt8) : Option (Bool) :=
  loopG (s102_l0 n) n (l, s, (0 : Int), ())
    (fun (_) =>
      some (false),
    fun (t4, _) =>
      some (t4), ())

def s102_t0 : Templ := ⟨18, [(.slice .str), .str, (.int .i64)], [(0, .v (.hole (.slice .str))), (1, .v (.hole .str)), (5, .v (.hole (.int .i64)))], [], []⟩
def s102_x0 : List (Way × Templ) := [(.exit 0, ⟨18, [], [], [], []⟩), (.ret, ⟨18, [.bool], [(4, .v (.hole .bool))], [], []⟩)]
def s102_o0 (n : Nat) : Ev (denL [.bool]) := loopO n (e66 n) s102_t0 s102_x0 (s102_l0 n)
theorem s102_b0 (n : Nat) (d) (again) (ks) : codeR (R := (denL [.bool])) (e66 n) (Hdl.no (R := (denL [.bool]))) (inn (lp (bd Go.Proofs.Try.f102) 0)) [] (mk s102_t0 d) (turnR (e66 n) s102_t0 s102_x0 again ks) = s102_l0 n d again ks := by kernel_rfl
theorem s102_s0 (n : Nat) : Sound Go.Proofs.Try.prog (Hdl.no (R := (denL [.bool]))) false (lp (bd Go.Proofs.Try.f102) 0) (s102_o0 n) := loop_ok (h66 n) hP (by kernel_rfl) (O := []) trivial (s102_b0 n)
def s102_c (n : Nat) : Con := ⟨[(.slice .str), .str], [], [.bool], fun x y => s102 n x.1 x.2, false⟩
theorem s102_eq (n : Nat) (x : denL [(.slice .str), .str]) (y : denL []) : funR (e66 n) Go.Proofs.Try.f102 [(.slice .str), .str] [] [.bool] false [s102_o0 n] x y = (s102_c n).fn x y := by kernel_rfl
theorem s102_ok (n : Nat) : ConOK Go.Proofs.Try.prog 102 (s102_c n) := func_ok (h66 n) hP Go.Proofs.Try.func102 (by kernel_rfl) (by kernel_rfl) (O := [s102_o0 n]) ⟨s102_s0 n, trivial⟩ (s102_eq n)
def e67 (n : Nat) : Env := ⟨gT, (102, s102_c n) :: (e66 n).C, gQ, (e66 n).I, (e66 n).M, (e66 n).S, (e66 n).D, []⟩
theorem h67 (n : Nat) : EnvOK Go.Proofs.Try.prog (e67 n) := env_add (h66 n) (s102_ok n)

/-- criadera/criaderabase.Within -/
def s19 (n : Nat) (v_n : Int) (lo : Int) (hi : Int) : Option (Bool) :=
  some (((decide (lo ≤ v_n)) && (decide (v_n ≤ hi))))

def s19_c (n : Nat) : Con := ⟨[(.int .i64), (.int .i64), (.int .i64)], [], [.bool], fun x y => s19 n x.1 x.2.1 x.2.2, false⟩
theorem s19_eq (n : Nat) (x : denL [(.int .i64), (.int .i64), (.int .i64)]) (y : denL []) : funR (e67 n) Go.Proofs.Try.f19 [(.int .i64), (.int .i64), (.int .i64)] [] [.bool] false [] x y = (s19_c n).fn x y := by kernel_rfl
theorem s19_ok (n : Nat) : ConOK Go.Proofs.Try.prog 19 (s19_c n) := func_ok (h67 n) hP Go.Proofs.Try.func19 (by kernel_rfl) (by kernel_rfl) (O := []) trivial (s19_eq n)
def e68 (n : Nat) : Env := ⟨gT, (19, s19_c n) :: (e67 n).C, gQ, (e67 n).I, (e67 n).M, (e67 n).S, (e67 n).D, []⟩
theorem h68 (n : Nat) : EnvOK Go.Proofs.Try.prog (e68 n) := env_add (h67 n) (s19_ok n)

def s103_l0 (n : Nat) (d : Int × Int × (List (List UInt8)) × Int × (List ((List UInt8) × (List Int) × (List (List UInt8)))) × (List UInt8) × (List Int) × (List (List UInt8)) × Unit) (again : (Int × Int × (List (List UInt8)) × Int × (List ((List UInt8) × (List Int) × (List (List UInt8)))) × (List UInt8) × (List Int) × (List (List UInt8)) × Unit) → Option (Int)) (ks : ((List (List UInt8)) × Int × (List ((List UInt8) × (List Int) × (List (List UInt8)))) × (List UInt8) × (List Int) × (List (List UInt8)) × Unit → Option (Int)) × (Int × Unit → Option (Int)) × Unit) : Option (Int) :=
  match d, ks with
  | (i, v_k, b, b_1, b_2, c, c_1, c_2, _), (k0, k1, _) =>
  bif (decide (v_k < i)) then
    (geti b_2 v_k).bind fun e =>
    bif ((e.1 : List UInt8) == c) then
      k1 ((5 : Int), ())
    else
      again (i, (IntKind.wrap .i64 (v_k + (1 : Int))), b, b_1, b_2, c, c_1, c_2, ())
  else
    k0 (b, b_1, b_2, c, c_1, c_2, ())

def s103_l1 (n : Nat) (d : Int × (List (List UInt8)) × Int × (List ((List UInt8) × (List Int) × (List (List UInt8)))) × (List UInt8) × (List Int) × (List (List UInt8)) × Unit) (again : (Int × (List (List UInt8)) × Int × (List ((List UInt8) × (List Int) × (List (List UInt8)))) × (List UInt8) × (List Int) × (List (List UInt8)) × Unit) → Option (Int)) (ks : ((List UInt8) × (List Int) × (List (List UInt8)) × Unit → Option (Int)) × (Int × Unit → Option (Int)) × Unit) : Option (Int) :=
  match d, ks with
  | (v_k, b, b_1, b_2, c, c_1, c_2, _), (k0, k1, _) =>
  bif (decide (v_k < ((List.length c_1 : Nat) : Int))) then
    (geti c_1 v_k).bind fun e =>
    (s19 n e (0 : Int) (IntKind.wrap .i64 (((List.length b_2 : Nat) : Int) - (1 : Int)))).bind fun x =>
    bif (!x) then
      k1 ((6 : Int), ())
    else
      again ((IntKind.wrap .i64 (v_k + (1 : Int))), b, b_1, b_2, c, c_1, c_2, ())
  else
    k0 (c, c_1, c_2, ())

def s103_l2 (n : Nat) (d : Int × (List UInt8) × (List Int) × (List (List UInt8)) × Unit) (again : (Int × (List UInt8) × (List Int) × (List (List UInt8)) × Unit) → Option (Int)) (ks : (Unit → Option (Int)) × (Int × Unit → Option (Int)) × Unit) : Option (Int) :=
  match d, ks with
  | (v_k, c, c_1, c_2, _), (k0, k1, _) =>
  bif (decide (v_k < ((List.length c_2 : Nat) : Int))) then
    (geti c_2 v_k).bind fun e =>
    (s101 n e).bind fun x =>
    bif (!x) then
      k1 ((4 : Int), ())
    else
      again ((IntKind.wrap .i64 (v_k + (1 : Int))), c, c_1, c_2, ())
  else
    k0 (())

/-- criadera/criaderaref07.classErr -/
def s103 (n : Nat) (b : (List (List UInt8)) × Int × (List ((List UInt8) × (List Int) × (List (List UInt8))))) (i : Int) : Option (Int) :=
  (geti b.2.2 i).bind fun e =>
  (s101 n e.1).bind fun x =>
  bif (!x) then
    some ((4 : Int))
  else
    loopG (s103_l0 n) n (i, (0 : Int), b.1, b.2.1, b.2.2, e.1, e.2.1, e.2.2, ())
      (fun (b_4, b_5, b_6, c_3, c_4, c_5, _) =>
        bif ((((List.length c_4 : Nat) : Int) != ((List.length b_4 : Nat) : Int)) || (((List.length c_5 : Nat) : Int) != ((List.length b_4 : Nat) : Int))) then
          some ((10 : Int))
        else
          loopG (s103_l1 n) n ((0 : Int), b_4, b_5, b_6, c_3, c_4, c_5, ())
            (fun (c_9, c_10, c_11, _) =>
              loopG (s103_l2 n) n ((0 : Int), c_9, c_10, c_11, ())
                (fun (_) =>
                  some ((0 : Int)),
                fun (t4, _) =>
                  some (t4), ()),
            fun (t4_1, _) =>
              some (t4_1), ()),
      fun (t4_2, _) =>
        some (t4_2), ())

def s103_t0 : Templ := ⟨80, [(.int .i64), (.int .i64), (.slice .str), (.int .i64), (.slice (.pair .str (.pair (.slice (.int .i64)) (.slice .str)))), .str, (.slice (.int .i64)), (.slice .str)], [(1, .v (.hole (.int .i64))), (2, .v (.bptr 80 0)), (5, .v (.bptr 81 0)), (6, .v (.hole (.int .i64)))], [(80, .box (.pair (.slice .str) (.pair (.int .i64) (.slice (.pair .str (.pair (.slice (.int .i64)) (.slice .str)))))) [.hole (.slice .str), .hole (.int .i64), .hole (.slice (.pair .str (.pair (.slice (.int .i64)) (.slice .str))))]), (81, .box (.pair .str (.pair (.slice (.int .i64)) (.slice .str))) [.hole .str, .hole (.slice (.int .i64)), .hole (.slice .str)])], []⟩
def s103_x0 : List (Way × Templ) := [(.exit 0, ⟨80, [(.slice .str), (.int .i64), (.slice (.pair .str (.pair (.slice (.int .i64)) (.slice .str)))), .str, (.slice (.int .i64)), (.slice .str)], [(2, .v (.bptr 80 0)), (5, .v (.bptr 81 0))], [(80, .box (.pair (.slice .str) (.pair (.int .i64) (.slice (.pair .str (.pair (.slice (.int .i64)) (.slice .str)))))) [.hole (.slice .str), .hole (.int .i64), .hole (.slice (.pair .str (.pair (.slice (.int .i64)) (.slice .str))))]), (81, .box (.pair .str (.pair (.slice (.int .i64)) (.slice .str))) [.hole .str, .hole (.slice (.int .i64)), .hole (.slice .str)])], []⟩), (.ret, ⟨80, [(.int .i64)], [(4, .v (.hole (.int .i64)))], [], []⟩)]
def s103_o0 (n : Nat) : Ev (denL [(.int .i64)]) := loopO n (e68 n) s103_t0 s103_x0 (s103_l0 n)
theorem s103_b0 (n : Nat) (d) (again) (ks) : codeR (R := (denL [(.int .i64)])) (e68 n) (Hdl.no (R := (denL [(.int .i64)]))) (inn (lp (bd Go.Proofs.Try.f103) 0)) [] (mk s103_t0 d) (turnR (e68 n) s103_t0 s103_x0 again ks) = s103_l0 n d again ks := by kernel_rfl
theorem s103_s0 (n : Nat) : Sound Go.Proofs.Try.prog (Hdl.no (R := (denL [(.int .i64)]))) false (lp (bd Go.Proofs.Try.f103) 0) (s103_o0 n) := loop_ok (h68 n) hP (by kernel_rfl) (O := []) trivial (s103_b0 n)
def s103_t1 : Templ := ⟨80, [(.int .i64), (.slice .str), (.int .i64), (.slice (.pair .str (.pair (.slice (.int .i64)) (.slice .str)))), .str, (.slice (.int .i64)), (.slice .str)], [(2, .v (.bptr 80 0)), (5, .v (.bptr 81 0)), (7, .v (.hole (.int .i64)))], [(80, .box (.pair (.slice .str) (.pair (.int .i64) (.slice (.pair .str (.pair (.slice (.int .i64)) (.slice .str)))))) [.hole (.slice .str), .hole (.int .i64), .hole (.slice (.pair .str (.pair (.slice (.int .i64)) (.slice .str))))]), (81, .box (.pair .str (.pair (.slice (.int .i64)) (.slice .str))) [.hole .str, .hole (.slice (.int .i64)), .hole (.slice .str)])], []⟩
def s103_x1 : List (Way × Templ) := [(.exit 2, ⟨80, [.str, (.slice (.int .i64)), (.slice .str)], [(5, .v (.bptr 80 0))], [(80, .box (.pair .str (.pair (.slice (.int .i64)) (.slice .str))) [.hole .str, .hole (.slice (.int .i64)), .hole (.slice .str)])], []⟩), (.ret, ⟨80, [(.int .i64)], [(4, .v (.hole (.int .i64)))], [], []⟩)]
def s103_o1 (n : Nat) : Ev (denL [(.int .i64)]) := loopO n (e68 n) s103_t1 s103_x1 (s103_l1 n)
theorem s103_b1 (n : Nat) (d) (again) (ks) : codeR (R := (denL [(.int .i64)])) (e68 n) (Hdl.no (R := (denL [(.int .i64)]))) (inn (lp (bd Go.Proofs.Try.f103) 1)) [] (mk s103_t1 d) (turnR (e68 n) s103_t1 s103_x1 again ks) = s103_l1 n d again ks := by kernel_rfl
theorem s103_s1 (n : Nat) : Sound Go.Proofs.Try.prog (Hdl.no (R := (denL [(.int .i64)]))) false (lp (bd Go.Proofs.Try.f103) 1) (s103_o1 n) := loop_ok (h68 n) hP (by kernel_rfl) (O := []) trivial (s103_b1 n)
def s103_t2 : Templ := ⟨80, [(.int .i64), .str, (.slice (.int .i64)), (.slice .str)], [(5, .v (.bptr 80 0)), (8, .v (.hole (.int .i64)))], [(80, .box (.pair .str (.pair (.slice (.int .i64)) (.slice .str))) [.hole .str, .hole (.slice (.int .i64)), .hole (.slice .str)])], []⟩
def s103_x2 : List (Way × Templ) := [(.exit 4, ⟨80, [], [], [], []⟩), (.ret, ⟨80, [(.int .i64)], [(4, .v (.hole (.int .i64)))], [], []⟩)]
def s103_o2 (n : Nat) : Ev (denL [(.int .i64)]) := loopO n (e68 n) s103_t2 s103_x2 (s103_l2 n)
theorem s103_b2 (n : Nat) (d) (again) (ks) : codeR (R := (denL [(.int .i64)])) (e68 n) (Hdl.no (R := (denL [(.int .i64)]))) (inn (lp (bd Go.Proofs.Try.f103) 2)) [] (mk s103_t2 d) (turnR (e68 n) s103_t2 s103_x2 again ks) = s103_l2 n d again ks := by kernel_rfl
theorem s103_s2 (n : Nat) : Sound Go.Proofs.Try.prog (Hdl.no (R := (denL [(.int .i64)]))) false (lp (bd Go.Proofs.Try.f103) 2) (s103_o2 n) := loop_ok (h68 n) hP (by kernel_rfl) (O := []) trivial (s103_b2 n)
def s103_c (n : Nat) : Con := ⟨[(.pair (.slice .str) (.pair (.int .i64) (.slice (.pair .str (.pair (.slice (.int .i64)) (.slice .str)))))), (.int .i64)], [], [(.int .i64)], fun x y => s103 n x.1 x.2, false⟩
theorem s103_eq (n : Nat) (x : denL [(.pair (.slice .str) (.pair (.int .i64) (.slice (.pair .str (.pair (.slice (.int .i64)) (.slice .str)))))), (.int .i64)]) (y : denL []) : funR (e68 n) Go.Proofs.Try.f103 [(.pair (.slice .str) (.pair (.int .i64) (.slice (.pair .str (.pair (.slice (.int .i64)) (.slice .str)))))), (.int .i64)] [] [(.int .i64)] false [s103_o0 n, s103_o1 n, s103_o2 n] x y = (s103_c n).fn x y := by kernel_rfl
theorem s103_ok (n : Nat) : ConOK Go.Proofs.Try.prog 103 (s103_c n) := func_ok (h68 n) hP Go.Proofs.Try.func103 (by kernel_rfl) (by kernel_rfl) (O := [s103_o0 n, s103_o1 n, s103_o2 n]) ⟨s103_s0 n, s103_s1 n, s103_s2 n, trivial⟩ (s103_eq n)
def e69 (n : Nat) : Env := ⟨gT, (103, s103_c n) :: (e68 n).C, gQ, (e68 n).I, (e68 n).M, (e68 n).S, (e68 n).D, []⟩
theorem h69 (n : Nat) : EnvOK Go.Proofs.Try.prog (e69 n) := env_add (h68 n) (s103_ok n)

def s39_l0 (n : Nat) (d : Int × (List (List UInt8)) × Int × (List ((List UInt8) × (List Int) × (List (List UInt8)))) × Unit) (again : (Int × (List (List UInt8)) × Int × (List ((List UInt8) × (List Int) × (List (List UInt8)))) × Unit) → Option (Int × Int)) (ks : ((List (List UInt8)) × Int × (List ((List UInt8) × (List Int) × (List (List UInt8)))) × Unit → Option (Int × Int)) × (Int × Int × Unit → Option (Int × Int)) × Unit) : Option (Int × Int) :=
  match d, ks with
  | (i, b, b_1, b_2, _), (k0, k1, _) =>
  bif (decide (i < ((List.length b : Nat) : Int))) then
    (geti b i).bind fun e =>
    (s101 n e).bind fun x =>
    bif (!x) then
      k1 ((0 : Int), (4 : Int), ())
    else
      (cut b 0 i).bind fun x_1 =>
      (geti b i).bind fun e_1 =>
      (s102 n x_1 e_1).bind fun x_2 =>
      bif x_2 then
        k1 ((0 : Int), (5 : Int), ())
      else
        again ((IntKind.wrap .i64 (i + (1 : Int))), b, b_1, b_2, ())
  else
    k0 (b, b_1, b_2, ())

def s39_l1 (n : Nat) (d : Int × (List (List UInt8)) × Int × (List ((List UInt8) × (List Int) × (List (List UInt8)))) × Unit) (again : (Int × (List (List UInt8)) × Int × (List ((List UInt8) × (List Int) × (List (List UInt8)))) × Unit) → Option (Int × Int)) (ks : (Unit → Option (Int × Int)) × (Int × Int × Unit → Option (Int × Int)) × Unit) : Option (Int × Int) :=
  match d, ks with
  | (i, b, b_1, b_2, _), (k0, k1, _) =>
  bif (decide (i < ((List.length b_2 : Nat) : Int))) then
    (s103 n (b, (b_1, b_2)) i).bind fun x =>
    bif (x != (0 : Int)) then
      k1 (i, x, ())
    else
      again ((IntKind.wrap .i64 (i + (1 : Int))), b, b_1, b_2, ())
  else
    k0 (())

/-- criadera/criaderaref07.CheckBook -/
def s39 (n : Nat) (b : (List (List UInt8)) × Int × (List ((List UInt8) × (List Int) × (List (List UInt8))))) : Option (Int × Int) :=
  bif ((((List.length b.1 : Nat) : Int) == (0 : Int)) || (((List.length b.2.2 : Nat) : Int) == (0 : Int))) then
    some ((0 : Int), (10 : Int))
  else
    bif ((decide (((List.length b.1 : Nat) : Int) > (6 : Int))) || (decide (((List.length b.2.2 : Nat) : Int) > (8 : Int)))) then
      some ((0 : Int), (8 : Int))
    else
      loopG (s39_l0 n) n ((0 : Int), b.1, b.2.1, b.2.2, ())
        (fun (b_4, b_5, b_6, _) =>
          (s19 n b_5 (0 : Int) (IntKind.wrap .i64 (((List.length b_6 : Nat) : Int) - (1 : Int)))).bind fun x_3 =>
          bif (!x_3) then
            some ((0 : Int), (6 : Int))
          else
            loopG (s39_l1 n) n ((0 : Int), b_4, b_5, b_6, ())
              (fun (_) =>
                some ((0 : Int), (0 : Int)),
              fun (t2, t3, _) =>
                some (t2, t3), ()),
        fun (t2_1, t3_1, _) =>
          some (t2_1, t3_1), ())

def s39_t0 : Templ := ⟨73, [(.int .i64), (.slice .str), (.int .i64), (.slice (.pair .str (.pair (.slice (.int .i64)) (.slice .str))))], [(1, .v (.bptr 73 0)), (4, .v (.hole (.int .i64)))], [(73, .box (.pair (.slice .str) (.pair (.int .i64) (.slice (.pair .str (.pair (.slice (.int .i64)) (.slice .str)))))) [.hole (.slice .str), .hole (.int .i64), .hole (.slice (.pair .str (.pair (.slice (.int .i64)) (.slice .str))))])], []⟩
def s39_x0 : List (Way × Templ) := [(.exit 0, ⟨73, [(.slice .str), (.int .i64), (.slice (.pair .str (.pair (.slice (.int .i64)) (.slice .str))))], [(1, .v (.bptr 73 0))], [(73, .box (.pair (.slice .str) (.pair (.int .i64) (.slice (.pair .str (.pair (.slice (.int .i64)) (.slice .str)))))) [.hole (.slice .str), .hole (.int .i64), .hole (.slice (.pair .str (.pair (.slice (.int .i64)) (.slice .str))))])], []⟩), (.ret, ⟨73, [(.int .i64), (.int .i64)], [(2, .v (.hole (.int .i64))), (3, .v (.hole (.int .i64)))], [], []⟩)]
def s39_o0 (n : Nat) : Ev (denL [(.int .i64), (.int .i64)]) := loopO n (e69 n) s39_t0 s39_x0 (s39_l0 n)
theorem s39_b0 (n : Nat) (d) (again) (ks) : codeR (R := (denL [(.int .i64), (.int .i64)])) (e69 n) (Hdl.no (R := (denL [(.int .i64), (.int .i64)]))) (inn (lp (bd Go.Proofs.Try.f39) 0)) [] (mk s39_t0 d) (turnR (e69 n) s39_t0 s39_x0 again ks) = s39_l0 n d again ks := by kernel_rfl
theorem s39_s0 (n : Nat) : Sound Go.Proofs.Try.prog (Hdl.no (R := (denL [(.int .i64), (.int .i64)]))) false (lp (bd Go.Proofs.Try.f39) 0) (s39_o0 n) := loop_ok (h69 n) hP (by kernel_rfl) (O := []) trivial (s39_b0 n)
def s39_t1 : Templ := ⟨73, [(.int .i64), (.slice .str), (.int .i64), (.slice (.pair .str (.pair (.slice (.int .i64)) (.slice .str))))], [(1, .v (.bptr 73 0)), (5, .v (.hole (.int .i64)))], [(73, .box (.pair (.slice .str) (.pair (.int .i64) (.slice (.pair .str (.pair (.slice (.int .i64)) (.slice .str)))))) [.hole (.slice .str), .hole (.int .i64), .hole (.slice (.pair .str (.pair (.slice (.int .i64)) (.slice .str))))])], []⟩
def s39_x1 : List (Way × Templ) := [(.exit 2, ⟨73, [], [], [], []⟩), (.ret, ⟨73, [(.int .i64), (.int .i64)], [(2, .v (.hole (.int .i64))), (3, .v (.hole (.int .i64)))], [], []⟩)]
def s39_o1 (n : Nat) : Ev (denL [(.int .i64), (.int .i64)]) := loopO n (e69 n) s39_t1 s39_x1 (s39_l1 n)
theorem s39_b1 (n : Nat) (d) (again) (ks) : codeR (R := (denL [(.int .i64), (.int .i64)])) (e69 n) (Hdl.no (R := (denL [(.int .i64), (.int .i64)]))) (inn (lp (bd Go.Proofs.Try.f39) 1)) [] (mk s39_t1 d) (turnR (e69 n) s39_t1 s39_x1 again ks) = s39_l1 n d again ks := by kernel_rfl
theorem s39_s1 (n : Nat) : Sound Go.Proofs.Try.prog (Hdl.no (R := (denL [(.int .i64), (.int .i64)]))) false (lp (bd Go.Proofs.Try.f39) 1) (s39_o1 n) := loop_ok (h69 n) hP (by kernel_rfl) (O := []) trivial (s39_b1 n)
def s39_c (n : Nat) : Con := ⟨[(.pair (.slice .str) (.pair (.int .i64) (.slice (.pair .str (.pair (.slice (.int .i64)) (.slice .str))))))], [], [(.int .i64), (.int .i64)], fun x y => s39 n x, false⟩
theorem s39_eq (n : Nat) (x : denL [(.pair (.slice .str) (.pair (.int .i64) (.slice (.pair .str (.pair (.slice (.int .i64)) (.slice .str))))))]) (y : denL []) : funR (e69 n) Go.Proofs.Try.f39 [(.pair (.slice .str) (.pair (.int .i64) (.slice (.pair .str (.pair (.slice (.int .i64)) (.slice .str))))))] [] [(.int .i64), (.int .i64)] false [s39_o0 n, s39_o1 n] x y = (s39_c n).fn x y := by kernel_rfl
theorem s39_ok (n : Nat) : ConOK Go.Proofs.Try.prog 39 (s39_c n) := func_ok (h69 n) hP Go.Proofs.Try.func39 (by kernel_rfl) (by kernel_rfl) (O := [s39_o0 n, s39_o1 n]) ⟨s39_s0 n, s39_s1 n, trivial⟩ (s39_eq n)
def e70 (n : Nat) : Env := ⟨gT, (39, s39_c n) :: (e69 n).C, gQ, (e69 n).I, (e69 n).M, (e69 n).S, (e69 n).D, []⟩
theorem h70 (n : Nat) : EnvOK Go.Proofs.Try.prog (e70 n) := env_add (h69 n) (s39_ok n)

/-- criadera/criaderaref07.BookErr -/
def s17 (n : Nat) (b : (List (List UInt8)) × Int × (List ((List UInt8) × (List Int) × (List (List UInt8))))) : Option (Int) :=
  (s39 n (b.1, (b.2.1, b.2.2))).bind fun x =>
  some (x.2)

def s17_c (n : Nat) : Con := ⟨[(.pair (.slice .str) (.pair (.int .i64) (.slice (.pair .str (.pair (.slice (.int .i64)) (.slice .str))))))], [], [(.int .i64)], fun x y => s17 n x, false⟩
theorem s17_eq (n : Nat) (x : denL [(.pair (.slice .str) (.pair (.int .i64) (.slice (.pair .str (.pair (.slice (.int .i64)) (.slice .str))))))]) (y : denL []) : funR (e70 n) Go.Proofs.Try.f17 [(.pair (.slice .str) (.pair (.int .i64) (.slice (.pair .str (.pair (.slice (.int .i64)) (.slice .str))))))] [] [(.int .i64)] false [] x y = (s17_c n).fn x y := by kernel_rfl
theorem s17_ok (n : Nat) : ConOK Go.Proofs.Try.prog 17 (s17_c n) := func_ok (h70 n) hP Go.Proofs.Try.func17 (by kernel_rfl) (by kernel_rfl) (O := []) trivial (s17_eq n)
def e71 (n : Nat) : Env := ⟨gT, (17, s17_c n) :: (e70 n).C, gQ, (e70 n).I, (e70 n).M, (e70 n).S, (e70 n).D, []⟩
theorem h71 (n : Nat) : EnvOK Go.Proofs.Try.prog (e71 n) := env_add (h70 n) (s17_ok n)

def s45_l0 (n : Nat) (d : (List (List UInt8)) × (List (List UInt8)) × Int × Unit) (again : ((List (List UInt8)) × (List (List UInt8)) × Int × Unit) → Option (Bool)) (ks : (Unit → Option (Bool)) × (Bool × Unit → Option (Bool)) × Unit) : Option (Bool) :=
  match d, ks with
  | (a, b, i, _), (k0, k1, _) =>
  bif (decide (i < ((List.length a : Nat) : Int))) then
    (geti a i).bind fun e =>
    (geti b i).bind fun e_1 =>
    bif ((e : List UInt8) != e_1) then
      k1 (false, ())
    else
      again (a, b, (IntKind.wrap .i64 (i + (1 : Int))), ())
  else
    k0 (())

/-- criadera/criaderabase.Texts -/
def s45 (n : Nat) (a : List (List UInt8)) (b : List (List UInt8)) : Option (Bool) :=
  bif (((List.length a : Nat) : Int) != ((List.length b : Nat) : Int)) then
    some (false)
  else
    loopG (s45_l0 n) n (a, b, (0 : Int), ())
      (fun (_) =>
        some (true),
      fun (t4, _) =>
        some (t4), ())

def s45_t0 : Templ := ⟨26, [(.slice .str), (.slice .str), (.int .i64)], [(0, .v (.hole (.slice .str))), (1, .v (.hole (.slice .str))), (5, .v (.hole (.int .i64)))], [], []⟩
def s45_x0 : List (Way × Templ) := [(.exit 0, ⟨26, [], [], [], []⟩), (.ret, ⟨26, [.bool], [(4, .v (.hole .bool))], [], []⟩)]
def s45_o0 (n : Nat) : Ev (denL [.bool]) := loopO n (e71 n) s45_t0 s45_x0 (s45_l0 n)
theorem s45_b0 (n : Nat) (d) (again) (ks) : codeR (R := (denL [.bool])) (e71 n) (Hdl.no (R := (denL [.bool]))) (inn (lp (bd Go.Proofs.Try.f45) 0)) [] (mk s45_t0 d) (turnR (e71 n) s45_t0 s45_x0 again ks) = s45_l0 n d again ks := by kernel_rfl
theorem s45_s0 (n : Nat) : Sound Go.Proofs.Try.prog (Hdl.no (R := (denL [.bool]))) false (lp (bd Go.Proofs.Try.f45) 0) (s45_o0 n) := loop_ok (h71 n) hP (by kernel_rfl) (O := []) trivial (s45_b0 n)
def s45_c (n : Nat) : Con := ⟨[(.slice .str), (.slice .str)], [], [.bool], fun x y => s45 n x.1 x.2, false⟩
theorem s45_eq (n : Nat) (x : denL [(.slice .str), (.slice .str)]) (y : denL []) : funR (e71 n) Go.Proofs.Try.f45 [(.slice .str), (.slice .str)] [] [.bool] false [s45_o0 n] x y = (s45_c n).fn x y := by kernel_rfl
theorem s45_ok (n : Nat) : ConOK Go.Proofs.Try.prog 45 (s45_c n) := func_ok (h71 n) hP Go.Proofs.Try.func45 (by kernel_rfl) (by kernel_rfl) (O := [s45_o0 n]) ⟨s45_s0 n, trivial⟩ (s45_eq n)
def e72 (n : Nat) : Env := ⟨gT, (45, s45_c n) :: (e71 n).C, gQ, (e71 n).I, (e71 n).M, (e71 n).S, (e71 n).D, []⟩
theorem h72 (n : Nat) : EnvOK Go.Proofs.Try.prog (e72 n) := env_add (h71 n) (s45_ok n)

end Go.Abs
