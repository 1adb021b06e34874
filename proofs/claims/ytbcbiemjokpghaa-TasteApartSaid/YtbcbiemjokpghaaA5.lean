/- Parts of one proof, joined: Further functions of the program as plain Lean functions, and that each call does what its function says. Printed by a program of ours. No condition but those that each theorem names. Further functions of the program as plain Lean functions, and that each call does what its function says. Printed by a program of ours. No condition but those that each theorem names. What the small functions compute. Rule books: which are right; walks; classes. Rule books, on: the reference's test, walks, copies. -/
import Derived.Test.YtbcbiemjokpghaaA3
import Derived.Test.YtbcbiemjokpghaaA4
set_option linter.unusedVariables false
namespace Go.Abs
open Go

def s5_l0 (n : Nat) (d : Int × Int × Int × Int × Int × (List Int) × (List (List Int)) × Int × Int × (List Int) × Unit) (again : (Int × Int × Int × Int × Int × (List Int) × (List (List Int)) × Int × Int × (List Int) × Unit) → Option (Bool)) (ks : (Int × Int × Int × Int × (List Int) × (List (List Int)) × Int × Int × (List Int) × Unit → Option (Bool)) × Unit) : Option (Bool) :=
  match d, ks with
  | (cask, glasses, i, p, p_1, p_2, p_3, back, back_1, back_2, _), (k0, _) =>
  bif (decide (i ≥ (0 : Int))) then
    (geti p_2 i).bind fun e =>
    (chk (List.length back_2 + List.length ([e] : List Int))).bind fun u =>
    (geti p_2 i).bind fun e_1 =>
    bif (e_1 == cask) then
      again (cask, (IntKind.wrap .i64 (glasses + (1 : Int))), (IntKind.wrap .i64 (i - (1 : Int))), p, p_1, p_2, p_3, back, back_1, (back_2 ++ ([e] : List Int)), ())
    else
      again (cask, glasses, (IntKind.wrap .i64 (i - (1 : Int))), p, p_1, p_2, p_3, back, back_1, (back_2 ++ ([e] : List Int)), ())
  else
    k0 (cask, glasses, p, p_1, p_2, p_3, back, back_1, back_2, ())

def s5_l1_0 (n : Nat) (d : Int × Int × Int × Int × Int × Int × (List Int) × (List (List Int)) × Int × Int × (List Int) × (List (List Int)) × (List Int) × (List Int) × (List Int) × Unit) (again : (Int × Int × Int × Int × Int × Int × (List Int) × (List (List Int)) × Int × Int × (List Int) × (List (List Int)) × (List Int) × (List Int) × (List Int) × Unit) → Option (Bool)) (ks : (Int × Int × Int × Int × Int × (List Int) × (List (List Int)) × Int × Int × (List Int) × (List (List Int)) × (List Int) × (List Int) × (List Int) × Unit → Option (Bool)) × Unit) : Option (Bool) :=
  match d, ks with
  | (cask, glasses, i, v_k, p, p_1, p_2, p_3, back, back_1, back_2, back_3, all, sums, turned, _), (k0, _) =>
  bif (decide (v_k ≥ (0 : Int))) then
    (geti p_3 i).bind fun e =>
    (geti e v_k).bind fun e_1 =>
    (chk (List.length turned + List.length ([e_1] : List Int))).bind fun u =>
    again (cask, glasses, i, (IntKind.wrap .i64 (v_k - (1 : Int))), p, p_1, p_2, p_3, back, back_1, back_2, back_3, all, sums, (turned ++ ([e_1] : List Int)), ())
  else
    k0 (cask, glasses, i, p, p_1, p_2, p_3, back, back_1, back_2, back_3, all, sums, turned, ())

def s5_l1_1 (n : Nat) (d : Int × Int × Int × (List Int) × Int × Int × Int × (List Int) × (List (List Int)) × Int × Int × (List Int) × (List (List Int)) × (List Int) × (List Int) × Unit) (again : (Int × Int × Int × (List Int) × Int × Int × Int × (List Int) × (List (List Int)) × Int × Int × (List Int) × (List (List Int)) × (List Int) × (List Int) × Unit) → Option (Bool)) (ks : (Int × Int × Int × Int × Int × (List Int) × (List (List Int)) × Int × Int × (List Int) × (List (List Int)) × (List Int) × (List Int) × Unit → Option (Bool)) × Unit) : Option (Bool) :=
  match d, ks with
  | (cask, glasses, i, l, m, p, p_1, p_2, p_3, back, back_1, back_2, back_3, all, sums, _), (k0, _) =>
  bif (decide (m < p_1)) then
    (geti sums m).bind fun e =>
    (geti sums m).bind fun x =>
    (geti l m).bind fun e_1 =>
    (geti sums m).bind fun e_2 =>
    (seti sums m (IntKind.wrap .i64 (x + e_1))).bind fun l_1 =>
    again (cask, glasses, i, l, (IntKind.wrap .i64 (m + (1 : Int))), p, p_1, p_2, p_3, back, back_1, back_2, back_3, all, l_1, ())
  else
    k0 (cask, glasses, i, p, p_1, p_2, p_3, back, back_1, back_2, back_3, all, sums, ())

def s5_l1 (n : Nat) (d : Int × Int × Int × Int × Int × (List Int) × (List (List Int)) × Int × Int × (List Int) × (List (List Int)) × (List Int) × (List Int) × Unit) (again : (Int × Int × Int × Int × Int × (List Int) × (List (List Int)) × Int × Int × (List Int) × (List (List Int)) × (List Int) × (List Int) × Unit) → Option (Bool)) (ks : (Int × Int × Int × Int × (List Int) × (List (List Int)) × Int × Int × (List Int) × (List (List Int)) × (List Int) × (List Int) × Unit → Option (Bool)) × (Bool × Unit → Option (Bool)) × Unit) : Option (Bool) :=
  match d, ks with
  | (cask, glasses, i, p, p_1, p_2, p_3, back, back_1, back_2, back_3, all, sums, _), (k0, k1, _) =>
  bif (decide (i < ((List.length p_3 : Nat) : Int))) then
    loopG (s5_l1_0 n) n (cask, glasses, i, (IntKind.wrap .i64 (((List.length p_2 : Nat) : Int) - (1 : Int))), p, p_1, p_2, p_3, back, back_1, back_2, back_3, all, sums, ([] : List Int), ())
      (fun (cask_2, glasses_2, i_2, p_8, p_9, p_10, p_11, back_8, back_9, back_10, back_11, all_2, sums_2, turned_1, _) =>
        (chk (List.length back_11 + List.length ([turned_1] : List (List Int)))).bind fun u_1 =>
        (chk (List.length all_2 + List.length ([i_2] : List Int))).bind fun u_2 =>
        (s26 n (p_8, (p_9, (p_10, p_11)))).bind fun x =>
        (s25 n (x.1, (x.2.1, (x.2.2.1, x.2.2.2))) cask_2 ([i_2] : List Int)).bind fun x_1 =>
        bif ((x_1.2 != (0 : Int)) || (((List.length x_1.1 : Nat) : Int) != p_9)) then
          k1 (false, ())
        else
          loopG (s5_l1_1 n) n (cask_2, glasses_2, i_2, x_1.1, (0 : Int), p_8, p_9, p_10, p_11, back_8, back_9, back_10, (back_11 ++ ([turned_1] : List (List Int))), (all_2 ++ ([i_2] : List Int)), sums_2, ())
            (fun (cask_4, glasses_4, i_4, p_16, p_17, p_18, p_19, back_16, back_17, back_18, back_19, all_4, sums_4, _) =>
              again (cask_4, glasses_4, (IntKind.wrap .i64 (i_4 + (1 : Int))), p_16, p_17, p_18, p_19, back_16, back_17, back_18, back_19, all_4, sums_4, ()), ()), ())
  else
    k0 (cask, glasses, p, p_1, p_2, p_3, back, back_1, back_2, back_3, all, sums, ())

def s5_l2 (n : Nat) (d : Int × (List Int) × Int × Int × Int × Int × (List Int) × (List (List Int)) × Int × Int × (List Int) × (List (List Int)) × Unit) (again : (Int × (List Int) × Int × Int × Int × Int × (List Int) × (List (List Int)) × Int × Int × (List Int) × (List (List Int)) × Unit) → Option (Bool)) (ks : (Int × Int × Int × Int × (List Int) × (List (List Int)) × Int × Int × (List Int) × (List (List Int)) × Unit → Option (Bool)) × Unit) : Option (Bool) :=
  match d, ks with
  | (glasses, l, total, m, p, p_1, p_2, p_3, back, back_1, back_2, back_3, _), (k0, _) =>
  bif (decide (m < p_1)) then
    (geti l m).bind fun e =>
    again (glasses, l, (IntKind.wrap .i64 (total + e)), (IntKind.wrap .i64 (m + (1 : Int))), p, p_1, p_2, p_3, back, back_1, back_2, back_3, ())
  else
    k0 (glasses, total, p, p_1, p_2, p_3, back, back_1, back_2, back_3, ())

/-- criadera/criaderalaw07.TasteCounts -/
def s5 (n : Nat) (p : Int × Int × (List Int) × (List (List Int))) (cask : Int) : Option (Bool) :=
  (s15 n).bind fun x =>
  bif (!x) then
    some (false)
  else
    (s24 n (p.1, (p.2.1, (p.2.2.1, p.2.2.2)))).bind fun x_1 =>
    (part (!(!x_1)) (s29 n (p.1, (p.2.1, (p.2.2.1, p.2.2.2)))) (0 : Int)).bind fun x_2 =>
    (part (!((!x_1) || (x_2 != (0 : Int)))) (s19 n cask (0 : Int) (IntKind.wrap .i64 (p.1 - (1 : Int)))) false).bind fun x_3 =>
    bif (((!x_1) || (x_2 != (0 : Int))) || (!x_3)) then
      some (true)
    else
      loopG (s5_l0 n) n (cask, (0 : Int), (IntKind.wrap .i64 (((List.length p.2.2.1 : Nat) : Int) - (1 : Int))), p.1, p.2.1, p.2.2.1, p.2.2.2, p.1, p.2.1, ([] : List Int), ())
        (fun (cask_2, glasses_1, p_5, p_6, p_7, p_8, back_3, back_4, back_5, _) =>
          (chki p_6).bind fun u_1 =>
          loopG (s5_l1 n) n (cask_2, glasses_1, (0 : Int), p_5, p_6, p_7, p_8, back_3, back_4, back_5, ([] : List (List Int)), ([] : List Int), (List.replicate (Int.toNat p_6) (0 : Int)), ())
            (fun (cask_8, glasses_7, p_29, p_30, p_31, p_32, back_26, back_27, back_28, back_29, all_5, sums_5, _) =>
              (s26 n (p_29, (p_30, (p_31, p_32)))).bind fun x_7 =>
              (s27 n all_5).bind fun x_8 =>
              (s25 n (x_7.1, (x_7.2.1, (x_7.2.2.1, x_7.2.2.2))) cask_8 x_8).bind fun x_9 =>
              (s26 n (back_26, (back_27, (back_28, back_29)))).bind fun x_10 =>
              (s27 n all_5).bind fun x_11 =>
              (s25 n (x_10.1, (x_10.2.1, (x_10.2.2.1, x_10.2.2.2))) cask_8 x_11).bind fun x_12 =>
              (part (!(x_9.2 != (0 : Int))) (s32 n x_9.1 sums_5) false).bind fun x_13 =>
              (part (!(((x_9.2 != (0 : Int)) || (!x_13)) || (x_12.2 != (0 : Int)))) (s32 n x_9.1 x_12.1) false).bind fun x_14 =>
              bif ((((x_9.2 != (0 : Int)) || (!x_13)) || (x_12.2 != (0 : Int))) || (!x_14)) then
                some (false)
              else
                loopG (s5_l2 n) n (glasses_7, x_9.1, (0 : Int), (0 : Int), p_29, p_30, p_31, p_32, back_26, back_27, back_28, back_29, ())
                  (fun (glasses_9, total_1, p_37, p_38, p_39, p_40, back_34, back_35, back_36, back_37, _) =>
                    (s26 n (p_37, (p_38, (p_39, p_40)))).bind fun x_15 =>
                    (s35 n (x_15.1, (x_15.2.1, (x_15.2.2.1, x_15.2.2.2))) (0 : Int)).bind fun x_16 =>
                    (s26 n (back_34, (back_35, (back_36, back_37)))).bind fun x_17 =>
                    (s35 n (x_17.1, (x_17.2.1, (x_17.2.2.1, x_17.2.2.2))) (0 : Int)).bind fun x_18 =>
                    some (((((total_1 == (IntKind.wrap .i64 (glasses_9 * ((List.length p_40 : Nat) : Int)))) && (x_16.2 == (0 : Int))) && (x_18.2 == (0 : Int))) && ((x_16.1.1 == x_18.1.1) && (x_16.1.2 == x_18.1.2)))), ()),
            fun (t4, _) =>
              some (t4), ()), ())

def s5_t1_0 : Templ := ⟨231, [(.int .i64), (.int .i64), (.int .i64), (.int .i64), (.int .i64), (.int .i64), (.slice (.int .i64)), (.slice (.slice (.int .i64))), (.int .i64), (.int .i64), (.slice (.int .i64)), (.slice (.slice (.int .i64))), (.slice (.int .i64)), (.slice (.int .i64)), (.slice (.int .i64))], [(1, .v (.hole (.int .i64))), (2, .v (.bptr 231 0)), (5, .v (.bptr 232 0)), (6, .v (.hole (.int .i64))), (8, .v (.hand 235)), (9, .v (.hand 236)), (10, .v (.hole (.int .i64))), (11, .v (.hand 237)), (12, .v (.hole (.int .i64)))], [(231, .box (.pair (.int .i64) (.pair (.int .i64) (.pair (.slice (.int .i64)) (.slice (.slice (.int .i64)))))) [.hole (.int .i64), .hole (.int .i64), .hole (.slice (.int .i64)), .hole (.slice (.slice (.int .i64)))]), (232, .box (.pair (.int .i64) (.pair (.int .i64) (.pair (.slice (.int .i64)) (.slice (.slice (.int .i64)))))) [.hole (.int .i64), .hole (.int .i64), .hand 233, .hand 234]), (233, .buf (.int .i64)), (234, .buf (.slice (.int .i64))), (235, .buf (.int .i64)), (236, .buf (.int .i64)), (237, .buf (.int .i64))], []⟩
def s5_x1_0 : List (Way × Templ) := [(.exit 4, ⟨231, [(.int .i64), (.int .i64), (.int .i64), (.int .i64), (.int .i64), (.slice (.int .i64)), (.slice (.slice (.int .i64))), (.int .i64), (.int .i64), (.slice (.int .i64)), (.slice (.slice (.int .i64))), (.slice (.int .i64)), (.slice (.int .i64)), (.slice (.int .i64))], [(1, .v (.hole (.int .i64))), (2, .v (.bptr 231 0)), (5, .v (.bptr 232 0)), (6, .v (.hole (.int .i64))), (8, .v (.hand 235)), (9, .v (.hand 236)), (10, .v (.hole (.int .i64))), (11, .v (.hand 237))], [(231, .box (.pair (.int .i64) (.pair (.int .i64) (.pair (.slice (.int .i64)) (.slice (.slice (.int .i64)))))) [.hole (.int .i64), .hole (.int .i64), .hole (.slice (.int .i64)), .hole (.slice (.slice (.int .i64)))]), (232, .box (.pair (.int .i64) (.pair (.int .i64) (.pair (.slice (.int .i64)) (.slice (.slice (.int .i64)))))) [.hole (.int .i64), .hole (.int .i64), .hand 233, .hand 234]), (233, .buf (.int .i64)), (234, .buf (.slice (.int .i64))), (235, .buf (.int .i64)), (236, .buf (.int .i64)), (237, .buf (.int .i64))], []⟩)]
def s5_o1_0 (n : Nat) : Ev (denL [.bool]) := loopO n (e74 n) s5_t1_0 s5_x1_0 (s5_l1_0 n)
theorem s5_b1_0 (n : Nat) (d) (again) (ks) : codeR (R := (denL [.bool])) (e74 n) (Hdl.no (R := (denL [.bool]))) (inn (lp (inn (lp (bd Go.Proofs.Try.f5) 1)) 0)) [] (mk s5_t1_0 d) (turnR (e74 n) s5_t1_0 s5_x1_0 again ks) = s5_l1_0 n d again ks := by kernel_rfl
theorem s5_s1_0 (n : Nat) : Sound Go.Proofs.Try.prog (Hdl.no (R := (denL [.bool]))) false (lp (inn (lp (bd Go.Proofs.Try.f5) 1)) 0) (s5_o1_0 n) := loop_ok (h74 n) hP (by kernel_rfl) (O := []) trivial (s5_b1_0 n)
def s5_t1_1 : Templ := ⟨231, [(.int .i64), (.int .i64), (.int .i64), (.slice (.int .i64)), (.int .i64), (.int .i64), (.int .i64), (.slice (.int .i64)), (.slice (.slice (.int .i64))), (.int .i64), (.int .i64), (.slice (.int .i64)), (.slice (.slice (.int .i64))), (.slice (.int .i64)), (.slice (.int .i64))], [(1, .v (.hole (.int .i64))), (2, .v (.bptr 231 0)), (5, .v (.bptr 232 0)), (6, .v (.hole (.int .i64))), (8, .v (.hand 235)), (9, .v (.hand 236)), (10, .v (.hole (.int .i64))), (13, .v (.hole (.slice (.int .i64)))), (15, .v (.hole (.int .i64)))], [(231, .box (.pair (.int .i64) (.pair (.int .i64) (.pair (.slice (.int .i64)) (.slice (.slice (.int .i64)))))) [.hole (.int .i64), .hole (.int .i64), .hole (.slice (.int .i64)), .hole (.slice (.slice (.int .i64)))]), (232, .box (.pair (.int .i64) (.pair (.int .i64) (.pair (.slice (.int .i64)) (.slice (.slice (.int .i64)))))) [.hole (.int .i64), .hole (.int .i64), .hand 233, .hand 234]), (233, .buf (.int .i64)), (234, .buf (.slice (.int .i64))), (235, .buf (.int .i64)), (236, .buf (.int .i64))], []⟩
def s5_x1_1 : List (Way × Templ) := [(.exit 6, ⟨231, [(.int .i64), (.int .i64), (.int .i64), (.int .i64), (.int .i64), (.slice (.int .i64)), (.slice (.slice (.int .i64))), (.int .i64), (.int .i64), (.slice (.int .i64)), (.slice (.slice (.int .i64))), (.slice (.int .i64)), (.slice (.int .i64))], [(1, .v (.hole (.int .i64))), (2, .v (.bptr 231 0)), (5, .v (.bptr 232 0)), (6, .v (.hole (.int .i64))), (8, .v (.hand 235)), (9, .v (.hand 236)), (10, .v (.hole (.int .i64)))], [(231, .box (.pair (.int .i64) (.pair (.int .i64) (.pair (.slice (.int .i64)) (.slice (.slice (.int .i64)))))) [.hole (.int .i64), .hole (.int .i64), .hole (.slice (.int .i64)), .hole (.slice (.slice (.int .i64)))]), (232, .box (.pair (.int .i64) (.pair (.int .i64) (.pair (.slice (.int .i64)) (.slice (.slice (.int .i64)))))) [.hole (.int .i64), .hole (.int .i64), .hand 233, .hand 234]), (233, .buf (.int .i64)), (234, .buf (.slice (.int .i64))), (235, .buf (.int .i64)), (236, .buf (.int .i64))], []⟩)]
def s5_o1_1 (n : Nat) : Ev (denL [.bool]) := loopO n (e74 n) s5_t1_1 s5_x1_1 (s5_l1_1 n)
theorem s5_b1_1 (n : Nat) (d) (again) (ks) : codeR (R := (denL [.bool])) (e74 n) (Hdl.no (R := (denL [.bool]))) (inn (lp (inn (lp (bd Go.Proofs.Try.f5) 1)) 1)) [] (mk s5_t1_1 d) (turnR (e74 n) s5_t1_1 s5_x1_1 again ks) = s5_l1_1 n d again ks := by kernel_rfl
theorem s5_s1_1 (n : Nat) : Sound Go.Proofs.Try.prog (Hdl.no (R := (denL [.bool]))) false (lp (inn (lp (bd Go.Proofs.Try.f5) 1)) 1) (s5_o1_1 n) := loop_ok (h74 n) hP (by kernel_rfl) (O := []) trivial (s5_b1_1 n)
def s5_t0 : Templ := ⟨231, [(.int .i64), (.int .i64), (.int .i64), (.int .i64), (.int .i64), (.slice (.int .i64)), (.slice (.slice (.int .i64))), (.int .i64), (.int .i64), (.slice (.int .i64))], [(1, .v (.hole (.int .i64))), (2, .v (.bptr 231 0)), (5, .v (.bptr 232 0)), (6, .v (.hole (.int .i64))), (7, .v (.hole (.int .i64)))], [(231, .box (.pair (.int .i64) (.pair (.int .i64) (.pair (.slice (.int .i64)) (.slice (.slice (.int .i64)))))) [.hole (.int .i64), .hole (.int .i64), .hole (.slice (.int .i64)), .hole (.slice (.slice (.int .i64)))]), (232, .box (.pair (.int .i64) (.pair (.int .i64) (.pair (.slice (.int .i64)) (.slice (.slice (.int .i64)))))) [.hole (.int .i64), .hole (.int .i64), .hand 233, .nils]), (233, .buf (.int .i64))], []⟩
def s5_x0 : List (Way × Templ) := [(.exit 0, ⟨231, [(.int .i64), (.int .i64), (.int .i64), (.int .i64), (.slice (.int .i64)), (.slice (.slice (.int .i64))), (.int .i64), (.int .i64), (.slice (.int .i64))], [(1, .v (.hole (.int .i64))), (2, .v (.bptr 231 0)), (5, .v (.bptr 232 0)), (6, .v (.hole (.int .i64)))], [(231, .box (.pair (.int .i64) (.pair (.int .i64) (.pair (.slice (.int .i64)) (.slice (.slice (.int .i64)))))) [.hole (.int .i64), .hole (.int .i64), .hole (.slice (.int .i64)), .hole (.slice (.slice (.int .i64)))]), (232, .box (.pair (.int .i64) (.pair (.int .i64) (.pair (.slice (.int .i64)) (.slice (.slice (.int .i64)))))) [.hole (.int .i64), .hole (.int .i64), .hand 233, .nils]), (233, .buf (.int .i64))], []⟩)]
def s5_o0 (n : Nat) : Ev (denL [.bool]) := loopO n (e74 n) s5_t0 s5_x0 (s5_l0 n)
theorem s5_b0 (n : Nat) (d) (again) (ks) : codeR (R := (denL [.bool])) (e74 n) (Hdl.no (R := (denL [.bool]))) (inn (lp (bd Go.Proofs.Try.f5) 0)) [] (mk s5_t0 d) (turnR (e74 n) s5_t0 s5_x0 again ks) = s5_l0 n d again ks := by kernel_rfl
theorem s5_s0 (n : Nat) : Sound Go.Proofs.Try.prog (Hdl.no (R := (denL [.bool]))) false (lp (bd Go.Proofs.Try.f5) 0) (s5_o0 n) := loop_ok (h74 n) hP (by kernel_rfl) (O := []) trivial (s5_b0 n)
def s5_t1 : Templ := ⟨231, [(.int .i64), (.int .i64), (.int .i64), (.int .i64), (.int .i64), (.slice (.int .i64)), (.slice (.slice (.int .i64))), (.int .i64), (.int .i64), (.slice (.int .i64)), (.slice (.slice (.int .i64))), (.slice (.int .i64)), (.slice (.int .i64))], [(1, .v (.hole (.int .i64))), (2, .v (.bptr 231 0)), (5, .v (.bptr 232 0)), (6, .v (.hole (.int .i64))), (8, .v (.hand 235)), (9, .v (.hand 236)), (10, .v (.hole (.int .i64)))], [(231, .box (.pair (.int .i64) (.pair (.int .i64) (.pair (.slice (.int .i64)) (.slice (.slice (.int .i64)))))) [.hole (.int .i64), .hole (.int .i64), .hole (.slice (.int .i64)), .hole (.slice (.slice (.int .i64)))]), (232, .box (.pair (.int .i64) (.pair (.int .i64) (.pair (.slice (.int .i64)) (.slice (.slice (.int .i64)))))) [.hole (.int .i64), .hole (.int .i64), .hand 233, .hand 234]), (233, .buf (.int .i64)), (234, .buf (.slice (.int .i64))), (235, .buf (.int .i64)), (236, .buf (.int .i64))], []⟩
def s5_x1 : List (Way × Templ) := [(.exit 2, ⟨231, [(.int .i64), (.int .i64), (.int .i64), (.int .i64), (.slice (.int .i64)), (.slice (.slice (.int .i64))), (.int .i64), (.int .i64), (.slice (.int .i64)), (.slice (.slice (.int .i64))), (.slice (.int .i64)), (.slice (.int .i64))], [(1, .v (.hole (.int .i64))), (2, .v (.bptr 231 0)), (5, .v (.bptr 232 0)), (6, .v (.hole (.int .i64))), (8, .v (.hand 235)), (9, .v (.hand 236))], [(231, .box (.pair (.int .i64) (.pair (.int .i64) (.pair (.slice (.int .i64)) (.slice (.slice (.int .i64)))))) [.hole (.int .i64), .hole (.int .i64), .hole (.slice (.int .i64)), .hole (.slice (.slice (.int .i64)))]), (232, .box (.pair (.int .i64) (.pair (.int .i64) (.pair (.slice (.int .i64)) (.slice (.slice (.int .i64)))))) [.hole (.int .i64), .hole (.int .i64), .hand 233, .hand 234]), (233, .buf (.int .i64)), (234, .buf (.slice (.int .i64))), (235, .buf (.int .i64)), (236, .buf (.int .i64))], []⟩), (.ret, ⟨231, [.bool], [(4, .v (.hole .bool))], [], []⟩)]
def s5_o1 (n : Nat) : Ev (denL [.bool]) := loopO n (e74 n) s5_t1 s5_x1 (s5_l1 n)
theorem s5_b1 (n : Nat) (d) (again) (ks) : codeR (R := (denL [.bool])) (e74 n) (Hdl.no (R := (denL [.bool]))) (inn (lp (bd Go.Proofs.Try.f5) 1)) [s5_o1_0 n, s5_o1_1 n] (mk s5_t1 d) (turnR (e74 n) s5_t1 s5_x1 again ks) = s5_l1 n d again ks := by kernel_rfl
theorem s5_s1 (n : Nat) : Sound Go.Proofs.Try.prog (Hdl.no (R := (denL [.bool]))) false (lp (bd Go.Proofs.Try.f5) 1) (s5_o1 n) := loop_ok (h74 n) hP (by kernel_rfl) (O := [s5_o1_0 n, s5_o1_1 n]) ⟨s5_s1_0 n, s5_s1_1 n, trivial⟩ (s5_b1 n)
def s5_t2 : Templ := ⟨231, [(.int .i64), (.slice (.int .i64)), (.int .i64), (.int .i64), (.int .i64), (.int .i64), (.slice (.int .i64)), (.slice (.slice (.int .i64))), (.int .i64), (.int .i64), (.slice (.int .i64)), (.slice (.slice (.int .i64)))], [(2, .v (.bptr 231 0)), (5, .v (.bptr 232 0)), (6, .v (.hole (.int .i64))), (16, .v (.hole (.slice (.int .i64)))), (20, .v (.hole (.int .i64))), (21, .v (.hole (.int .i64)))], [(231, .box (.pair (.int .i64) (.pair (.int .i64) (.pair (.slice (.int .i64)) (.slice (.slice (.int .i64)))))) [.hole (.int .i64), .hole (.int .i64), .hole (.slice (.int .i64)), .hole (.slice (.slice (.int .i64)))]), (232, .box (.pair (.int .i64) (.pair (.int .i64) (.pair (.slice (.int .i64)) (.slice (.slice (.int .i64)))))) [.hole (.int .i64), .hole (.int .i64), .hole (.slice (.int .i64)), .hole (.slice (.slice (.int .i64)))])], []⟩
def s5_x2 : List (Way × Templ) := [(.exit 8, ⟨231, [(.int .i64), (.int .i64), (.int .i64), (.int .i64), (.slice (.int .i64)), (.slice (.slice (.int .i64))), (.int .i64), (.int .i64), (.slice (.int .i64)), (.slice (.slice (.int .i64)))], [(2, .v (.bptr 231 0)), (5, .v (.bptr 232 0)), (6, .v (.hole (.int .i64))), (20, .v (.hole (.int .i64)))], [(231, .box (.pair (.int .i64) (.pair (.int .i64) (.pair (.slice (.int .i64)) (.slice (.slice (.int .i64)))))) [.hole (.int .i64), .hole (.int .i64), .hole (.slice (.int .i64)), .hole (.slice (.slice (.int .i64)))]), (232, .box (.pair (.int .i64) (.pair (.int .i64) (.pair (.slice (.int .i64)) (.slice (.slice (.int .i64)))))) [.hole (.int .i64), .hole (.int .i64), .hole (.slice (.int .i64)), .hole (.slice (.slice (.int .i64)))])], []⟩)]
def s5_o2 (n : Nat) : Ev (denL [.bool]) := loopO n (e74 n) s5_t2 s5_x2 (s5_l2 n)
theorem s5_b2 (n : Nat) (d) (again) (ks) : codeR (R := (denL [.bool])) (e74 n) (Hdl.no (R := (denL [.bool]))) (inn (lp (bd Go.Proofs.Try.f5) 2)) [] (mk s5_t2 d) (turnR (e74 n) s5_t2 s5_x2 again ks) = s5_l2 n d again ks := by kernel_rfl
theorem s5_s2 (n : Nat) : Sound Go.Proofs.Try.prog (Hdl.no (R := (denL [.bool]))) false (lp (bd Go.Proofs.Try.f5) 2) (s5_o2 n) := loop_ok (h74 n) hP (by kernel_rfl) (O := []) trivial (s5_b2 n)
def s5_c (n : Nat) : Con := ⟨[(.pair (.int .i64) (.pair (.int .i64) (.pair (.slice (.int .i64)) (.slice (.slice (.int .i64)))))), (.int .i64)], [], [.bool], fun x y => s5 n x.1 x.2, false⟩
theorem s5_eq (n : Nat) (x : denL [(.pair (.int .i64) (.pair (.int .i64) (.pair (.slice (.int .i64)) (.slice (.slice (.int .i64)))))), (.int .i64)]) (y : denL []) : funR (e74 n) Go.Proofs.Try.f5 [(.pair (.int .i64) (.pair (.int .i64) (.pair (.slice (.int .i64)) (.slice (.slice (.int .i64)))))), (.int .i64)] [] [.bool] false [s5_o0 n, s5_o1 n, s5_o2 n] x y = (s5_c n).fn x y := by kernel_rfl
theorem s5_ok (n : Nat) : ConOK Go.Proofs.Try.prog 5 (s5_c n) := func_ok (h74 n) hP Go.Proofs.Try.func5 (by kernel_rfl) (by kernel_rfl) (O := [s5_o0 n, s5_o1 n, s5_o2 n]) ⟨s5_s0 n, s5_s1 n, s5_s2 n, trivial⟩ (s5_eq n)
def e75 (n : Nat) : Env := ⟨gT, (5, s5_c n) :: (e74 n).C, gQ, (e74 n).I, (e74 n).M⟩
theorem h75 (n : Nat) : EnvOK Go.Proofs.Try.prog (e75 n) := env_add (h74 n) (s5_ok n)

/-- criadera/criaderalaw07.sheet -/
def s36 (n : Nat) (marks : List Int) : Option (Bool) :=
  some (((decide (((List.length marks : Nat) : Int) ≤ (12 : Int))) || ((decide (((List.length marks : Nat) : Int) > (40 : Int))) && (decide (((List.length marks : Nat) : Int) ≤ (42 : Int))))))

def s36_c (n : Nat) : Con := ⟨[(.slice (.int .i64))], [], [.bool], fun x y => s36 n x, false⟩
theorem s36_eq (n : Nat) (x : denL [(.slice (.int .i64))]) (y : denL []) : funR (e75 n) Go.Proofs.Try.f36 [(.slice (.int .i64))] [] [.bool] false [] x y = (s36_c n).fn x y := by kernel_rfl
theorem s36_ok (n : Nat) : ConOK Go.Proofs.Try.prog 36 (s36_c n) := func_ok (h75 n) hP Go.Proofs.Try.func36 (by kernel_rfl) (by kernel_rfl) (O := []) trivial (s36_eq n)
def e76 (n : Nat) : Env := ⟨gT, (36, s36_c n) :: (e75 n).C, gQ, (e75 n).I, (e75 n).M⟩
theorem h76 (n : Nat) : EnvOK Go.Proofs.Try.prog (e76 n) := env_add (h75 n) (s36_ok n)

/-- criadera/taste.Walk -/
def s38 (n : Nat) (b : (List (List UInt8)) × Int × (List ((List UInt8) × (List Int) × (List (List UInt8))))) (marks : List Int) : Option ((List Int) × Int) :=
  (s79 n (b.1, (b.2.1, b.2.2))).bind fun x =>
  bif (x.2 != (0 : Int)) then
    some (([] : List Int), x.2)
  else
    (s99 n (x.1.1, (x.1.2.1, x.1.2.2)) marks).bind fun x_1 =>
    bif (x_1 != (0 : Int)) then
      some (([] : List Int), x_1)
    else
      (s100 n (x.1.1, (x.1.2.1, x.1.2.2)) marks).bind fun x_2 =>
      some (x_2, (0 : Int))

def s38_c (n : Nat) : Con := ⟨[(.pair (.slice .str) (.pair (.int .i64) (.slice (.pair .str (.pair (.slice (.int .i64)) (.slice .str)))))), (.slice (.int .i64))], [], [(.slice (.int .i64)), (.int .i64)], fun x y => s38 n x.1 x.2, false⟩
theorem s38_eq (n : Nat) (x : denL [(.pair (.slice .str) (.pair (.int .i64) (.slice (.pair .str (.pair (.slice (.int .i64)) (.slice .str)))))), (.slice (.int .i64))]) (y : denL []) : funR (e76 n) Go.Proofs.Try.f38 [(.pair (.slice .str) (.pair (.int .i64) (.slice (.pair .str (.pair (.slice (.int .i64)) (.slice .str)))))), (.slice (.int .i64))] [] [(.slice (.int .i64)), (.int .i64)] false [] x y = (s38_c n).fn x y := by kernel_rfl
theorem s38_ok (n : Nat) : ConOK Go.Proofs.Try.prog 38 (s38_c n) := func_ok (h76 n) hP Go.Proofs.Try.func38 (by kernel_rfl) (by kernel_rfl) (O := []) trivial (s38_eq n)
def e77 (n : Nat) : Env := ⟨gT, (38, s38_c n) :: (e76 n).C, gQ, (e76 n).I, (e76 n).M⟩
theorem h77 (n : Nat) : EnvOK Go.Proofs.Try.prog (e77 n) := env_add (h76 n) (s38_ok n)

/-- criadera/criaderalaw07.TasteBooks -/
def s6 (n : Nat) (b : (List (List UInt8)) × Int × (List ((List UInt8) × (List Int) × (List (List UInt8))))) (marks : List Int) : Option (Bool) :=
  (s15 n).bind fun x =>
  bif (!x) then
    some (false)
  else
    (s16 n (b.1, (b.2.1, b.2.2))).bind fun x_1 =>
    (part (!(!x_1)) (s36 n marks) false).bind fun x_2 =>
    bif ((!x_1) || (!x_2)) then
      some (true)
    else
      (s21 n (b.1, (b.2.1, b.2.2))).bind fun x_3 =>
      (s37 n x_3).bind fun x_4 =>
      (s21 n (b.1, (b.2.1, b.2.2))).bind fun x_5 =>
      (s27 n marks).bind fun x_6 =>
      (s38 n x_5 x_6).bind fun x_7 =>
      (s39 n (b.1, (b.2.1, b.2.2))).bind fun x_8 =>
      bif ((x_4.2 != x_8.2) || (x_4.1 != x_8.1)) then
        some (false)
      else
        bif (x_8.2 == (0 : Int)) then
          (s18 n (b.1, (b.2.1, b.2.2)) marks).bind fun x_9 =>
          bif (x_9 != (0 : Int)) then
            some (((x_7.2 == x_9) && (((List.length x_7.1 : Nat) : Int) == (0 : Int))))
          else
            (part (x_7.2 == (0 : Int)) (s40 n (b.1, (b.2.1, b.2.2)) marks) []).bind fun x_10 =>
            (part (x_7.2 == (0 : Int)) (s32 n x_7.1 x_10) false).bind fun x_11 =>
            some ((((x_7.2 == (0 : Int)) && x_11) && (((List.length x_7.1 : Nat) : Int) == (IntKind.wrap .i64 (((List.length marks : Nat) : Int) + (1 : Int))))))
        else
          bif (x_8.2 != (0 : Int)) then
            some (((x_7.2 == x_8.2) && (((List.length x_7.1 : Nat) : Int) == (0 : Int))))
          else
            (part (x_7.2 == (0 : Int)) (s40 n (b.1, (b.2.1, b.2.2)) marks) []).bind fun x_12 =>
            (part (x_7.2 == (0 : Int)) (s32 n x_7.1 x_12) false).bind fun x_13 =>
            some ((((x_7.2 == (0 : Int)) && x_13) && (((List.length x_7.1 : Nat) : Int) == (IntKind.wrap .i64 (((List.length marks : Nat) : Int) + (1 : Int))))))

def s6_c (n : Nat) : Con := ⟨[(.pair (.slice .str) (.pair (.int .i64) (.slice (.pair .str (.pair (.slice (.int .i64)) (.slice .str)))))), (.slice (.int .i64))], [], [.bool], fun x y => s6 n x.1 x.2, false⟩
theorem s6_eq (n : Nat) (x : denL [(.pair (.slice .str) (.pair (.int .i64) (.slice (.pair .str (.pair (.slice (.int .i64)) (.slice .str)))))), (.slice (.int .i64))]) (y : denL []) : funR (e77 n) Go.Proofs.Try.f6 [(.pair (.slice .str) (.pair (.int .i64) (.slice (.pair .str (.pair (.slice (.int .i64)) (.slice .str)))))), (.slice (.int .i64))] [] [.bool] false [] x y = (s6_c n).fn x y := by kernel_rfl
theorem s6_ok (n : Nat) : ConOK Go.Proofs.Try.prog 6 (s6_c n) := func_ok (h77 n) hP Go.Proofs.Try.func6 (by kernel_rfl) (by kernel_rfl) (O := []) trivial (s6_eq n)
def e78 (n : Nat) : Env := ⟨gT, (6, s6_c n) :: (e77 n).C, gQ, (e77 n).I, (e77 n).M⟩
theorem h78 (n : Nat) : EnvOK Go.Proofs.Try.prog (e78 n) := env_add (h77 n) (s6_ok n)

/-- criadera/criaderaref07.CopySheet -/
def s42 (n : Nat) (s : (List UInt8) × (List Int)) : Option (((List UInt8) × (List Int))) :=
  (s27 n s.2).bind fun x =>
  some ((s.1, x))

def s42_c (n : Nat) : Con := ⟨[(.pair .str (.slice (.int .i64)))], [], [(.pair .str (.slice (.int .i64)))], fun x y => s42 n x, false⟩
theorem s42_eq (n : Nat) (x : denL [(.pair .str (.slice (.int .i64)))]) (y : denL []) : funR (e78 n) Go.Proofs.Try.f42 [(.pair .str (.slice (.int .i64)))] [] [(.pair .str (.slice (.int .i64)))] false [] x y = (s42_c n).fn x y := by kernel_rfl
theorem s42_ok (n : Nat) : ConOK Go.Proofs.Try.prog 42 (s42_c n) := func_ok (h78 n) hP Go.Proofs.Try.func42 (by kernel_rfl) (by kernel_rfl) (O := []) trivial (s42_eq n)
def e79 (n : Nat) : Env := ⟨gT, (42, s42_c n) :: (e78 n).C, gQ, (e78 n).I, (e78 n).M⟩
theorem h79 (n : Nat) : EnvOK Go.Proofs.Try.prog (e79 n) := env_add (h78 n) (s42_ok n)

def s43_l0 (n : Nat) (d : (List Int) × (List Int) × Int × Int × (List (List UInt8)) × Int × (List ((List UInt8) × (List Int) × (List (List UInt8)))) × (List (List UInt8)) × Unit) (again : ((List Int) × (List Int) × Int × Int × (List (List UInt8)) × Int × (List ((List UInt8) × (List Int) × (List (List UInt8)))) × (List (List UInt8)) × Unit) → Option ((List (List UInt8)) × Int)) (ks : ((List (List UInt8)) × Unit → Option ((List (List UInt8)) × Int)) × Unit) : Option ((List (List UInt8)) × Int) :=
  match d, ks with
  | (v_at, t26, t27, t28, t6, t6_1, t6_2, out, _), (k0, _) =>
  bif (decide (t28 < t27)) then
    (geti t26 t28).bind fun e =>
    (geti v_at t28).bind fun e_1 =>
    (geti t6_2 e_1).bind fun e_2 =>
    (geti e_2.2.2 e).bind fun e_3 =>
    (chk (List.length out + List.length ([e_3] : List (List UInt8)))).bind fun u =>
    again (v_at, t26, t27, (IntKind.wrap .i64 (t28 + (1 : Int))), t6, t6_1, t6_2, (out ++ ([e_3] : List (List UInt8))), ())
  else
    k0 (out, ())

/-- criadera/taste.ReasonsOf -/
def s43 (n : Nat) (b : (List (List UInt8)) × Int × (List ((List UInt8) × (List Int) × (List (List UInt8))))) (s : (List UInt8) × (List Int)) : Option ((List (List UInt8)) × Int) :=
  (s104 n (b.1, (b.2.1, b.2.2)) (s.1, s.2)).bind fun x =>
  bif (x.2 != (0 : Int)) then
    some (([] : List (List UInt8)), x.2)
  else
    (s100 n (x.1.1, (x.1.2.1, x.1.2.2)) s.2).bind fun x_1 =>
    loopG (s43_l0 n) n (x_1, s.2, ((List.length s.2 : Nat) : Int), (0 : Int), x.1.1, x.1.2.1, x.1.2.2, ([] : List (List UInt8)), ())
      (fun (out_1, _) =>
        some (out_1, (0 : Int)), ())

def s43_t0 : Templ := ⟨51, [(.slice (.int .i64)), (.slice (.int .i64)), (.int .i64), (.int .i64), (.slice .str), (.int .i64), (.slice (.pair .str (.pair (.slice (.int .i64)) (.slice .str)))), (.slice .str)], [(6, .v (.bptr 51 0)), (8, .v (.hand 52)), (9, .v (.hole (.slice (.int .i64)))), (26, .v (.hole (.slice (.int .i64)))), (27, .v (.hole (.int .i64))), (28, .v (.hole (.int .i64)))], [(51, .box (.pair (.slice .str) (.pair (.int .i64) (.slice (.pair .str (.pair (.slice (.int .i64)) (.slice .str)))))) [.hole (.slice .str), .hole (.int .i64), .hole (.slice (.pair .str (.pair (.slice (.int .i64)) (.slice .str))))]), (52, .buf .str)], []⟩
def s43_x0 : List (Way × Templ) := [(.exit 0, ⟨51, [(.slice .str)], [(8, .v (.hand 51))], [(51, .buf .str)], []⟩)]
def s43_o0 (n : Nat) : Ev (denL [(.slice .str), (.int .i64)]) := loopO n (e79 n) s43_t0 s43_x0 (s43_l0 n)
theorem s43_b0 (n : Nat) (d) (again) (ks) : codeR (R := (denL [(.slice .str), (.int .i64)])) (e79 n) (Hdl.no (R := (denL [(.slice .str), (.int .i64)]))) (inn (lp (bd Go.Proofs.Try.f43) 0)) [] (mk s43_t0 d) (turnR (e79 n) s43_t0 s43_x0 again ks) = s43_l0 n d again ks := by kernel_rfl
theorem s43_s0 (n : Nat) : Sound Go.Proofs.Try.prog (Hdl.no (R := (denL [(.slice .str), (.int .i64)]))) false (lp (bd Go.Proofs.Try.f43) 0) (s43_o0 n) := loop_ok (h79 n) hP (by kernel_rfl) (O := []) trivial (s43_b0 n)
def s43_c (n : Nat) : Con := ⟨[(.pair (.slice .str) (.pair (.int .i64) (.slice (.pair .str (.pair (.slice (.int .i64)) (.slice .str)))))), (.pair .str (.slice (.int .i64)))], [], [(.slice .str), (.int .i64)], fun x y => s43 n x.1 x.2, false⟩
theorem s43_eq (n : Nat) (x : denL [(.pair (.slice .str) (.pair (.int .i64) (.slice (.pair .str (.pair (.slice (.int .i64)) (.slice .str)))))), (.pair .str (.slice (.int .i64)))]) (y : denL []) : funR (e79 n) Go.Proofs.Try.f43 [(.pair (.slice .str) (.pair (.int .i64) (.slice (.pair .str (.pair (.slice (.int .i64)) (.slice .str)))))), (.pair .str (.slice (.int .i64)))] [] [(.slice .str), (.int .i64)] false [s43_o0 n] x y = (s43_c n).fn x y := by kernel_rfl
theorem s43_ok (n : Nat) : ConOK Go.Proofs.Try.prog 43 (s43_c n) := func_ok (h79 n) hP Go.Proofs.Try.func43 (by kernel_rfl) (by kernel_rfl) (O := [s43_o0 n]) ⟨s43_s0 n, trivial⟩ (s43_eq n)
def e80 (n : Nat) : Env := ⟨gT, (43, s43_c n) :: (e79 n).C, gQ, (e79 n).I, (e79 n).M⟩
theorem h80 (n : Nat) : EnvOK Go.Proofs.Try.prog (e80 n) := env_add (h79 n) (s43_ok n)

/-- criadera/criaderaref07.SheetErr -/
def s44 (n : Nat) (b : (List (List UInt8)) × Int × (List ((List UInt8) × (List Int) × (List (List UInt8))))) (s : (List UInt8) × (List Int)) : Option (Int) :=
  (s101 n s.1).bind fun x =>
  bif (!x) then
    some ((4 : Int))
  else
    (s18 n (b.1, (b.2.1, b.2.2)) s.2).bind fun x_1 =>
    some (x_1)

def s44_c (n : Nat) : Con := ⟨[(.pair (.slice .str) (.pair (.int .i64) (.slice (.pair .str (.pair (.slice (.int .i64)) (.slice .str)))))), (.pair .str (.slice (.int .i64)))], [], [(.int .i64)], fun x y => s44 n x.1 x.2, false⟩
theorem s44_eq (n : Nat) (x : denL [(.pair (.slice .str) (.pair (.int .i64) (.slice (.pair .str (.pair (.slice (.int .i64)) (.slice .str)))))), (.pair .str (.slice (.int .i64)))]) (y : denL []) : funR (e80 n) Go.Proofs.Try.f44 [(.pair (.slice .str) (.pair (.int .i64) (.slice (.pair .str (.pair (.slice (.int .i64)) (.slice .str)))))), (.pair .str (.slice (.int .i64)))] [] [(.int .i64)] false [] x y = (s44_c n).fn x y := by kernel_rfl
theorem s44_ok (n : Nat) : ConOK Go.Proofs.Try.prog 44 (s44_c n) := func_ok (h80 n) hP Go.Proofs.Try.func44 (by kernel_rfl) (by kernel_rfl) (O := []) trivial (s44_eq n)
def e81 (n : Nat) : Env := ⟨gT, (44, s44_c n) :: (e80 n).C, gQ, (e80 n).I, (e80 n).M⟩
theorem h81 (n : Nat) : EnvOK Go.Proofs.Try.prog (e81 n) := env_add (h80 n) (s44_ok n)

def s46_l0 (n : Nat) (d : (List Int) × (List Int) × Int × (List (List UInt8)) × Int × (List ((List UInt8) × (List Int) × (List (List UInt8)))) × (List (List UInt8)) × Unit) (again : ((List Int) × (List Int) × Int × (List (List UInt8)) × Int × (List ((List UInt8) × (List Int) × (List (List UInt8)))) × (List (List UInt8)) × Unit) → Option ((List (List UInt8)))) (ks : ((List (List UInt8)) × Unit → Option ((List (List UInt8)))) × Unit) : Option ((List (List UInt8))) :=
  match d, ks with
  | (marks, l, i, b, b_1, b_2, out, _), (k0, _) =>
  bif (decide (i < ((List.length marks : Nat) : Int))) then
    (geti l i).bind fun e =>
    (geti b_2 e).bind fun e_1 =>
    (geti marks i).bind fun e_2 =>
    (geti e_1.2.2 e_2).bind fun e_3 =>
    (chk (List.length out + List.length ([e_3] : List (List UInt8)))).bind fun u =>
    again (marks, l, (IntKind.wrap .i64 (i + (1 : Int))), b, b_1, b_2, (out ++ ([e_3] : List (List UInt8))), ())
  else
    k0 (out, ())

/-- criadera/criaderaref07.Reasons -/
def s46 (n : Nat) (b : (List (List UInt8)) × Int × (List ((List UInt8) × (List Int) × (List (List UInt8))))) (marks : List Int) : Option ((List (List UInt8))) :=
  (s40 n (b.1, (b.2.1, b.2.2)) marks).bind fun x =>
  loopG (s46_l0 n) n (marks, x, (0 : Int), b.1, b.2.1, b.2.2, ([] : List (List UInt8)), ())
    (fun (out_1, _) =>
      some (out_1), ())

def s46_t0 : Templ := ⟨36, [(.slice (.int .i64)), (.slice (.int .i64)), (.int .i64), (.slice .str), (.int .i64), (.slice (.pair .str (.pair (.slice (.int .i64)) (.slice .str)))), (.slice .str)], [(1, .v (.hole (.slice (.int .i64)))), (2, .v (.bptr 36 0)), (5, .v (.hand 37)), (6, .v (.hole (.slice (.int .i64)))), (7, .v (.hole (.int .i64)))], [(36, .box (.pair (.slice .str) (.pair (.int .i64) (.slice (.pair .str (.pair (.slice (.int .i64)) (.slice .str)))))) [.hole (.slice .str), .hole (.int .i64), .hole (.slice (.pair .str (.pair (.slice (.int .i64)) (.slice .str))))]), (37, .buf .str)], []⟩
def s46_x0 : List (Way × Templ) := [(.exit 0, ⟨36, [(.slice .str)], [(5, .v (.hand 36))], [(36, .buf .str)], []⟩)]
def s46_o0 (n : Nat) : Ev (denL [(.slice .str)]) := loopO n (e81 n) s46_t0 s46_x0 (s46_l0 n)
theorem s46_b0 (n : Nat) (d) (again) (ks) : codeR (R := (denL [(.slice .str)])) (e81 n) (Hdl.no (R := (denL [(.slice .str)]))) (inn (lp (bd Go.Proofs.Try.f46) 0)) [] (mk s46_t0 d) (turnR (e81 n) s46_t0 s46_x0 again ks) = s46_l0 n d again ks := by kernel_rfl
theorem s46_s0 (n : Nat) : Sound Go.Proofs.Try.prog (Hdl.no (R := (denL [(.slice .str)]))) false (lp (bd Go.Proofs.Try.f46) 0) (s46_o0 n) := loop_ok (h81 n) hP (by kernel_rfl) (O := []) trivial (s46_b0 n)
def s46_c (n : Nat) : Con := ⟨[(.pair (.slice .str) (.pair (.int .i64) (.slice (.pair .str (.pair (.slice (.int .i64)) (.slice .str)))))), (.slice (.int .i64))], [], [(.slice .str)], fun x y => s46 n x.1 x.2, false⟩
theorem s46_eq (n : Nat) (x : denL [(.pair (.slice .str) (.pair (.int .i64) (.slice (.pair .str (.pair (.slice (.int .i64)) (.slice .str)))))), (.slice (.int .i64))]) (y : denL []) : funR (e81 n) Go.Proofs.Try.f46 [(.pair (.slice .str) (.pair (.int .i64) (.slice (.pair .str (.pair (.slice (.int .i64)) (.slice .str)))))), (.slice (.int .i64))] [] [(.slice .str)] false [s46_o0 n] x y = (s46_c n).fn x y := by kernel_rfl
theorem s46_ok (n : Nat) : ConOK Go.Proofs.Try.prog 46 (s46_c n) := func_ok (h81 n) hP Go.Proofs.Try.func46 (by kernel_rfl) (by kernel_rfl) (O := [s46_o0 n]) ⟨s46_s0 n, trivial⟩ (s46_eq n)
def e82 (n : Nat) : Env := ⟨gT, (46, s46_c n) :: (e81 n).C, gQ, (e81 n).I, (e81 n).M⟩
theorem h82 (n : Nat) : EnvOK Go.Proofs.Try.prog (e82 n) := env_add (h81 n) (s46_ok n)

def s45_l0 (n : Nat) (d : (List (List UInt8)) × (List (List UInt8)) × Int × Unit) (again : ((List (List UInt8)) × (List (List UInt8)) × Int × Unit) → Option (Bool)) (ks : (Unit → Option (Bool)) × (Bool × Unit → Option (Bool)) × Unit) : Option (Bool) :=
  match d, ks with
  | (a, b, i, _), (k0, k1, _) =>
  bif (decide (i < ((List.length a : Nat) : Int))) then
    (geti a i).bind fun e =>
    (geti b i).bind fun e_1 =>
    bif ((e : List UInt8) != e_1) then
      k1 (false, ())
    else
      again (a, b, (IntKind.wrap .i64 (i + (1 : Int))), ())
  else
    k0 (())

/-- criadera/criaderabase.Texts -/
def s45 (n : Nat) (a : List (List UInt8)) (b : List (List UInt8)) : Option (Bool) :=
  bif (((List.length a : Nat) : Int) != ((List.length b : Nat) : Int)) then
    some (false)
  else
    loopG (s45_l0 n) n (a, b, (0 : Int), ())
      (fun (_) =>
        some (true),
      fun (t4, _) =>
        some (t4), ())

def s45_t0 : Templ := ⟨26, [(.slice .str), (.slice .str), (.int .i64)], [(0, .v (.hole (.slice .str))), (1, .v (.hole (.slice .str))), (5, .v (.hole (.int .i64)))], [], []⟩
def s45_x0 : List (Way × Templ) := [(.exit 0, ⟨26, [], [], [], []⟩), (.ret, ⟨26, [.bool], [(4, .v (.hole .bool))], [], []⟩)]
def s45_o0 (n : Nat) : Ev (denL [.bool]) := loopO n (e82 n) s45_t0 s45_x0 (s45_l0 n)
theorem s45_b0 (n : Nat) (d) (again) (ks) : codeR (R := (denL [.bool])) (e82 n) (Hdl.no (R := (denL [.bool]))) (inn (lp (bd Go.Proofs.Try.f45) 0)) [] (mk s45_t0 d) (turnR (e82 n) s45_t0 s45_x0 again ks) = s45_l0 n d again ks := by kernel_rfl
theorem s45_s0 (n : Nat) : Sound Go.Proofs.Try.prog (Hdl.no (R := (denL [.bool]))) false (lp (bd Go.Proofs.Try.f45) 0) (s45_o0 n) := loop_ok (h82 n) hP (by kernel_rfl) (O := []) trivial (s45_b0 n)
def s45_c (n : Nat) : Con := ⟨[(.slice .str), (.slice .str)], [], [.bool], fun x y => s45 n x.1 x.2, false⟩
theorem s45_eq (n : Nat) (x : denL [(.slice .str), (.slice .str)]) (y : denL []) : funR (e82 n) Go.Proofs.Try.f45 [(.slice .str), (.slice .str)] [] [.bool] false [s45_o0 n] x y = (s45_c n).fn x y := by kernel_rfl
theorem s45_ok (n : Nat) : ConOK Go.Proofs.Try.prog 45 (s45_c n) := func_ok (h82 n) hP Go.Proofs.Try.func45 (by kernel_rfl) (by kernel_rfl) (O := [s45_o0 n]) ⟨s45_s0 n, trivial⟩ (s45_eq n)
def e83 (n : Nat) : Env := ⟨gT, (45, s45_c n) :: (e82 n).C, gQ, (e82 n).I, (e82 n).M⟩
theorem h83 (n : Nat) : EnvOK Go.Proofs.Try.prog (e83 n) := env_add (h82 n) (s45_ok n)

/-- criadera/criaderalaw07.TasteSheets -/
def s7 (n : Nat) (b : (List (List UInt8)) × Int × (List ((List UInt8) × (List Int) × (List (List UInt8))))) (s : (List UInt8) × (List Int)) : Option (Bool) :=
  (s15 n).bind fun x =>
  bif (!x) then
    some (false)
  else
    (s16 n (b.1, (b.2.1, b.2.2))).bind fun x_1 =>
    (part (!(!x_1)) (s36 n s.2) false).bind fun x_2 =>
    bif (((!x_1) || (!x_2)) || (decide (((List.length s.1 : Nat) : Int) > (20 : Int)))) then
      some (true)
    else
      (s21 n (b.1, (b.2.1, b.2.2))).bind fun x_3 =>
      (s42 n (s.1, s.2)).bind fun x_4 =>
      (s41 n x_3 x_4).bind fun x_5 =>
      (s21 n (b.1, (b.2.1, b.2.2))).bind fun x_6 =>
      (s42 n (s.1, s.2)).bind fun x_7 =>
      (s43 n x_6 x_7).bind fun x_8 =>
      (s17 n (b.1, (b.2.1, b.2.2))).bind fun x_9 =>
      bif (x_9 == (0 : Int)) then
        (s44 n (b.1, (b.2.1, b.2.2)) (s.1, s.2)).bind fun x_10 =>
        bif (x_10 != (0 : Int)) then
          some (((((x_5.2 == x_10) && (x_8.2 == x_10)) && ((x_5.1 : List UInt8) == [])) && (((List.length x_8.1 : Nat) : Int) == (0 : Int))))
        else
          (part (x_5.2 == (0 : Int)) (s22 n (b.1, (b.2.1, b.2.2)) s.2) (0 : Int)).bind fun x_11 =>
          (part (x_5.2 == (0 : Int)) (geti b.2.2 x_11) ([], ([], []))).bind fun e =>
          (part (((x_5.2 == (0 : Int)) && ((x_5.1 : List UInt8) == e.1)) && (x_8.2 == (0 : Int))) (s46 n (b.1, (b.2.1, b.2.2)) s.2) []).bind fun x_12 =>
          (part (((x_5.2 == (0 : Int)) && ((x_5.1 : List UInt8) == e.1)) && (x_8.2 == (0 : Int))) (s45 n x_8.1 x_12) false).bind fun x_13 =>
          some (((((x_5.2 == (0 : Int)) && ((x_5.1 : List UInt8) == e.1)) && (x_8.2 == (0 : Int))) && x_13))
      else
        bif (x_9 != (0 : Int)) then
          some (((((x_5.2 == x_9) && (x_8.2 == x_9)) && ((x_5.1 : List UInt8) == [])) && (((List.length x_8.1 : Nat) : Int) == (0 : Int))))
        else
          (part (x_5.2 == (0 : Int)) (s22 n (b.1, (b.2.1, b.2.2)) s.2) (0 : Int)).bind fun x_14 =>
          (part (x_5.2 == (0 : Int)) (geti b.2.2 x_14) ([], ([], []))).bind fun e_1 =>
          (part (((x_5.2 == (0 : Int)) && ((x_5.1 : List UInt8) == e_1.1)) && (x_8.2 == (0 : Int))) (s46 n (b.1, (b.2.1, b.2.2)) s.2) []).bind fun x_15 =>
          (part (((x_5.2 == (0 : Int)) && ((x_5.1 : List UInt8) == e_1.1)) && (x_8.2 == (0 : Int))) (s45 n x_8.1 x_15) false).bind fun x_16 =>
          some (((((x_5.2 == (0 : Int)) && ((x_5.1 : List UInt8) == e_1.1)) && (x_8.2 == (0 : Int))) && x_16))

def s7_c (n : Nat) : Con := ⟨[(.pair (.slice .str) (.pair (.int .i64) (.slice (.pair .str (.pair (.slice (.int .i64)) (.slice .str)))))), (.pair .str (.slice (.int .i64)))], [], [.bool], fun x y => s7 n x.1 x.2, false⟩
theorem s7_eq (n : Nat) (x : denL [(.pair (.slice .str) (.pair (.int .i64) (.slice (.pair .str (.pair (.slice (.int .i64)) (.slice .str)))))), (.pair .str (.slice (.int .i64)))]) (y : denL []) : funR (e83 n) Go.Proofs.Try.f7 [(.pair (.slice .str) (.pair (.int .i64) (.slice (.pair .str (.pair (.slice (.int .i64)) (.slice .str)))))), (.pair .str (.slice (.int .i64)))] [] [.bool] false [] x y = (s7_c n).fn x y := by kernel_rfl
theorem s7_ok (n : Nat) : ConOK Go.Proofs.Try.prog 7 (s7_c n) := func_ok (h83 n) hP Go.Proofs.Try.func7 (by kernel_rfl) (by kernel_rfl) (O := []) trivial (s7_eq n)
def e84 (n : Nat) : Env := ⟨gT, (7, s7_c n) :: (e83 n).C, gQ, (e83 n).I, (e83 n).M⟩
theorem h84 (n : Nat) : EnvOK Go.Proofs.Try.prog (e84 n) := env_add (h83 n) (s7_ok n)

def s105_l0 (n : Nat) (d : Int × Int × Unit) (again : (Int × Int × Unit) → Option (Int)) (ks : (Int × Unit → Option (Int)) × Unit) : Option (Int) :=
  match d, ks with
  | (a, b, _), (k0, _) =>
  bif (b != (0 : Int)) then
    (qrem a b).bind fun r =>
    again (b, r, ())
  else
    k0 (a, ())

/-- criadera/taste.divisor -/
def s105 (n : Nat) (a : Int) (b : Int) : Option (Int) :=
  loopG (s105_l0 n) n (a, b, ())
    (fun (a_2, _) =>
      some ((imax a_2 (IntKind.wrap .i64 (0 - a_2)))), ())

def s105_t0 : Templ := ⟨15, [(.int .i64), (.int .i64)], [(0, .v (.hole (.int .i64))), (1, .v (.hole (.int .i64)))], [], []⟩
def s105_x0 : List (Way × Templ) := [(.exit 0, ⟨15, [(.int .i64)], [(0, .v (.hole (.int .i64)))], [], []⟩)]
def s105_o0 (n : Nat) : Ev (denL [(.int .i64)]) := loopO n (e84 n) s105_t0 s105_x0 (s105_l0 n)
theorem s105_b0 (n : Nat) (d) (again) (ks) : codeR (R := (denL [(.int .i64)])) (e84 n) (Hdl.no (R := (denL [(.int .i64)]))) (inn (lp (bd Go.Proofs.Try.f105) 0)) [] (mk s105_t0 d) (turnR (e84 n) s105_t0 s105_x0 again ks) = s105_l0 n d again ks := by kernel_rfl
theorem s105_s0 (n : Nat) : Sound Go.Proofs.Try.prog (Hdl.no (R := (denL [(.int .i64)]))) false (lp (bd Go.Proofs.Try.f105) 0) (s105_o0 n) := loop_ok (h84 n) hP (by kernel_rfl) (O := []) trivial (s105_b0 n)
def s105_c (n : Nat) : Con := ⟨[(.int .i64), (.int .i64)], [], [(.int .i64)], fun x y => s105 n x.1 x.2, false⟩
theorem s105_eq (n : Nat) (x : denL [(.int .i64), (.int .i64)]) (y : denL []) : funR (e84 n) Go.Proofs.Try.f105 [(.int .i64), (.int .i64)] [] [(.int .i64)] false [s105_o0 n] x y = (s105_c n).fn x y := by kernel_rfl
theorem s105_ok (n : Nat) : ConOK Go.Proofs.Try.prog 105 (s105_c n) := func_ok (h84 n) hP Go.Proofs.Try.func105 (by kernel_rfl) (by kernel_rfl) (O := [s105_o0 n]) ⟨s105_s0 n, trivial⟩ (s105_eq n)
def e85 (n : Nat) : Env := ⟨gT, (105, s105_c n) :: (e84 n).C, gQ, (e84 n).I, (e84 n).M⟩
theorem h85 (n : Nat) : EnvOK Go.Proofs.Try.prog (e85 n) := env_add (h84 n) (s105_ok n)

def s47_l0 (n : Nat) (d : Int × Int × Int × (List Int) × Int × Int × Int × Int × (List Int) × (List (List Int)) × Int × Int × Unit) (again : (Int × Int × Int × (List Int) × Int × Int × Int × Int × (List Int) × (List (List Int)) × Int × Int × Unit) → Option ((Int × Int) × Int)) (ks : (Int × Int × Int × Int × Unit → Option ((Int × Int) × Int)) × Unit) : Option ((Int × Int) × Int) :=
  match d, ks with
  | (b, same, all, t40, t41, t42, p, p_1, p_2, p_3, t6, t6_1, _), (k0, _) =>
  bif (decide (t42 < t41)) then
    (geti t40 t42).bind fun e =>
    (geti p_3 b).bind fun e_1 =>
    (geti e_1 t42).bind fun e_2 =>
    bif (e_2 == e) then
      again (b, (IntKind.wrap .i64 (same + (1 : Int))), all, t40, t41, (IntKind.wrap .i64 (t42 + (1 : Int))), p, p_1, p_2, p_3, t6, t6_1, ())
    else
      again (b, same, all, t40, t41, (IntKind.wrap .i64 (t42 + (1 : Int))), p, p_1, p_2, p_3, t6, t6_1, ())
  else
    k0 (same, all, t6, t6_1, ())

/-- criadera/taste.AgreementOf -/
def s47 (n : Nat) (p : Int × Int × (List Int) × (List (List Int))) (a : Int) (b : Int) : Option ((Int × Int) × Int) :=
  (s89 n (p.1, (p.2.1, (p.2.2.1, p.2.2.2)))).bind fun x =>
  (s90 n (x.1.1, (x.1.2.1, (x.1.2.2.1, x.1.2.2.2))) a).bind fun x_1 =>
  (s90 n (x.1.1, (x.1.2.1, (x.1.2.2.1, x.1.2.2.2))) b).bind fun x_2 =>
  (s80 n ([x.2, x_1, x_2] : List Int)).bind fun x_3 =>
  bif (x_3 != (0 : Int)) then
    some (((0 : Int), (0 : Int)), x_3)
  else
    (geti p.2.2.2 a).bind fun e =>
    loopG (s47_l0 n) n (b, (0 : Int), ((List.length p.2.2.1 : Nat) : Int), e, ((List.length e : Nat) : Int), (0 : Int), p.1, p.2.1, p.2.2.1, p.2.2.2, (0 : Int), (0 : Int), ())
      (fun (same_1, all_1, t6_2, t6_3, _) =>
        (s105 n same_1 all_1).bind fun x_4 =>
        (qdiv .i64 same_1 x_4).bind fun q =>
        (qdiv .i64 all_1 x_4).bind fun q_1 =>
        some ((q, q_1), (0 : Int)), ())

def s47_t0 : Templ := ⟨70, [(.int .i64), (.int .i64), (.int .i64), (.slice (.int .i64)), (.int .i64), (.int .i64), (.int .i64), (.int .i64), (.slice (.int .i64)), (.slice (.slice (.int .i64))), (.int .i64), (.int .i64)], [(2, .v (.hole (.int .i64))), (3, .v (.bptr 70 0)), (6, .v (.bptr 71 0)), (10, .v (.hole (.int .i64))), (11, .v (.hole (.int .i64))), (40, .v (.hole (.slice (.int .i64)))), (41, .v (.hole (.int .i64))), (42, .v (.hole (.int .i64)))], [(70, .box (.pair (.int .i64) (.pair (.int .i64) (.pair (.slice (.int .i64)) (.slice (.slice (.int .i64)))))) [.hole (.int .i64), .hole (.int .i64), .hole (.slice (.int .i64)), .hole (.slice (.slice (.int .i64)))]), (71, .box (.pair (.int .i64) (.int .i64)) [.hole (.int .i64), .hole (.int .i64)])], []⟩
def s47_x0 : List (Way × Templ) := [(.exit 0, ⟨70, [(.int .i64), (.int .i64), (.int .i64), (.int .i64)], [(6, .v (.bptr 70 0)), (10, .v (.hole (.int .i64))), (11, .v (.hole (.int .i64)))], [(70, .box (.pair (.int .i64) (.int .i64)) [.hole (.int .i64), .hole (.int .i64)])], []⟩)]
def s47_o0 (n : Nat) : Ev (denL [(.pair (.int .i64) (.int .i64)), (.int .i64)]) := loopO n (e85 n) s47_t0 s47_x0 (s47_l0 n)
theorem s47_b0 (n : Nat) (d) (again) (ks) : codeR (R := (denL [(.pair (.int .i64) (.int .i64)), (.int .i64)])) (e85 n) (Hdl.no (R := (denL [(.pair (.int .i64) (.int .i64)), (.int .i64)]))) (inn (lp (bd Go.Proofs.Try.f47) 0)) [] (mk s47_t0 d) (turnR (e85 n) s47_t0 s47_x0 again ks) = s47_l0 n d again ks := by kernel_rfl
theorem s47_s0 (n : Nat) : Sound Go.Proofs.Try.prog (Hdl.no (R := (denL [(.pair (.int .i64) (.int .i64)), (.int .i64)]))) false (lp (bd Go.Proofs.Try.f47) 0) (s47_o0 n) := loop_ok (h85 n) hP (by kernel_rfl) (O := []) trivial (s47_b0 n)
def s47_c (n : Nat) : Con := ⟨[(.pair (.int .i64) (.pair (.int .i64) (.pair (.slice (.int .i64)) (.slice (.slice (.int .i64)))))), (.int .i64), (.int .i64)], [], [(.pair (.int .i64) (.int .i64)), (.int .i64)], fun x y => s47 n x.1 x.2.1 x.2.2, false⟩
theorem s47_eq (n : Nat) (x : denL [(.pair (.int .i64) (.pair (.int .i64) (.pair (.slice (.int .i64)) (.slice (.slice (.int .i64)))))), (.int .i64), (.int .i64)]) (y : denL []) : funR (e85 n) Go.Proofs.Try.f47 [(.pair (.int .i64) (.pair (.int .i64) (.pair (.slice (.int .i64)) (.slice (.slice (.int .i64)))))), (.int .i64), (.int .i64)] [] [(.pair (.int .i64) (.int .i64)), (.int .i64)] false [s47_o0 n] x y = (s47_c n).fn x y := by kernel_rfl
theorem s47_ok (n : Nat) : ConOK Go.Proofs.Try.prog 47 (s47_c n) := func_ok (h85 n) hP Go.Proofs.Try.func47 (by kernel_rfl) (by kernel_rfl) (O := [s47_o0 n]) ⟨s47_s0 n, trivial⟩ (s47_eq n)
def e86 (n : Nat) : Env := ⟨gT, (47, s47_c n) :: (e85 n).C, gQ, (e85 n).I, (e85 n).M⟩
theorem h86 (n : Nat) : EnvOK Go.Proofs.Try.prog (e86 n) := env_add (h85 n) (s47_ok n)

/-- criadera/criaderabase.Size -/
def s144 (n : Nat) (v_n : Int) : Option (Int) :=
  some ((imax v_n (IntKind.wrap .i64 (0 - v_n))))

def s144_c (n : Nat) : Con := ⟨[(.int .i64)], [], [(.int .i64)], fun x y => s144 n x, false⟩
theorem s144_eq (n : Nat) (x : denL [(.int .i64)]) (y : denL []) : funR (e86 n) Go.Proofs.Try.f144 [(.int .i64)] [] [(.int .i64)] false [] x y = (s144_c n).fn x y := by kernel_rfl
theorem s144_ok (n : Nat) : ConOK Go.Proofs.Try.prog 144 (s144_c n) := func_ok (h86 n) hP Go.Proofs.Try.func144 (by kernel_rfl) (by kernel_rfl) (O := []) trivial (s144_eq n)
def e87 (n : Nat) : Env := ⟨gT, (144, s144_c n) :: (e86 n).C, gQ, (e86 n).I, (e86 n).M⟩
theorem h87 (n : Nat) : EnvOK Go.Proofs.Try.prog (e87 n) := env_add (h86 n) (s144_ok n)

def s133_l0 (n : Nat) (d : Int × Int × Unit) (again : (Int × Int × Unit) → Option (Int)) (ks : (Int × Unit → Option (Int)) × Unit) : Option (Int) :=
  match d, ks with
  | (a, b, _), (k0, _) =>
  bif (b != (0 : Int)) then
    (qrem a b).bind fun r =>
    again (b, r, ())
  else
    k0 (a, ())

/-- criadera/criaderabase.Gcd -/
def s133 (n : Nat) (a : Int) (b : Int) : Option (Int) :=
  loopG (s133_l0 n) n (a, b, ())
    (fun (a_2, _) =>
      (s144 n a_2).bind fun x =>
      some (x), ())

def s133_t0 : Templ := ⟨13, [(.int .i64), (.int .i64)], [(0, .v (.hole (.int .i64))), (1, .v (.hole (.int .i64)))], [], []⟩
def s133_x0 : List (Way × Templ) := [(.exit 0, ⟨13, [(.int .i64)], [(0, .v (.hole (.int .i64)))], [], []⟩)]
def s133_o0 (n : Nat) : Ev (denL [(.int .i64)]) := loopO n (e87 n) s133_t0 s133_x0 (s133_l0 n)
theorem s133_b0 (n : Nat) (d) (again) (ks) : codeR (R := (denL [(.int .i64)])) (e87 n) (Hdl.no (R := (denL [(.int .i64)]))) (inn (lp (bd Go.Proofs.Try.f133) 0)) [] (mk s133_t0 d) (turnR (e87 n) s133_t0 s133_x0 again ks) = s133_l0 n d again ks := by kernel_rfl
theorem s133_s0 (n : Nat) : Sound Go.Proofs.Try.prog (Hdl.no (R := (denL [(.int .i64)]))) false (lp (bd Go.Proofs.Try.f133) 0) (s133_o0 n) := loop_ok (h87 n) hP (by kernel_rfl) (O := []) trivial (s133_b0 n)
def s133_c (n : Nat) : Con := ⟨[(.int .i64), (.int .i64)], [], [(.int .i64)], fun x y => s133 n x.1 x.2, false⟩
theorem s133_eq (n : Nat) (x : denL [(.int .i64), (.int .i64)]) (y : denL []) : funR (e87 n) Go.Proofs.Try.f133 [(.int .i64), (.int .i64)] [] [(.int .i64)] false [s133_o0 n] x y = (s133_c n).fn x y := by kernel_rfl
theorem s133_ok (n : Nat) : ConOK Go.Proofs.Try.prog 133 (s133_c n) := func_ok (h87 n) hP Go.Proofs.Try.func133 (by kernel_rfl) (by kernel_rfl) (O := [s133_o0 n]) ⟨s133_s0 n, trivial⟩ (s133_eq n)
def e88 (n : Nat) : Env := ⟨gT, (133, s133_c n) :: (e87 n).C, gQ, (e87 n).I, (e87 n).M⟩
theorem h88 (n : Nat) : EnvOK Go.Proofs.Try.prog (e88 n) := env_add (h87 n) (s133_ok n)

/-- criadera/criaderabase.Lowest -/
def s106 (n : Nat) (num : Int) (den : Int) : Option ((Int × Int)) :=
  (s133 n num den).bind fun x =>
  bif (decide (den < (0 : Int))) then
    (qdiv .i64 num (IntKind.wrap .i64 (0 - x))).bind fun q =>
    (qdiv .i64 den (IntKind.wrap .i64 (0 - x))).bind fun q_1 =>
    some ((q, q_1))
  else
    (qdiv .i64 num x).bind fun q_2 =>
    (qdiv .i64 den x).bind fun q_3 =>
    some ((q_2, q_3))

def s106_c (n : Nat) : Con := ⟨[(.int .i64), (.int .i64)], [], [(.pair (.int .i64) (.int .i64))], fun x y => s106 n x.1 x.2, false⟩
theorem s106_eq (n : Nat) (x : denL [(.int .i64), (.int .i64)]) (y : denL []) : funR (e88 n) Go.Proofs.Try.f106 [(.int .i64), (.int .i64)] [] [(.pair (.int .i64) (.int .i64))] false [] x y = (s106_c n).fn x y := by kernel_rfl
theorem s106_ok (n : Nat) : ConOK Go.Proofs.Try.prog 106 (s106_c n) := func_ok (h88 n) hP Go.Proofs.Try.func106 (by kernel_rfl) (by kernel_rfl) (O := []) trivial (s106_eq n)
def e89 (n : Nat) : Env := ⟨gT, (106, s106_c n) :: (e88 n).C, gQ, (e88 n).I, (e88 n).M⟩
theorem h89 (n : Nat) : EnvOK Go.Proofs.Try.prog (e89 n) := env_add (h88 n) (s106_ok n)

def s48_l0 (n : Nat) (d : Int × Int × Int × Int × Int × Int × (List Int) × (List (List Int)) × Int × Int × Unit) (again : (Int × Int × Int × Int × Int × Int × (List Int) × (List (List Int)) × Int × Int × Unit) → Option ((Int × Int))) (ks : (Int × Int × Int × (List Int) × (List (List Int)) × Int × Int × Unit → Option ((Int × Int))) × Unit) : Option ((Int × Int)) :=
  match d, ks with
  | (a, b, v_n, i, p, p_1, p_2, p_3, t6, t6_1, _), (k0, _) =>
  bif (decide (i < ((List.length p_2 : Nat) : Int))) then
    (geti p_3 a).bind fun e =>
    (geti e i).bind fun e_1 =>
    (geti p_3 b).bind fun e_2 =>
    (geti e_2 i).bind fun e_3 =>
    bif (e_1 == e_3) then
      again (a, b, (IntKind.wrap .i64 (v_n + (1 : Int))), (IntKind.wrap .i64 (i + (1 : Int))), p, p_1, p_2, p_3, t6, t6_1, ())
    else
      again (a, b, v_n, (IntKind.wrap .i64 (i + (1 : Int))), p, p_1, p_2, p_3, t6, t6_1, ())
  else
    k0 (v_n, p, p_1, p_2, p_3, t6, t6_1, ())

/-- criadera/criaderaref07.AgreementOf -/
def s48 (n : Nat) (p : Int × Int × (List Int) × (List (List Int))) (a : Int) (b : Int) : Option ((Int × Int)) :=
  loopG (s48_l0 n) n (a, b, (0 : Int), (0 : Int), p.1, p.2.1, p.2.2.1, p.2.2.2, (0 : Int), (0 : Int), ())
    (fun (v_n_1, p_5, p_6, p_7, p_8, t6_2, t6_3, _) =>
      (s106 n v_n_1 ((List.length p_7 : Nat) : Int)).bind fun x =>
      some ((x.1, x.2)), ())

def s48_t0 : Templ := ⟨40, [(.int .i64), (.int .i64), (.int .i64), (.int .i64), (.int .i64), (.int .i64), (.slice (.int .i64)), (.slice (.slice (.int .i64))), (.int .i64), (.int .i64)], [(1, .v (.hole (.int .i64))), (2, .v (.hole (.int .i64))), (3, .v (.bptr 40 0)), (6, .v (.bptr 41 0)), (7, .v (.hole (.int .i64))), (8, .v (.hole (.int .i64)))], [(40, .box (.pair (.int .i64) (.pair (.int .i64) (.pair (.slice (.int .i64)) (.slice (.slice (.int .i64)))))) [.hole (.int .i64), .hole (.int .i64), .hole (.slice (.int .i64)), .hole (.slice (.slice (.int .i64)))]), (41, .box (.pair (.int .i64) (.int .i64)) [.hole (.int .i64), .hole (.int .i64)])], []⟩
def s48_x0 : List (Way × Templ) := [(.exit 0, ⟨40, [(.int .i64), (.int .i64), (.int .i64), (.slice (.int .i64)), (.slice (.slice (.int .i64))), (.int .i64), (.int .i64)], [(3, .v (.bptr 40 0)), (6, .v (.bptr 41 0)), (7, .v (.hole (.int .i64)))], [(40, .box (.pair (.int .i64) (.pair (.int .i64) (.pair (.slice (.int .i64)) (.slice (.slice (.int .i64)))))) [.hole (.int .i64), .hole (.int .i64), .hole (.slice (.int .i64)), .hole (.slice (.slice (.int .i64)))]), (41, .box (.pair (.int .i64) (.int .i64)) [.hole (.int .i64), .hole (.int .i64)])], []⟩)]
def s48_o0 (n : Nat) : Ev (denL [(.pair (.int .i64) (.int .i64))]) := loopO n (e89 n) s48_t0 s48_x0 (s48_l0 n)
theorem s48_b0 (n : Nat) (d) (again) (ks) : codeR (R := (denL [(.pair (.int .i64) (.int .i64))])) (e89 n) (Hdl.no (R := (denL [(.pair (.int .i64) (.int .i64))]))) (inn (lp (bd Go.Proofs.Try.f48) 0)) [] (mk s48_t0 d) (turnR (e89 n) s48_t0 s48_x0 again ks) = s48_l0 n d again ks := by kernel_rfl
theorem s48_s0 (n : Nat) : Sound Go.Proofs.Try.prog (Hdl.no (R := (denL [(.pair (.int .i64) (.int .i64))]))) false (lp (bd Go.Proofs.Try.f48) 0) (s48_o0 n) := loop_ok (h89 n) hP (by kernel_rfl) (O := []) trivial (s48_b0 n)
def s48_c (n : Nat) : Con := ⟨[(.pair (.int .i64) (.pair (.int .i64) (.pair (.slice (.int .i64)) (.slice (.slice (.int .i64)))))), (.int .i64), (.int .i64)], [], [(.pair (.int .i64) (.int .i64))], fun x y => s48 n x.1 x.2.1 x.2.2, false⟩
theorem s48_eq (n : Nat) (x : denL [(.pair (.int .i64) (.pair (.int .i64) (.pair (.slice (.int .i64)) (.slice (.slice (.int .i64)))))), (.int .i64), (.int .i64)]) (y : denL []) : funR (e89 n) Go.Proofs.Try.f48 [(.pair (.int .i64) (.pair (.int .i64) (.pair (.slice (.int .i64)) (.slice (.slice (.int .i64)))))), (.int .i64), (.int .i64)] [] [(.pair (.int .i64) (.int .i64))] false [s48_o0 n] x y = (s48_c n).fn x y := by kernel_rfl
theorem s48_ok (n : Nat) : ConOK Go.Proofs.Try.prog 48 (s48_c n) := func_ok (h89 n) hP Go.Proofs.Try.func48 (by kernel_rfl) (by kernel_rfl) (O := [s48_o0 n]) ⟨s48_s0 n, trivial⟩ (s48_eq n)
def e90 (n : Nat) : Env := ⟨gT, (48, s48_c n) :: (e89 n).C, gQ, (e89 n).I, (e89 n).M⟩
theorem h90 (n : Nat) : EnvOK Go.Proofs.Try.prog (e90 n) := env_add (h89 n) (s48_ok n)

/-- criadera/criaderabase.Whole -/
def s49 (n : Nat) (v_n : Int) : Option ((Int × Int)) :=
  some ((v_n, (1 : Int)))

def s49_c (n : Nat) : Con := ⟨[(.int .i64)], [], [(.pair (.int .i64) (.int .i64))], fun x y => s49 n x, false⟩
theorem s49_eq (n : Nat) (x : denL [(.int .i64)]) (y : denL []) : funR (e90 n) Go.Proofs.Try.f49 [(.int .i64)] [] [(.pair (.int .i64) (.int .i64))] false [] x y = (s49_c n).fn x y := by kernel_rfl
theorem s49_ok (n : Nat) : ConOK Go.Proofs.Try.prog 49 (s49_c n) := func_ok (h90 n) hP Go.Proofs.Try.func49 (by kernel_rfl) (by kernel_rfl) (O := []) trivial (s49_eq n)
def e91 (n : Nat) : Env := ⟨gT, (49, s49_c n) :: (e90 n).C, gQ, (e90 n).I, (e90 n).M⟩
theorem h91 (n : Nat) : EnvOK Go.Proofs.Try.prog (e91 n) := env_add (h90 n) (s49_ok n)

/-- criadera/criaderalaw07.TasteAgrees -/
def s8 (n : Nat) (p : Int × Int × (List Int) × (List (List Int))) (a : Int) (b : Int) : Option (Bool) :=
  (s15 n).bind fun x =>
  bif (!x) then
    some (false)
  else
    (s24 n (p.1, (p.2.1, (p.2.2.1, p.2.2.2)))).bind fun x_1 =>
    bif (!x_1) then
      some (true)
    else
      (s26 n (p.1, (p.2.1, (p.2.2.1, p.2.2.2)))).bind fun x_2 =>
      (s47 n (x_2.1, (x_2.2.1, (x_2.2.2.1, x_2.2.2.2))) a b).bind fun x_3 =>
      (s29 n (p.1, (p.2.1, (p.2.2.1, p.2.2.2)))).bind fun x_4 =>
      bif (x_4 == (0 : Int)) then
        (s30 n a ((List.length p.2.2.2 : Nat) : Int)).bind fun x_5 =>
        bif (x_5 == (0 : Int)) then
          (s30 n b ((List.length p.2.2.2 : Nat) : Int)).bind fun x_6 =>
          bif (x_6 != (0 : Int)) then
            some (((x_3.2 == x_6) && ((x_3.1.1 == (0 : Int)) && (x_3.1.2 == (0 : Int)))))
          else
            (s26 n (p.1, (p.2.1, (p.2.2.1, p.2.2.2)))).bind fun x_7 =>
            (s47 n (x_7.1, (x_7.2.1, (x_7.2.2.1, x_7.2.2.2))) b a).bind fun x_8 =>
            (s26 n (p.1, (p.2.1, (p.2.2.1, p.2.2.2)))).bind fun x_9 =>
            (s47 n (x_9.1, (x_9.2.1, (x_9.2.2.1, x_9.2.2.2))) a a).bind fun x_10 =>
            (part (x_3.2 == (0 : Int)) (s48 n (p.1, (p.2.1, (p.2.2.1, p.2.2.2))) a b) ((0 : Int), (0 : Int))).bind fun x_11 =>
            (part (((((x_3.2 == (0 : Int)) && ((x_3.1.1 == x_11.1) && (x_3.1.2 == x_11.2))) && (x_8.2 == (0 : Int))) && ((x_3.1.1 == x_8.1.1) && (x_3.1.2 == x_8.1.2))) && (x_10.2 == (0 : Int))) (s49 n (1 : Int)) ((0 : Int), (0 : Int))).bind fun x_12 =>
            some (((((((x_3.2 == (0 : Int)) && ((x_3.1.1 == x_11.1) && (x_3.1.2 == x_11.2))) && (x_8.2 == (0 : Int))) && ((x_3.1.1 == x_8.1.1) && (x_3.1.2 == x_8.1.2))) && (x_10.2 == (0 : Int))) && ((x_10.1.1 == x_12.1) && (x_10.1.2 == x_12.2))))
        else
          bif (x_5 != (0 : Int)) then
            some (((x_3.2 == x_5) && ((x_3.1.1 == (0 : Int)) && (x_3.1.2 == (0 : Int)))))
          else
            (s26 n (p.1, (p.2.1, (p.2.2.1, p.2.2.2)))).bind fun x_13 =>
            (s47 n (x_13.1, (x_13.2.1, (x_13.2.2.1, x_13.2.2.2))) b a).bind fun x_14 =>
            (s26 n (p.1, (p.2.1, (p.2.2.1, p.2.2.2)))).bind fun x_15 =>
            (s47 n (x_15.1, (x_15.2.1, (x_15.2.2.1, x_15.2.2.2))) a a).bind fun x_16 =>
            (part (x_3.2 == (0 : Int)) (s48 n (p.1, (p.2.1, (p.2.2.1, p.2.2.2))) a b) ((0 : Int), (0 : Int))).bind fun x_17 =>
            (part (((((x_3.2 == (0 : Int)) && ((x_3.1.1 == x_17.1) && (x_3.1.2 == x_17.2))) && (x_14.2 == (0 : Int))) && ((x_3.1.1 == x_14.1.1) && (x_3.1.2 == x_14.1.2))) && (x_16.2 == (0 : Int))) (s49 n (1 : Int)) ((0 : Int), (0 : Int))).bind fun x_18 =>
            some (((((((x_3.2 == (0 : Int)) && ((x_3.1.1 == x_17.1) && (x_3.1.2 == x_17.2))) && (x_14.2 == (0 : Int))) && ((x_3.1.1 == x_14.1.1) && (x_3.1.2 == x_14.1.2))) && (x_16.2 == (0 : Int))) && ((x_16.1.1 == x_18.1) && (x_16.1.2 == x_18.2))))
      else
        bif (x_4 == (0 : Int)) then
          (s30 n b ((List.length p.2.2.2 : Nat) : Int)).bind fun x_19 =>
          bif (x_19 != (0 : Int)) then
            some (((x_3.2 == x_19) && ((x_3.1.1 == (0 : Int)) && (x_3.1.2 == (0 : Int)))))
          else
            (s26 n (p.1, (p.2.1, (p.2.2.1, p.2.2.2)))).bind fun x_20 =>
            (s47 n (x_20.1, (x_20.2.1, (x_20.2.2.1, x_20.2.2.2))) b a).bind fun x_21 =>
            (s26 n (p.1, (p.2.1, (p.2.2.1, p.2.2.2)))).bind fun x_22 =>
            (s47 n (x_22.1, (x_22.2.1, (x_22.2.2.1, x_22.2.2.2))) a a).bind fun x_23 =>
            (part (x_3.2 == (0 : Int)) (s48 n (p.1, (p.2.1, (p.2.2.1, p.2.2.2))) a b) ((0 : Int), (0 : Int))).bind fun x_24 =>
            (part (((((x_3.2 == (0 : Int)) && ((x_3.1.1 == x_24.1) && (x_3.1.2 == x_24.2))) && (x_21.2 == (0 : Int))) && ((x_3.1.1 == x_21.1.1) && (x_3.1.2 == x_21.1.2))) && (x_23.2 == (0 : Int))) (s49 n (1 : Int)) ((0 : Int), (0 : Int))).bind fun x_25 =>
            some (((((((x_3.2 == (0 : Int)) && ((x_3.1.1 == x_24.1) && (x_3.1.2 == x_24.2))) && (x_21.2 == (0 : Int))) && ((x_3.1.1 == x_21.1.1) && (x_3.1.2 == x_21.1.2))) && (x_23.2 == (0 : Int))) && ((x_23.1.1 == x_25.1) && (x_23.1.2 == x_25.2))))
        else
          bif (x_4 != (0 : Int)) then
            some (((x_3.2 == x_4) && ((x_3.1.1 == (0 : Int)) && (x_3.1.2 == (0 : Int)))))
          else
            (s26 n (p.1, (p.2.1, (p.2.2.1, p.2.2.2)))).bind fun x_26 =>
            (s47 n (x_26.1, (x_26.2.1, (x_26.2.2.1, x_26.2.2.2))) b a).bind fun x_27 =>
            (s26 n (p.1, (p.2.1, (p.2.2.1, p.2.2.2)))).bind fun x_28 =>
            (s47 n (x_28.1, (x_28.2.1, (x_28.2.2.1, x_28.2.2.2))) a a).bind fun x_29 =>
            (part (x_3.2 == (0 : Int)) (s48 n (p.1, (p.2.1, (p.2.2.1, p.2.2.2))) a b) ((0 : Int), (0 : Int))).bind fun x_30 =>
            (part (((((x_3.2 == (0 : Int)) && ((x_3.1.1 == x_30.1) && (x_3.1.2 == x_30.2))) && (x_27.2 == (0 : Int))) && ((x_3.1.1 == x_27.1.1) && (x_3.1.2 == x_27.1.2))) && (x_29.2 == (0 : Int))) (s49 n (1 : Int)) ((0 : Int), (0 : Int))).bind fun x_31 =>
            some (((((((x_3.2 == (0 : Int)) && ((x_3.1.1 == x_30.1) && (x_3.1.2 == x_30.2))) && (x_27.2 == (0 : Int))) && ((x_3.1.1 == x_27.1.1) && (x_3.1.2 == x_27.1.2))) && (x_29.2 == (0 : Int))) && ((x_29.1.1 == x_31.1) && (x_29.1.2 == x_31.2))))

def s8_c (n : Nat) : Con := ⟨[(.pair (.int .i64) (.pair (.int .i64) (.pair (.slice (.int .i64)) (.slice (.slice (.int .i64)))))), (.int .i64), (.int .i64)], [], [.bool], fun x y => s8 n x.1 x.2.1 x.2.2, false⟩
theorem s8_eq (n : Nat) (x : denL [(.pair (.int .i64) (.pair (.int .i64) (.pair (.slice (.int .i64)) (.slice (.slice (.int .i64)))))), (.int .i64), (.int .i64)]) (y : denL []) : funR (e91 n) Go.Proofs.Try.f8 [(.pair (.int .i64) (.pair (.int .i64) (.pair (.slice (.int .i64)) (.slice (.slice (.int .i64)))))), (.int .i64), (.int .i64)] [] [.bool] false [] x y = (s8_c n).fn x y := by kernel_rfl
theorem s8_ok (n : Nat) : ConOK Go.Proofs.Try.prog 8 (s8_c n) := func_ok (h91 n) hP Go.Proofs.Try.func8 (by kernel_rfl) (by kernel_rfl) (O := []) trivial (s8_eq n)
def e92 (n : Nat) : Env := ⟨gT, (8, s8_c n) :: (e91 n).C, gQ, (e91 n).I, (e91 n).M⟩
theorem h92 (n : Nat) : EnvOK Go.Proofs.Try.prog (e92 n) := env_add (h91 n) (s8_ok n)

/-- criadera/taste.shareErr -/
def s109 (n : Nat) (f : Int × Int) : Option (Int) :=
  (part (!(decide (f.2 < (1 : Int)))) (s105 n f.1 f.2) (0 : Int)).bind fun x =>
  bif ((decide (f.2 < (1 : Int))) || (x != (1 : Int))) then
    some ((3 : Int))
  else
    (s82 n f.1 (0 : Int) f.2).bind fun x_1 =>
    (s81 n (x_1 && (decide (f.2 ≤ (1000000000 : Int)))) (2 : Int)).bind fun x_2 =>
    some (x_2)

def s109_c (n : Nat) : Con := ⟨[(.pair (.int .i64) (.int .i64))], [], [(.int .i64)], fun x y => s109 n x, false⟩
theorem s109_eq (n : Nat) (x : denL [(.pair (.int .i64) (.int .i64))]) (y : denL []) : funR (e92 n) Go.Proofs.Try.f109 [(.pair (.int .i64) (.int .i64))] [] [(.int .i64)] false [] x y = (s109_c n).fn x y := by kernel_rfl
theorem s109_ok (n : Nat) : ConOK Go.Proofs.Try.prog 109 (s109_c n) := func_ok (h92 n) hP Go.Proofs.Try.func109 (by kernel_rfl) (by kernel_rfl) (O := []) trivial (s109_eq n)
def e93 (n : Nat) : Env := ⟨gT, (109, s109_c n) :: (e92 n).C, gQ, (e92 n).I, (e92 n).M⟩
theorem h93 (n : Nat) : EnvOK Go.Proofs.Try.prog (e93 n) := env_add (h92 n) (s109_ok n)

def s110_l0 (n : Nat) (d : Int × Int × Int × Int × (List Int) × (List (List Int)) × Int × Int × (List Int) × Unit) (again : (Int × Int × Int × Int × (List Int) × (List (List Int)) × Int × Int × (List Int) × Unit) → Option ((List Int))) (ks : ((List Int) × Unit → Option ((List Int))) × Unit) : Option ((List Int)) :=
  match d, ks with
  | (t11, t12, p, p_1, p_2, p_3, least, least_1, out, _), (k0, _) =>
  bif (decide (t12 < t11)) then
    (s91 n (p, (p_1, (p_2, p_3))) t12).bind fun x =>
    bif (decide ((IntKind.wrap .i64 (x.1 * least_1)) ≥ (IntKind.wrap .i64 (least * x.2)))) then
      (chk (List.length out + List.length ([t12] : List Int))).bind fun u =>
      again (t11, (IntKind.wrap .i64 (t12 + (1 : Int))), p, p_1, p_2, p_3, least, least_1, (out ++ ([t12] : List Int)), ())
    else
      again (t11, (IntKind.wrap .i64 (t12 + (1 : Int))), p, p_1, p_2, p_3, least, least_1, out, ())
  else
    k0 (out, ())

/-- (criadera/taste.panel).steadiest -/
def s110 (n : Nat) (p : Int × Int × (List Int) × (List (List Int))) (least : Int × Int) : Option ((List Int)) :=
  loopG (s110_l0 n) n (((List.length p.2.2.2 : Nat) : Int), (0 : Int), p.1, p.2.1, p.2.2.1, p.2.2.2, least.1, least.2, ([] : List Int), ())
    (fun (out_1, _) =>
      some (out_1), ())

def s110_t0 : Templ := ⟨35, [(.int .i64), (.int .i64), (.int .i64), (.int .i64), (.slice (.int .i64)), (.slice (.slice (.int .i64))), (.int .i64), (.int .i64), (.slice (.int .i64))], [(2, .v (.bptr 35 0)), (3, .v (.bptr 36 0)), (5, .v (.hand 37)), (11, .v (.hole (.int .i64))), (12, .v (.hole (.int .i64)))], [(35, .box (.pair (.int .i64) (.pair (.int .i64) (.pair (.slice (.int .i64)) (.slice (.slice (.int .i64)))))) [.hole (.int .i64), .hole (.int .i64), .hole (.slice (.int .i64)), .hole (.slice (.slice (.int .i64)))]), (36, .box (.pair (.int .i64) (.int .i64)) [.hole (.int .i64), .hole (.int .i64)]), (37, .buf (.int .i64))], []⟩
def s110_x0 : List (Way × Templ) := [(.exit 0, ⟨35, [(.slice (.int .i64))], [(5, .v (.hand 35))], [(35, .buf (.int .i64))], []⟩)]
def s110_o0 (n : Nat) : Ev (denL [(.slice (.int .i64))]) := loopO n (e93 n) s110_t0 s110_x0 (s110_l0 n)
theorem s110_b0 (n : Nat) (d) (again) (ks) : codeR (R := (denL [(.slice (.int .i64))])) (e93 n) (Hdl.no (R := (denL [(.slice (.int .i64))]))) (inn (lp (bd Go.Proofs.Try.f110) 0)) [] (mk s110_t0 d) (turnR (e93 n) s110_t0 s110_x0 again ks) = s110_l0 n d again ks := by kernel_rfl
theorem s110_s0 (n : Nat) : Sound Go.Proofs.Try.prog (Hdl.no (R := (denL [(.slice (.int .i64))]))) false (lp (bd Go.Proofs.Try.f110) 0) (s110_o0 n) := loop_ok (h93 n) hP (by kernel_rfl) (O := []) trivial (s110_b0 n)
def s110_c (n : Nat) : Con := ⟨[(.pair (.int .i64) (.pair (.int .i64) (.pair (.slice (.int .i64)) (.slice (.slice (.int .i64)))))), (.pair (.int .i64) (.int .i64))], [], [(.slice (.int .i64))], fun x y => s110 n x.1 x.2, false⟩
theorem s110_eq (n : Nat) (x : denL [(.pair (.int .i64) (.pair (.int .i64) (.pair (.slice (.int .i64)) (.slice (.slice (.int .i64)))))), (.pair (.int .i64) (.int .i64))]) (y : denL []) : funR (e93 n) Go.Proofs.Try.f110 [(.pair (.int .i64) (.pair (.int .i64) (.pair (.slice (.int .i64)) (.slice (.slice (.int .i64)))))), (.pair (.int .i64) (.int .i64))] [] [(.slice (.int .i64))] false [s110_o0 n] x y = (s110_c n).fn x y := by kernel_rfl
theorem s110_ok (n : Nat) : ConOK Go.Proofs.Try.prog 110 (s110_c n) := func_ok (h93 n) hP Go.Proofs.Try.func110 (by kernel_rfl) (by kernel_rfl) (O := [s110_o0 n]) ⟨s110_s0 n, trivial⟩ (s110_eq n)
def e94 (n : Nat) : Env := ⟨gT, (110, s110_c n) :: (e93 n).C, gQ, (e93 n).I, (e93 n).M⟩
theorem h94 (n : Nat) : EnvOK Go.Proofs.Try.prog (e94 n) := env_add (h93 n) (s110_ok n)

/-- criadera/taste.Steadiest -/
def s51 (n : Nat) (p : Int × Int × (List Int) × (List (List Int))) (least : Int × Int) : Option ((List Int) × Int) :=
  (s89 n (p.1, (p.2.1, (p.2.2.1, p.2.2.2)))).bind fun x =>
  (s109 n (least.1, least.2)).bind fun x_1 =>
  (s80 n ([x.2, x_1] : List Int)).bind fun x_2 =>
  bif (x_2 != (0 : Int)) then
    some (([] : List Int), x_2)
  else
    (s110 n (x.1.1, (x.1.2.1, (x.1.2.2.1, x.1.2.2.2))) (least.1, least.2)).bind fun x_3 =>
    some (x_3, (0 : Int))

def s51_c (n : Nat) : Con := ⟨[(.pair (.int .i64) (.pair (.int .i64) (.pair (.slice (.int .i64)) (.slice (.slice (.int .i64)))))), (.pair (.int .i64) (.int .i64))], [], [(.slice (.int .i64)), (.int .i64)], fun x y => s51 n x.1 x.2, false⟩
theorem s51_eq (n : Nat) (x : denL [(.pair (.int .i64) (.pair (.int .i64) (.pair (.slice (.int .i64)) (.slice (.slice (.int .i64)))))), (.pair (.int .i64) (.int .i64))]) (y : denL []) : funR (e94 n) Go.Proofs.Try.f51 [(.pair (.int .i64) (.pair (.int .i64) (.pair (.slice (.int .i64)) (.slice (.slice (.int .i64)))))), (.pair (.int .i64) (.int .i64))] [] [(.slice (.int .i64)), (.int .i64)] false [] x y = (s51_c n).fn x y := by kernel_rfl
theorem s51_ok (n : Nat) : ConOK Go.Proofs.Try.prog 51 (s51_c n) := func_ok (h94 n) hP Go.Proofs.Try.func51 (by kernel_rfl) (by kernel_rfl) (O := []) trivial (s51_eq n)
def e95 (n : Nat) : Env := ⟨gT, (51, s51_c n) :: (e94 n).C, gQ, (e94 n).I, (e94 n).M⟩
theorem h95 (n : Nat) : EnvOK Go.Proofs.Try.prog (e95 n) := env_add (h94 n) (s51_ok n)

def s53_l0_0 (n : Nat) (d : (List Int) × Int × Int × Int × Int × (List Int) × (List (List Int)) × Int × Int × Int × Int × Unit) (again : ((List Int) × Int × Int × Int × Int × (List Int) × (List (List Int)) × Int × Int × Int × Int × Unit) → Option ((Int × Int))) (ks : ((List Int) × Int × Int × Int × (List Int) × (List (List Int)) × Int × Int × Int × Int × Unit → Option ((Int × Int))) × Unit) : Option ((Int × Int)) :=
  match d, ks with
  | (l, i, v_k, p, p_1, p_2, p_3, t4, t4_1, out, out_1, _), (k0, _) =>
  bif (decide (v_k < ((List.length l : Nat) : Int))) then
    (geti p_2 i).bind fun e =>
    (geti p_2 v_k).bind fun e_1 =>
    bif (e != e_1) then
      again (l, i, (IntKind.wrap .i64 (v_k + (1 : Int))), p, p_1, p_2, p_3, t4, t4_1, out, out_1, ())
    else
      (geti l i).bind fun e_2 =>
      (geti l v_k).bind fun e_3 =>
      bif (e_2 == e_3) then
        again (l, i, (IntKind.wrap .i64 (v_k + (1 : Int))), p, p_1, p_2, p_3, t4, t4_1, (IntKind.wrap .i64 (out + (1 : Int))), (IntKind.wrap .i64 (out_1 + (1 : Int))), ())
      else
        again (l, i, (IntKind.wrap .i64 (v_k + (1 : Int))), p, p_1, p_2, p_3, t4, t4_1, out, (IntKind.wrap .i64 (out_1 + (1 : Int))), ())
  else
    k0 (l, i, p, p_1, p_2, p_3, t4, t4_1, out, out_1, ())

def s53_l0 (n : Nat) (d : (List Int) × Int × Int × Int × (List Int) × (List (List Int)) × Int × Int × Int × Int × Unit) (again : ((List Int) × Int × Int × Int × (List Int) × (List (List Int)) × Int × Int × Int × Int × Unit) → Option ((Int × Int))) (ks : (Int × Int × Int × Int × Unit → Option ((Int × Int))) × Unit) : Option ((Int × Int)) :=
  match d, ks with
  | (l, i, p, p_1, p_2, p_3, t4, t4_1, out, out_1, _), (k0, _) =>
  bif (decide (i < ((List.length l : Nat) : Int))) then
    loopG (s53_l0_0 n) n (l, i, (IntKind.wrap .i64 (i + (1 : Int))), p, p_1, p_2, p_3, t4, t4_1, out, out_1, ())
      (fun (l_2, i_2, p_8, p_9, p_10, p_11, t4_4, t4_5, out_4, out_5, _) =>
        again (l_2, (IntKind.wrap .i64 (i_2 + (1 : Int))), p_8, p_9, p_10, p_11, t4_4, t4_5, out_4, out_5, ()), ())
  else
    k0 (t4, t4_1, out, out_1, ())

/-- criadera/criaderaref07.SteadyOf -/
def s53 (n : Nat) (p : Int × Int × (List Int) × (List (List Int))) (taster : Int) : Option ((Int × Int)) :=
  (geti p.2.2.2 taster).bind fun e =>
  loopG (s53_l0 n) n (e, (0 : Int), p.1, p.2.1, p.2.2.1, p.2.2.2, (0 : Int), (0 : Int), (0 : Int), (0 : Int), ())
    (fun (t4_6, t4_7, out_6, out_7, _) =>
      some ((out_6, out_7)), ())

def s53_t0_0 : Templ := ⟨57, [(.slice (.int .i64)), (.int .i64), (.int .i64), (.int .i64), (.int .i64), (.slice (.int .i64)), (.slice (.slice (.int .i64))), (.int .i64), (.int .i64), (.int .i64), (.int .i64)], [(2, .v (.bptr 57 0)), (4, .v (.bptr 58 0)), (5, .v (.bptr 59 0)), (6, .v (.hole (.slice (.int .i64)))), (7, .v (.hole (.int .i64))), (8, .v (.hole (.int .i64)))], [(57, .box (.pair (.int .i64) (.pair (.int .i64) (.pair (.slice (.int .i64)) (.slice (.slice (.int .i64)))))) [.hole (.int .i64), .hole (.int .i64), .hole (.slice (.int .i64)), .hole (.slice (.slice (.int .i64)))]), (58, .box (.pair (.int .i64) (.int .i64)) [.hole (.int .i64), .hole (.int .i64)]), (59, .box (.pair (.int .i64) (.int .i64)) [.hole (.int .i64), .hole (.int .i64)])], []⟩
def s53_x0_0 : List (Way × Templ) := [(.exit 2, ⟨57, [(.slice (.int .i64)), (.int .i64), (.int .i64), (.int .i64), (.slice (.int .i64)), (.slice (.slice (.int .i64))), (.int .i64), (.int .i64), (.int .i64), (.int .i64)], [(2, .v (.bptr 57 0)), (4, .v (.bptr 58 0)), (5, .v (.bptr 59 0)), (6, .v (.hole (.slice (.int .i64)))), (7, .v (.hole (.int .i64)))], [(57, .box (.pair (.int .i64) (.pair (.int .i64) (.pair (.slice (.int .i64)) (.slice (.slice (.int .i64)))))) [.hole (.int .i64), .hole (.int .i64), .hole (.slice (.int .i64)), .hole (.slice (.slice (.int .i64)))]), (58, .box (.pair (.int .i64) (.int .i64)) [.hole (.int .i64), .hole (.int .i64)]), (59, .box (.pair (.int .i64) (.int .i64)) [.hole (.int .i64), .hole (.int .i64)])], []⟩)]
def s53_o0_0 (n : Nat) : Ev (denL [(.pair (.int .i64) (.int .i64))]) := loopO n (e95 n) s53_t0_0 s53_x0_0 (s53_l0_0 n)
theorem s53_b0_0 (n : Nat) (d) (again) (ks) : codeR (R := (denL [(.pair (.int .i64) (.int .i64))])) (e95 n) (Hdl.no (R := (denL [(.pair (.int .i64) (.int .i64))]))) (inn (lp (inn (lp (bd Go.Proofs.Try.f53) 0)) 0)) [] (mk s53_t0_0 d) (turnR (e95 n) s53_t0_0 s53_x0_0 again ks) = s53_l0_0 n d again ks := by kernel_rfl
theorem s53_s0_0 (n : Nat) : Sound Go.Proofs.Try.prog (Hdl.no (R := (denL [(.pair (.int .i64) (.int .i64))]))) false (lp (inn (lp (bd Go.Proofs.Try.f53) 0)) 0) (s53_o0_0 n) := loop_ok (h95 n) hP (by kernel_rfl) (O := []) trivial (s53_b0_0 n)
def s53_t0 : Templ := ⟨57, [(.slice (.int .i64)), (.int .i64), (.int .i64), (.int .i64), (.slice (.int .i64)), (.slice (.slice (.int .i64))), (.int .i64), (.int .i64), (.int .i64), (.int .i64)], [(2, .v (.bptr 57 0)), (4, .v (.bptr 58 0)), (5, .v (.bptr 59 0)), (6, .v (.hole (.slice (.int .i64)))), (7, .v (.hole (.int .i64)))], [(57, .box (.pair (.int .i64) (.pair (.int .i64) (.pair (.slice (.int .i64)) (.slice (.slice (.int .i64)))))) [.hole (.int .i64), .hole (.int .i64), .hole (.slice (.int .i64)), .hole (.slice (.slice (.int .i64)))]), (58, .box (.pair (.int .i64) (.int .i64)) [.hole (.int .i64), .hole (.int .i64)]), (59, .box (.pair (.int .i64) (.int .i64)) [.hole (.int .i64), .hole (.int .i64)])], []⟩
def s53_x0 : List (Way × Templ) := [(.exit 0, ⟨57, [(.int .i64), (.int .i64), (.int .i64), (.int .i64)], [(4, .v (.bptr 57 0)), (5, .v (.bptr 58 0))], [(57, .box (.pair (.int .i64) (.int .i64)) [.hole (.int .i64), .hole (.int .i64)]), (58, .box (.pair (.int .i64) (.int .i64)) [.hole (.int .i64), .hole (.int .i64)])], []⟩)]
def s53_o0 (n : Nat) : Ev (denL [(.pair (.int .i64) (.int .i64))]) := loopO n (e95 n) s53_t0 s53_x0 (s53_l0 n)
theorem s53_b0 (n : Nat) (d) (again) (ks) : codeR (R := (denL [(.pair (.int .i64) (.int .i64))])) (e95 n) (Hdl.no (R := (denL [(.pair (.int .i64) (.int .i64))]))) (inn (lp (bd Go.Proofs.Try.f53) 0)) [s53_o0_0 n] (mk s53_t0 d) (turnR (e95 n) s53_t0 s53_x0 again ks) = s53_l0 n d again ks := by kernel_rfl
theorem s53_s0 (n : Nat) : Sound Go.Proofs.Try.prog (Hdl.no (R := (denL [(.pair (.int .i64) (.int .i64))]))) false (lp (bd Go.Proofs.Try.f53) 0) (s53_o0 n) := loop_ok (h95 n) hP (by kernel_rfl) (O := [s53_o0_0 n]) ⟨s53_s0_0 n, trivial⟩ (s53_b0 n)
def s53_c (n : Nat) : Con := ⟨[(.pair (.int .i64) (.pair (.int .i64) (.pair (.slice (.int .i64)) (.slice (.slice (.int .i64)))))), (.int .i64)], [], [(.pair (.int .i64) (.int .i64))], fun x y => s53 n x.1 x.2, false⟩
theorem s53_eq (n : Nat) (x : denL [(.pair (.int .i64) (.pair (.int .i64) (.pair (.slice (.int .i64)) (.slice (.slice (.int .i64)))))), (.int .i64)]) (y : denL []) : funR (e95 n) Go.Proofs.Try.f53 [(.pair (.int .i64) (.pair (.int .i64) (.pair (.slice (.int .i64)) (.slice (.slice (.int .i64)))))), (.int .i64)] [] [(.pair (.int .i64) (.int .i64))] false [s53_o0 n] x y = (s53_c n).fn x y := by kernel_rfl
theorem s53_ok (n : Nat) : ConOK Go.Proofs.Try.prog 53 (s53_c n) := func_ok (h95 n) hP Go.Proofs.Try.func53 (by kernel_rfl) (by kernel_rfl) (O := [s53_o0 n]) ⟨s53_s0 n, trivial⟩ (s53_eq n)
def e96 (n : Nat) : Env := ⟨gT, (53, s53_c n) :: (e95 n).C, gQ, (e95 n).I, (e95 n).M⟩
theorem h96 (n : Nat) : EnvOK Go.Proofs.Try.prog (e96 n) := env_add (h95 n) (s53_ok n)

/-- criadera/criaderabase.IsLowest -/
def s111 (n : Nat) (f : Int × Int) : Option (Bool) :=
  (part (decide (f.2 > (0 : Int))) (s133 n f.1 f.2) (0 : Int)).bind fun x =>
  some (((decide (f.2 > (0 : Int))) && (x == (1 : Int))))

def s111_c (n : Nat) : Con := ⟨[(.pair (.int .i64) (.int .i64))], [], [.bool], fun x y => s111 n x, false⟩
theorem s111_eq (n : Nat) (x : denL [(.pair (.int .i64) (.int .i64))]) (y : denL []) : funR (e96 n) Go.Proofs.Try.f111 [(.pair (.int .i64) (.int .i64))] [] [.bool] false [] x y = (s111_c n).fn x y := by kernel_rfl
theorem s111_ok (n : Nat) : ConOK Go.Proofs.Try.prog 111 (s111_c n) := func_ok (h96 n) hP Go.Proofs.Try.func111 (by kernel_rfl) (by kernel_rfl) (O := []) trivial (s111_eq n)
def e97 (n : Nat) : Env := ⟨gT, (111, s111_c n) :: (e96 n).C, gQ, (e96 n).I, (e96 n).M⟩
theorem h97 (n : Nat) : EnvOK Go.Proofs.Try.prog (e97 n) := env_add (h96 n) (s111_ok n)

/-- criadera/criaderaref07.ShareErr -/
def s54 (n : Nat) (f : Int × Int) : Option (Int) :=
  (s111 n (f.1, f.2)).bind fun x =>
  bif (!x) then
    some ((3 : Int))
  else
    bif (((decide (f.1 < (0 : Int))) || (decide (f.1 > f.2))) || (decide (f.2 > (1000000000 : Int)))) then
      some ((2 : Int))
    else
      some ((0 : Int))

def s54_c (n : Nat) : Con := ⟨[(.pair (.int .i64) (.int .i64))], [], [(.int .i64)], fun x y => s54 n x, false⟩
theorem s54_eq (n : Nat) (x : denL [(.pair (.int .i64) (.int .i64))]) (y : denL []) : funR (e97 n) Go.Proofs.Try.f54 [(.pair (.int .i64) (.int .i64))] [] [(.int .i64)] false [] x y = (s54_c n).fn x y := by kernel_rfl
theorem s54_ok (n : Nat) : ConOK Go.Proofs.Try.prog 54 (s54_c n) := func_ok (h97 n) hP Go.Proofs.Try.func54 (by kernel_rfl) (by kernel_rfl) (O := []) trivial (s54_eq n)
def e98 (n : Nat) : Env := ⟨gT, (54, s54_c n) :: (e97 n).C, gQ, (e97 n).I, (e97 n).M⟩
theorem h98 (n : Nat) : EnvOK Go.Proofs.Try.prog (e98 n) := env_add (h97 n) (s54_ok n)

def s55_l0 (n : Nat) (d : Int × Int × Int × (List Int) × (List (List Int)) × Int × Int × (List Int) × Unit) (again : (Int × Int × Int × (List Int) × (List (List Int)) × Int × Int × (List Int) × Unit) → Option ((List Int))) (ks : ((List Int) × Unit → Option ((List Int))) × Unit) : Option ((List Int)) :=
  match d, ks with
  | (i, p, p_1, p_2, p_3, least, least_1, out, _), (k0, _) =>
  bif (decide (i < ((List.length p_3 : Nat) : Int))) then
    (s53 n (p, (p_1, (p_2, p_3))) i).bind fun x =>
    bif (decide ((IntKind.wrap .i64 (x.1 * least_1)) ≥ (IntKind.wrap .i64 (least * x.2)))) then
      (chk (List.length out + List.length ([i] : List Int))).bind fun u =>
      again ((IntKind.wrap .i64 (i + (1 : Int))), p, p_1, p_2, p_3, least, least_1, (out ++ ([i] : List Int)), ())
    else
      again ((IntKind.wrap .i64 (i + (1 : Int))), p, p_1, p_2, p_3, least, least_1, out, ())
  else
    k0 (out, ())

/-- criadera/criaderaref07.Steadiest -/
def s55 (n : Nat) (p : Int × Int × (List Int) × (List (List Int))) (least : Int × Int) : Option ((List Int)) :=
  loopG (s55_l0 n) n ((0 : Int), p.1, p.2.1, p.2.2.1, p.2.2.2, least.1, least.2, ([] : List Int), ())
    (fun (out_1, _) =>
      some (out_1), ())

def s55_t0 : Templ := ⟨34, [(.int .i64), (.int .i64), (.int .i64), (.slice (.int .i64)), (.slice (.slice (.int .i64))), (.int .i64), (.int .i64), (.slice (.int .i64))], [(2, .v (.bptr 34 0)), (3, .v (.bptr 35 0)), (5, .v (.hand 36)), (6, .v (.hole (.int .i64)))], [(34, .box (.pair (.int .i64) (.pair (.int .i64) (.pair (.slice (.int .i64)) (.slice (.slice (.int .i64)))))) [.hole (.int .i64), .hole (.int .i64), .hole (.slice (.int .i64)), .hole (.slice (.slice (.int .i64)))]), (35, .box (.pair (.int .i64) (.int .i64)) [.hole (.int .i64), .hole (.int .i64)]), (36, .buf (.int .i64))], []⟩
def s55_x0 : List (Way × Templ) := [(.exit 0, ⟨34, [(.slice (.int .i64))], [(5, .v (.hand 34))], [(34, .buf (.int .i64))], []⟩)]
def s55_o0 (n : Nat) : Ev (denL [(.slice (.int .i64))]) := loopO n (e98 n) s55_t0 s55_x0 (s55_l0 n)
theorem s55_b0 (n : Nat) (d) (again) (ks) : codeR (R := (denL [(.slice (.int .i64))])) (e98 n) (Hdl.no (R := (denL [(.slice (.int .i64))]))) (inn (lp (bd Go.Proofs.Try.f55) 0)) [] (mk s55_t0 d) (turnR (e98 n) s55_t0 s55_x0 again ks) = s55_l0 n d again ks := by kernel_rfl
theorem s55_s0 (n : Nat) : Sound Go.Proofs.Try.prog (Hdl.no (R := (denL [(.slice (.int .i64))]))) false (lp (bd Go.Proofs.Try.f55) 0) (s55_o0 n) := loop_ok (h98 n) hP (by kernel_rfl) (O := []) trivial (s55_b0 n)
def s55_c (n : Nat) : Con := ⟨[(.pair (.int .i64) (.pair (.int .i64) (.pair (.slice (.int .i64)) (.slice (.slice (.int .i64)))))), (.pair (.int .i64) (.int .i64))], [], [(.slice (.int .i64))], fun x y => s55 n x.1 x.2, false⟩
theorem s55_eq (n : Nat) (x : denL [(.pair (.int .i64) (.pair (.int .i64) (.pair (.slice (.int .i64)) (.slice (.slice (.int .i64)))))), (.pair (.int .i64) (.int .i64))]) (y : denL []) : funR (e98 n) Go.Proofs.Try.f55 [(.pair (.int .i64) (.pair (.int .i64) (.pair (.slice (.int .i64)) (.slice (.slice (.int .i64)))))), (.pair (.int .i64) (.int .i64))] [] [(.slice (.int .i64))] false [s55_o0 n] x y = (s55_c n).fn x y := by kernel_rfl
theorem s55_ok (n : Nat) : ConOK Go.Proofs.Try.prog 55 (s55_c n) := func_ok (h98 n) hP Go.Proofs.Try.func55 (by kernel_rfl) (by kernel_rfl) (O := [s55_o0 n]) ⟨s55_s0 n, trivial⟩ (s55_eq n)
def e99 (n : Nat) : Env := ⟨gT, (55, s55_c n) :: (e98 n).C, gQ, (e98 n).I, (e98 n).M⟩
theorem h99 (n : Nat) : EnvOK Go.Proofs.Try.prog (e99 n) := env_add (h98 n) (s55_ok n)

/-- criadera/criaderalaw07.TastePanels -/
def s9 (n : Nat) (p : Int × Int × (List Int) × (List (List Int))) (taster : Int) (least : Int × Int) : Option (Bool) :=
  (s15 n).bind fun x =>
  bif (!x) then
    some (false)
  else
    (s24 n (p.1, (p.2.1, (p.2.2.1, p.2.2.2)))).bind fun x_1 =>
    bif (!x_1) then
      some (true)
    else
      (s26 n (p.1, (p.2.1, (p.2.2.1, p.2.2.2)))).bind fun x_2 =>
      (s50 n (x_2.1, (x_2.2.1, (x_2.2.2.1, x_2.2.2.2)))).bind fun x_3 =>
      (s26 n (p.1, (p.2.1, (p.2.2.1, p.2.2.2)))).bind fun x_4 =>
      (s35 n (x_4.1, (x_4.2.1, (x_4.2.2.1, x_4.2.2.2))) taster).bind fun x_5 =>
      (s26 n (p.1, (p.2.1, (p.2.2.1, p.2.2.2)))).bind fun x_6 =>
      (s51 n (x_6.1, (x_6.2.1, (x_6.2.2.1, x_6.2.2.2))) (least.1, least.2)).bind fun x_7 =>
      (s52 n (p.1, (p.2.1, (p.2.2.1, p.2.2.2)))).bind fun x_8 =>
      bif ((x_3.2 != x_8.2) || (x_3.1 != x_8.1)) then
        some (false)
      else
        bif (x_8.2 != (0 : Int)) then
          some (((((x_5.2 == x_8.2) && (x_7.2 == x_8.2)) && ((x_5.1.1 == (0 : Int)) && (x_5.1.2 == (0 : Int)))) && (((List.length x_7.1 : Nat) : Int) == (0 : Int))))
        else
          (s30 n taster ((List.length p.2.2.2 : Nat) : Int)).bind fun x_9 =>
          (part (((!((x_9 != (0 : Int)) && ((x_5.2 != x_9) || (!((x_5.1.1 == (0 : Int)) && (x_5.1.2 == (0 : Int))))))) && (x_9 == (0 : Int))) && (!(x_5.2 != (0 : Int)))) (s53 n (p.1, (p.2.1, (p.2.2.1, p.2.2.2))) taster) ((0 : Int), (0 : Int))).bind fun x_10 =>
          bif (((x_9 != (0 : Int)) && ((x_5.2 != x_9) || (!((x_5.1.1 == (0 : Int)) && (x_5.1.2 == (0 : Int)))))) || ((x_9 == (0 : Int)) && ((x_5.2 != (0 : Int)) || (!((x_5.1.1 == x_10.1) && (x_5.1.2 == x_10.2)))))) then
            some (false)
          else
            (s54 n (least.1, least.2)).bind fun x_11 =>
            bif (x_11 != (0 : Int)) then
              some (((x_7.2 == x_11) && (((List.length x_7.1 : Nat) : Int) == (0 : Int))))
            else
              (part (x_7.2 == (0 : Int)) (s55 n (p.1, (p.2.1, (p.2.2.1, p.2.2.2))) (least.1, least.2)) []).bind fun x_12 =>
              (part (x_7.2 == (0 : Int)) (s32 n x_7.1 x_12) false).bind fun x_13 =>
              some (((x_7.2 == (0 : Int)) && x_13))

def s9_c (n : Nat) : Con := ⟨[(.pair (.int .i64) (.pair (.int .i64) (.pair (.slice (.int .i64)) (.slice (.slice (.int .i64)))))), (.int .i64), (.pair (.int .i64) (.int .i64))], [], [.bool], fun x y => s9 n x.1 x.2.1 x.2.2, false⟩
theorem s9_eq (n : Nat) (x : denL [(.pair (.int .i64) (.pair (.int .i64) (.pair (.slice (.int .i64)) (.slice (.slice (.int .i64)))))), (.int .i64), (.pair (.int .i64) (.int .i64))]) (y : denL []) : funR (e99 n) Go.Proofs.Try.f9 [(.pair (.int .i64) (.pair (.int .i64) (.pair (.slice (.int .i64)) (.slice (.slice (.int .i64)))))), (.int .i64), (.pair (.int .i64) (.int .i64))] [] [.bool] false [] x y = (s9_c n).fn x y := by kernel_rfl
theorem s9_ok (n : Nat) : ConOK Go.Proofs.Try.prog 9 (s9_c n) := func_ok (h99 n) hP Go.Proofs.Try.func9 (by kernel_rfl) (by kernel_rfl) (O := []) trivial (s9_eq n)
def e100 (n : Nat) : Env := ⟨gT, (9, s9_c n) :: (e99 n).C, gQ, (e99 n).I, (e99 n).M⟩
theorem h100 (n : Nat) : EnvOK Go.Proofs.Try.prog (e100 n) := env_add (h99 n) (s9_ok n)

def s56_l0 (n : Nat) (d : (List Int) × Int × Int × Int × Int × (List Int) × (List (List Int)) × (List Int) × Unit) (again : ((List Int) × Int × Int × Int × Int × (List Int) × (List (List Int)) × (List Int) × Unit) → Option ((List Int) × Int)) (ks : ((List Int) × Unit → Option ((List Int) × Int)) × Unit) : Option ((List Int) × Int) :=
  match d, ks with
  | (tasters, t28, t29, t6, t6_1, t6_2, t6_3, out, _), (k0, _) =>
  bif (decide (t29 < t28)) then
    (s88 n (t6, (t6_1, (t6_2, t6_3))) t29 tasters).bind fun x =>
    (chk (List.length out + List.length ([x] : List Int))).bind fun u =>
    again (tasters, t28, (IntKind.wrap .i64 (t29 + (1 : Int))), t6, t6_1, t6_2, t6_3, (out ++ ([x] : List Int)), ())
  else
    k0 (out, ())

/-- criadera/taste.Marked -/
def s56 (n : Nat) (p : Int × Int × (List Int) × (List (List Int))) (least : Int × Int) : Option ((List Int) × Int) :=
  (s89 n (p.1, (p.2.1, (p.2.2.1, p.2.2.2)))).bind fun x =>
  (s109 n (least.1, least.2)).bind fun x_1 =>
  (s80 n ([x.2, x_1] : List Int)).bind fun x_2 =>
  bif (x_2 != (0 : Int)) then
    some (([] : List Int), x_2)
  else
    (s110 n (x.1.1, (x.1.2.1, (x.1.2.2.1, x.1.2.2.2))) (least.1, least.2)).bind fun x_3 =>
    loopG (s56_l0 n) n (x_3, p.1, (0 : Int), x.1.1, x.1.2.1, x.1.2.2.1, x.1.2.2.2, ([] : List Int), ())
      (fun (out_1, _) =>
        some (out_1, (0 : Int)), ())

def s56_t0 : Templ := ⟨41, [(.slice (.int .i64)), (.int .i64), (.int .i64), (.int .i64), (.int .i64), (.slice (.int .i64)), (.slice (.slice (.int .i64))), (.slice (.int .i64))], [(6, .v (.bptr 41 0)), (8, .v (.hole (.slice (.int .i64)))), (9, .v (.hand 42)), (28, .v (.hole (.int .i64))), (29, .v (.hole (.int .i64)))], [(41, .box (.pair (.int .i64) (.pair (.int .i64) (.pair (.slice (.int .i64)) (.slice (.slice (.int .i64)))))) [.hole (.int .i64), .hole (.int .i64), .hole (.slice (.int .i64)), .hole (.slice (.slice (.int .i64)))]), (42, .buf (.int .i64))], []⟩
def s56_x0 : List (Way × Templ) := [(.exit 0, ⟨41, [(.slice (.int .i64))], [(9, .v (.hand 41))], [(41, .buf (.int .i64))], []⟩)]
def s56_o0 (n : Nat) : Ev (denL [(.slice (.int .i64)), (.int .i64)]) := loopO n (e100 n) s56_t0 s56_x0 (s56_l0 n)
theorem s56_b0 (n : Nat) (d) (again) (ks) : codeR (R := (denL [(.slice (.int .i64)), (.int .i64)])) (e100 n) (Hdl.no (R := (denL [(.slice (.int .i64)), (.int .i64)]))) (inn (lp (bd Go.Proofs.Try.f56) 0)) [] (mk s56_t0 d) (turnR (e100 n) s56_t0 s56_x0 again ks) = s56_l0 n d again ks := by kernel_rfl
theorem s56_s0 (n : Nat) : Sound Go.Proofs.Try.prog (Hdl.no (R := (denL [(.slice (.int .i64)), (.int .i64)]))) false (lp (bd Go.Proofs.Try.f56) 0) (s56_o0 n) := loop_ok (h100 n) hP (by kernel_rfl) (O := []) trivial (s56_b0 n)
def s56_c (n : Nat) : Con := ⟨[(.pair (.int .i64) (.pair (.int .i64) (.pair (.slice (.int .i64)) (.slice (.slice (.int .i64)))))), (.pair (.int .i64) (.int .i64))], [], [(.slice (.int .i64)), (.int .i64)], fun x y => s56 n x.1 x.2, false⟩
theorem s56_eq (n : Nat) (x : denL [(.pair (.int .i64) (.pair (.int .i64) (.pair (.slice (.int .i64)) (.slice (.slice (.int .i64)))))), (.pair (.int .i64) (.int .i64))]) (y : denL []) : funR (e100 n) Go.Proofs.Try.f56 [(.pair (.int .i64) (.pair (.int .i64) (.pair (.slice (.int .i64)) (.slice (.slice (.int .i64)))))), (.pair (.int .i64) (.int .i64))] [] [(.slice (.int .i64)), (.int .i64)] false [s56_o0 n] x y = (s56_c n).fn x y := by kernel_rfl
theorem s56_ok (n : Nat) : ConOK Go.Proofs.Try.prog 56 (s56_c n) := func_ok (h100 n) hP Go.Proofs.Try.func56 (by kernel_rfl) (by kernel_rfl) (O := [s56_o0 n]) ⟨s56_s0 n, trivial⟩ (s56_eq n)
def e101 (n : Nat) : Env := ⟨gT, (56, s56_c n) :: (e100 n).C, gQ, (e100 n).I, (e100 n).M⟩
theorem h101 (n : Nat) : EnvOK Go.Proofs.Try.prog (e101 n) := env_add (h100 n) (s56_ok n)

def s57_l0 (n : Nat) (d : (List Int) × Int × Int × Int × (List Int) × (List (List Int)) × (List Int) × Unit) (again : ((List Int) × Int × Int × Int × (List Int) × (List (List Int)) × (List Int) × Unit) → Option ((List Int))) (ks : ((List Int) × Unit → Option ((List Int))) × Unit) : Option ((List Int)) :=
  match d, ks with
  | (l, c, p, p_1, p_2, p_3, out, _), (k0, _) =>
  bif (decide (c < p)) then
    (s34 n (p, (p_1, (p_2, p_3))) c l).bind fun x =>
    (chk (List.length out + List.length ([x] : List Int))).bind fun u =>
    again (l, (IntKind.wrap .i64 (c + (1 : Int))), p, p_1, p_2, p_3, (out ++ ([x] : List Int)), ())
  else
    k0 (out, ())

/-- criadera/criaderaref07.Marked -/
def s57 (n : Nat) (p : Int × Int × (List Int) × (List (List Int))) (least : Int × Int) : Option ((List Int)) :=
  (s55 n (p.1, (p.2.1, (p.2.2.1, p.2.2.2))) (least.1, least.2)).bind fun x =>
  loopG (s57_l0 n) n (x, (0 : Int), p.1, p.2.1, p.2.2.1, p.2.2.2, ([] : List Int), ())
    (fun (out_1, _) =>
      some (out_1), ())

def s57_t0 : Templ := ⟨25, [(.slice (.int .i64)), (.int .i64), (.int .i64), (.int .i64), (.slice (.int .i64)), (.slice (.slice (.int .i64))), (.slice (.int .i64))], [(2, .v (.bptr 25 0)), (5, .v (.hand 26)), (6, .v (.hole (.slice (.int .i64)))), (7, .v (.hole (.int .i64)))], [(25, .box (.pair (.int .i64) (.pair (.int .i64) (.pair (.slice (.int .i64)) (.slice (.slice (.int .i64)))))) [.hole (.int .i64), .hole (.int .i64), .hole (.slice (.int .i64)), .hole (.slice (.slice (.int .i64)))]), (26, .buf (.int .i64))], []⟩
def s57_x0 : List (Way × Templ) := [(.exit 0, ⟨25, [(.slice (.int .i64))], [(5, .v (.hand 25))], [(25, .buf (.int .i64))], []⟩)]
def s57_o0 (n : Nat) : Ev (denL [(.slice (.int .i64))]) := loopO n (e101 n) s57_t0 s57_x0 (s57_l0 n)
theorem s57_b0 (n : Nat) (d) (again) (ks) : codeR (R := (denL [(.slice (.int .i64))])) (e101 n) (Hdl.no (R := (denL [(.slice (.int .i64))]))) (inn (lp (bd Go.Proofs.Try.f57) 0)) [] (mk s57_t0 d) (turnR (e101 n) s57_t0 s57_x0 again ks) = s57_l0 n d again ks := by kernel_rfl
theorem s57_s0 (n : Nat) : Sound Go.Proofs.Try.prog (Hdl.no (R := (denL [(.slice (.int .i64))]))) false (lp (bd Go.Proofs.Try.f57) 0) (s57_o0 n) := loop_ok (h101 n) hP (by kernel_rfl) (O := []) trivial (s57_b0 n)
def s57_c (n : Nat) : Con := ⟨[(.pair (.int .i64) (.pair (.int .i64) (.pair (.slice (.int .i64)) (.slice (.slice (.int .i64)))))), (.pair (.int .i64) (.int .i64))], [], [(.slice (.int .i64))], fun x y => s57 n x.1 x.2, false⟩
theorem s57_eq (n : Nat) (x : denL [(.pair (.int .i64) (.pair (.int .i64) (.pair (.slice (.int .i64)) (.slice (.slice (.int .i64)))))), (.pair (.int .i64) (.int .i64))]) (y : denL []) : funR (e101 n) Go.Proofs.Try.f57 [(.pair (.int .i64) (.pair (.int .i64) (.pair (.slice (.int .i64)) (.slice (.slice (.int .i64)))))), (.pair (.int .i64) (.int .i64))] [] [(.slice (.int .i64))] false [s57_o0 n] x y = (s57_c n).fn x y := by kernel_rfl
theorem s57_ok (n : Nat) : ConOK Go.Proofs.Try.prog 57 (s57_c n) := func_ok (h101 n) hP Go.Proofs.Try.func57 (by kernel_rfl) (by kernel_rfl) (O := [s57_o0 n]) ⟨s57_s0 n, trivial⟩ (s57_eq n)
def e102 (n : Nat) : Env := ⟨gT, (57, s57_c n) :: (e101 n).C, gQ, (e101 n).I, (e101 n).M⟩
theorem h102 (n : Nat) : EnvOK Go.Proofs.Try.prog (e102 n) := env_add (h101 n) (s57_ok n)

/-- criadera/criaderabase.Cmp -/
def s58 (n : Nat) (a : Int × Int) (b : Int × Int) : Option (Int) :=
  bif (decide ((IntKind.wrap .i64 (a.1 * b.2)) < (IntKind.wrap .i64 (b.1 * a.2)))) then
    some ((-1 : Int))
  else
    bif (decide ((IntKind.wrap .i64 (a.1 * b.2)) > (IntKind.wrap .i64 (b.1 * a.2)))) then
      some ((1 : Int))
    else
      some ((0 : Int))

def s58_c (n : Nat) : Con := ⟨[(.pair (.int .i64) (.int .i64)), (.pair (.int .i64) (.int .i64))], [], [(.int .i64)], fun x y => s58 n x.1 x.2, false⟩
theorem s58_eq (n : Nat) (x : denL [(.pair (.int .i64) (.int .i64)), (.pair (.int .i64) (.int .i64))]) (y : denL []) : funR (e102 n) Go.Proofs.Try.f58 [(.pair (.int .i64) (.int .i64)), (.pair (.int .i64) (.int .i64))] [] [(.int .i64)] false [] x y = (s58_c n).fn x y := by kernel_rfl
theorem s58_ok (n : Nat) : ConOK Go.Proofs.Try.prog 58 (s58_c n) := func_ok (h102 n) hP Go.Proofs.Try.func58 (by kernel_rfl) (by kernel_rfl) (O := []) trivial (s58_eq n)
def e103 (n : Nat) : Env := ⟨gT, (58, s58_c n) :: (e102 n).C, gQ, (e102 n).I, (e102 n).M⟩
theorem h103 (n : Nat) : EnvOK Go.Proofs.Try.prog (e103 n) := env_add (h102 n) (s58_ok n)

def s59_l0 (n : Nat) (d : (List Int) × Int × Int × Unit) (again : ((List Int) × Int × Int × Unit) → Option (Bool)) (ks : (Unit → Option (Bool)) × (Bool × Unit → Option (Bool)) × Unit) : Option (Bool) :=
  match d, ks with
  | (l, v_n, i, _), (k0, k1, _) =>
  bif (decide (i < ((List.length l : Nat) : Int))) then
    (geti l i).bind fun e =>
    bif (e == v_n) then
      k1 (true, ())
    else
      again (l, v_n, (IntKind.wrap .i64 (i + (1 : Int))), ())
  else
    k0 (())

/-- criadera/criaderabase.Has -/
def s59 (n : Nat) (l : List Int) (v_n : Int) : Option (Bool) :=
  loopG (s59_l0 n) n (l, v_n, (0 : Int), ())
    (fun (_) =>
      some (false),
    fun (t4, _) =>
      some (t4), ())

def s59_t0 : Templ := ⟨18, [(.slice (.int .i64)), (.int .i64), (.int .i64)], [(0, .v (.hole (.slice (.int .i64)))), (1, .v (.hole (.int .i64))), (5, .v (.hole (.int .i64)))], [], []⟩
def s59_x0 : List (Way × Templ) := [(.exit 0, ⟨18, [], [], [], []⟩), (.ret, ⟨18, [.bool], [(4, .v (.hole .bool))], [], []⟩)]
def s59_o0 (n : Nat) : Ev (denL [.bool]) := loopO n (e103 n) s59_t0 s59_x0 (s59_l0 n)
theorem s59_b0 (n : Nat) (d) (again) (ks) : codeR (R := (denL [.bool])) (e103 n) (Hdl.no (R := (denL [.bool]))) (inn (lp (bd Go.Proofs.Try.f59) 0)) [] (mk s59_t0 d) (turnR (e103 n) s59_t0 s59_x0 again ks) = s59_l0 n d again ks := by kernel_rfl
theorem s59_s0 (n : Nat) : Sound Go.Proofs.Try.prog (Hdl.no (R := (denL [.bool]))) false (lp (bd Go.Proofs.Try.f59) 0) (s59_o0 n) := loop_ok (h103 n) hP (by kernel_rfl) (O := []) trivial (s59_b0 n)
def s59_c (n : Nat) : Con := ⟨[(.slice (.int .i64)), (.int .i64)], [], [.bool], fun x y => s59 n x.1 x.2, false⟩
theorem s59_eq (n : Nat) (x : denL [(.slice (.int .i64)), (.int .i64)]) (y : denL []) : funR (e103 n) Go.Proofs.Try.f59 [(.slice (.int .i64)), (.int .i64)] [] [.bool] false [s59_o0 n] x y = (s59_c n).fn x y := by kernel_rfl
theorem s59_ok (n : Nat) : ConOK Go.Proofs.Try.prog 59 (s59_c n) := func_ok (h103 n) hP Go.Proofs.Try.func59 (by kernel_rfl) (by kernel_rfl) (O := [s59_o0 n]) ⟨s59_s0 n, trivial⟩ (s59_eq n)
def e104 (n : Nat) : Env := ⟨gT, (59, s59_c n) :: (e103 n).C, gQ, (e103 n).I, (e103 n).M⟩
theorem h104 (n : Nat) : EnvOK Go.Proofs.Try.prog (e104 n) := env_add (h103 n) (s59_ok n)

def s10_l0 (n : Nat) (d : (List Int) × (List Int) × Int × Unit) (again : ((List Int) × (List Int) × Int × Unit) → Option (Bool)) (ks : (Unit → Option (Bool)) × (Bool × Unit → Option (Bool)) × Unit) : Option (Bool) :=
  match d, ks with
  | (a, b, i, _), (k0, k1, _) =>
  bif (decide (i < ((List.length b : Nat) : Int))) then
    (geti b i).bind fun e =>
    (s59 n a e).bind fun x =>
    bif (!x) then
      k1 (false, ())
    else
      again (a, b, (IntKind.wrap .i64 (i + (1 : Int))), ())
  else
    k0 (())

/-- criadera/criaderalaw07.TasteMarked -/
def s10 (n : Nat) (p : Int × Int × (List Int) × (List (List Int))) (least : Int × Int) (more : Int × Int) : Option (Bool) :=
  (s15 n).bind fun x =>
  bif (!x) then
    some (false)
  else
    (s24 n (p.1, (p.2.1, (p.2.2.1, p.2.2.2)))).bind fun x_1 =>
    bif (!x_1) then
      some (true)
    else
      (s26 n (p.1, (p.2.1, (p.2.2.1, p.2.2.2)))).bind fun x_2 =>
      (s56 n (x_2.1, (x_2.2.1, (x_2.2.2.1, x_2.2.2.2))) (least.1, least.2)).bind fun x_3 =>
      (s29 n (p.1, (p.2.1, (p.2.2.1, p.2.2.2)))).bind fun x_4 =>
      bif (x_4 == (0 : Int)) then
        (s54 n (least.1, least.2)).bind fun x_5 =>
        bif (x_5 != (0 : Int)) then
          some (((x_3.2 == x_5) && (((List.length x_3.1 : Nat) : Int) == (0 : Int))))
        else
          (part (!(x_3.2 != (0 : Int))) (s57 n (p.1, (p.2.1, (p.2.2.1, p.2.2.2))) (least.1, least.2)) []).bind fun x_6 =>
          (part (!(x_3.2 != (0 : Int))) (s32 n x_3.1 x_6) false).bind fun x_7 =>
          bif ((x_3.2 != (0 : Int)) || (!x_7)) then
            some (false)
          else
            (s54 n (more.1, more.2)).bind fun x_8 =>
            (part (!(x_8 != (0 : Int))) (s58 n (more.1, more.2) (least.1, least.2)) (0 : Int)).bind fun x_9 =>
            bif ((x_8 != (0 : Int)) || (decide (x_9 < (0 : Int)))) then
              some (true)
            else
              (s26 n (p.1, (p.2.1, (p.2.2.1, p.2.2.2)))).bind fun x_10 =>
              (s51 n (x_10.1, (x_10.2.1, (x_10.2.2.1, x_10.2.2.2))) (least.1, least.2)).bind fun x_11 =>
              (s26 n (p.1, (p.2.1, (p.2.2.1, p.2.2.2)))).bind fun x_12 =>
              (s51 n (x_12.1, (x_12.2.1, (x_12.2.2.1, x_12.2.2.2))) (more.1, more.2)).bind fun x_13 =>
              bif ((x_11.2 != (0 : Int)) || (x_13.2 != (0 : Int))) then
                some (false)
              else
                loopG (s10_l0 n) n (x_11.1, x_13.1, (0 : Int), ())
                  (fun (_) =>
                    some (true),
                  fun (t6, _) =>
                    some (t6), ())
      else
        bif (x_4 != (0 : Int)) then
          some (((x_3.2 == x_4) && (((List.length x_3.1 : Nat) : Int) == (0 : Int))))
        else
          (part (!(x_3.2 != (0 : Int))) (s57 n (p.1, (p.2.1, (p.2.2.1, p.2.2.2))) (least.1, least.2)) []).bind fun x_15 =>
          (part (!(x_3.2 != (0 : Int))) (s32 n x_3.1 x_15) false).bind fun x_16 =>
          bif ((x_3.2 != (0 : Int)) || (!x_16)) then
            some (false)
          else
            (s54 n (more.1, more.2)).bind fun x_17 =>
            (part (!(x_17 != (0 : Int))) (s58 n (more.1, more.2) (least.1, least.2)) (0 : Int)).bind fun x_18 =>
            bif ((x_17 != (0 : Int)) || (decide (x_18 < (0 : Int)))) then
              some (true)
            else
              (s26 n (p.1, (p.2.1, (p.2.2.1, p.2.2.2)))).bind fun x_19 =>
              (s51 n (x_19.1, (x_19.2.1, (x_19.2.2.1, x_19.2.2.2))) (least.1, least.2)).bind fun x_20 =>
              (s26 n (p.1, (p.2.1, (p.2.2.1, p.2.2.2)))).bind fun x_21 =>
              (s51 n (x_21.1, (x_21.2.1, (x_21.2.2.1, x_21.2.2.2))) (more.1, more.2)).bind fun x_22 =>
              bif ((x_20.2 != (0 : Int)) || (x_22.2 != (0 : Int))) then
                some (false)
              else
                loopG (s10_l0 n) n (x_20.1, x_22.1, (0 : Int), ())
                  (fun (_) =>
                    some (true),
                  fun (t6_1, _) =>
                    some (t6_1), ())

def s10_t0 : Templ := ⟨95, [(.slice (.int .i64)), (.slice (.int .i64)), (.int .i64)], [(10, .v (.hole (.slice (.int .i64)))), (12, .v (.hole (.slice (.int .i64)))), (14, .v (.hole (.int .i64)))], [], []⟩
def s10_x0 : List (Way × Templ) := [(.exit 0, ⟨95, [], [], [], []⟩), (.ret, ⟨95, [.bool], [(6, .v (.hole .bool))], [], []⟩)]
def s10_o0 (n : Nat) : Ev (denL [.bool]) := loopO n (e104 n) s10_t0 s10_x0 (s10_l0 n)
theorem s10_b0 (n : Nat) (d) (again) (ks) : codeR (R := (denL [.bool])) (e104 n) (Hdl.no (R := (denL [.bool]))) (inn (lp (bd Go.Proofs.Try.f10) 0)) [] (mk s10_t0 d) (turnR (e104 n) s10_t0 s10_x0 again ks) = s10_l0 n d again ks := by kernel_rfl
theorem s10_s0 (n : Nat) : Sound Go.Proofs.Try.prog (Hdl.no (R := (denL [.bool]))) false (lp (bd Go.Proofs.Try.f10) 0) (s10_o0 n) := loop_ok (h104 n) hP (by kernel_rfl) (O := []) trivial (s10_b0 n)
def s10_c (n : Nat) : Con := ⟨[(.pair (.int .i64) (.pair (.int .i64) (.pair (.slice (.int .i64)) (.slice (.slice (.int .i64)))))), (.pair (.int .i64) (.int .i64)), (.pair (.int .i64) (.int .i64))], [], [.bool], fun x y => s10 n x.1 x.2.1 x.2.2, false⟩
theorem s10_eq (n : Nat) (x : denL [(.pair (.int .i64) (.pair (.int .i64) (.pair (.slice (.int .i64)) (.slice (.slice (.int .i64)))))), (.pair (.int .i64) (.int .i64)), (.pair (.int .i64) (.int .i64))]) (y : denL []) : funR (e104 n) Go.Proofs.Try.f10 [(.pair (.int .i64) (.pair (.int .i64) (.pair (.slice (.int .i64)) (.slice (.slice (.int .i64)))))), (.pair (.int .i64) (.int .i64)), (.pair (.int .i64) (.int .i64))] [] [.bool] false [s10_o0 n] x y = (s10_c n).fn x y := by kernel_rfl
theorem s10_ok (n : Nat) : ConOK Go.Proofs.Try.prog 10 (s10_c n) := func_ok (h104 n) hP Go.Proofs.Try.func10 (by kernel_rfl) (by kernel_rfl) (O := [s10_o0 n]) ⟨s10_s0 n, trivial⟩ (s10_eq n)
def e105 (n : Nat) : Env := ⟨gT, (10, s10_c n) :: (e104 n).C, gQ, (e104 n).I, (e104 n).M⟩
theorem h105 (n : Nat) : EnvOK Go.Proofs.Try.prog (e105 n) := env_add (h104 n) (s10_ok n)

/-- criadera/criaderatop.tasted -/
def s71 (n : Nat) : Option (Bool) :=
  (s77 n).bind fun x =>
  (s41 n x ([98, 117, 116, 116], ([(1 : Int), (1 : Int), (0 : Int)] : List Int))).bind fun x_1 =>
  (s78 n).bind fun x_2 =>
  (s28 n x_2 (1 : Int) ([(0 : Int), (1 : Int)] : List Int)).bind fun x_3 =>
  some (((((x_1.2 == (0 : Int)) && ((x_1.1 : List UInt8) == [111, 108, 111, 114, 111, 115, 111])) && (x_3.2 == (0 : Int))) && (x_3.1 == (1 : Int))))

def s71_c (n : Nat) : Con := ⟨[], [], [.bool], fun x y => s71 n, false⟩
theorem s71_eq (n : Nat) (x : denL []) (y : denL []) : funR (e105 n) Go.Proofs.Try.f71 [] [] [.bool] false [] x y = (s71_c n).fn x y := by kernel_rfl
theorem s71_ok (n : Nat) : ConOK Go.Proofs.Try.prog 71 (s71_c n) := func_ok (h105 n) hP Go.Proofs.Try.func71 (by kernel_rfl) (by kernel_rfl) (O := []) trivial (s71_eq n)
def e106 (n : Nat) : Env := ⟨gT, (71, s71_c n) :: (e105 n).C, gQ, (e105 n).I, (e105 n).M⟩
theorem h106 (n : Nat) : EnvOK Go.Proofs.Try.prog (e106 n) := env_add (h105 n) (s71_ok n)

def s13_l0 (n : Nat) (d : (List Int) × Int × (List (List UInt8)) × Int × (List ((List UInt8) × (List Int) × (List (List UInt8)))) × Unit) (again : ((List Int) × Int × (List (List UInt8)) × Int × (List ((List UInt8) × (List Int) × (List (List UInt8)))) × Unit) → Option (Bool)) (ks : (Unit → Option (Bool)) × (Bool × Unit → Option (Bool)) × Unit) : Option (Bool) :=
  match d, ks with
  | (l, i, b, b_1, b_2, _), (k0, k1, _) =>
  bif (decide (i < ((List.length l : Nat) : Int))) then
    (geti l i).bind fun e =>
    bif (decide (e < (0 : Int))) then
      again (l, (IntKind.wrap .i64 (i + (1 : Int))), b, b_1, b_2, ())
    else
      (s21 n (b, (b_1, b_2))).bind fun x =>
      (geti l i).bind fun e_1 =>
      (geti l i).bind fun e_2 =>
      (s41 n x ([98, 117, 116, 116], ([e_1, e_2] : List Int))).bind fun x_1 =>
      (s21 n (b, (b_1, b_2))).bind fun x_2 =>
      (geti l i).bind fun e_3 =>
      (geti l i).bind fun e_4 =>
      (s38 n x_2 ([e_3, e_4] : List Int)).bind fun x_3 =>
      (part (!(((x_1.2 != (0 : Int)) || (x_3.2 != (0 : Int))) || (((List.length x_3.1 : Nat) : Int) != (3 : Int)))) (geti x_3.1 (2 : Int)) (0 : Int)).bind fun e_5 =>
      (part (!(((x_1.2 != (0 : Int)) || (x_3.2 != (0 : Int))) || (((List.length x_3.1 : Nat) : Int) != (3 : Int)))) (s19 n e_5 (0 : Int) (IntKind.wrap .i64 (((List.length b_2 : Nat) : Int) - (1 : Int)))) false).bind fun x_4 =>
      (part (!((((x_1.2 != (0 : Int)) || (x_3.2 != (0 : Int))) || (((List.length x_3.1 : Nat) : Int) != (3 : Int))) || (!x_4))) (geti x_3.1 (2 : Int)) (0 : Int)).bind fun e_6 =>
      (part (!((((x_1.2 != (0 : Int)) || (x_3.2 != (0 : Int))) || (((List.length x_3.1 : Nat) : Int) != (3 : Int))) || (!x_4))) (geti b_2 e_6) ([], ([], []))).bind fun e_7 =>
      bif (((((x_1.2 != (0 : Int)) || (x_3.2 != (0 : Int))) || (((List.length x_3.1 : Nat) : Int) != (3 : Int))) || (!x_4)) || ((x_1.1 : List UInt8) != e_7.1)) then
        k1 (false, ())
      else
        again (l, (IntKind.wrap .i64 (i + (1 : Int))), b, b_1, b_2, ())
  else
    k0 (())

/-- criadera/criaderatop.TopTasteMarked -/
def s13 (n : Nat) (b : (List (List UInt8)) × Int × (List ((List UInt8) × (List Int) × (List (List UInt8))))) (p : Int × Int × (List Int) × (List (List Int))) : Option (Bool) :=
  (s71 n).bind fun x =>
  bif (!x) then
    some (false)
  else
    (s16 n (b.1, (b.2.1, b.2.2))).bind fun x_1 =>
    (part (!(((!x_1) || (decide (((List.length p.2.2.1 : Nat) : Int) > (8 : Int)))) || (decide (((List.length p.2.2.2 : Nat) : Int) > (4 : Int))))) (s17 n (b.1, (b.2.1, b.2.2))) (0 : Int)).bind fun x_2 =>
    (part (!((((!x_1) || (decide (((List.length p.2.2.1 : Nat) : Int) > (8 : Int)))) || (decide (((List.length p.2.2.2 : Nat) : Int) > (4 : Int)))) || (x_2 != (0 : Int)))) (s29 n (p.1, (p.2.1, (p.2.2.1, p.2.2.2)))) (0 : Int)).bind fun x_3 =>
    bif ((((((!x_1) || (decide (((List.length p.2.2.1 : Nat) : Int) > (8 : Int)))) || (decide (((List.length p.2.2.2 : Nat) : Int) > (4 : Int)))) || (x_2 != (0 : Int))) || (x_3 != (0 : Int))) || (p.2.1 != ((List.length b.1 : Nat) : Int))) then
      some (true)
    else
      (s26 n (p.1, (p.2.1, (p.2.2.1, p.2.2.2)))).bind fun x_4 =>
      (s56 n (x_4.1, (x_4.2.1, (x_4.2.2.1, x_4.2.2.2))) ((0 : Int), (1 : Int))).bind fun x_5 =>
      bif ((x_5.2 != (0 : Int)) || (((List.length x_5.1 : Nat) : Int) != p.1)) then
        some (false)
      else
        (s26 n (p.1, (p.2.1, (p.2.2.1, p.2.2.2)))).bind fun x_6 =>
        (s72 n p.2.2.2).bind fun x_7 =>
        (chk (List.length x_6.2.2.2 + List.length x_7)).bind fun u =>
        (s56 n (x_6.1, (x_6.2.1, (x_6.2.2.1, (x_6.2.2.2 ++ x_7)))) ((0 : Int), (1 : Int))).bind fun x_8 =>
        (part (!(x_8.2 != (0 : Int))) (s32 n x_5.1 x_8.1) false).bind fun x_9 =>
        bif ((x_8.2 != (0 : Int)) || (!x_9)) then
          some (false)
        else
          loopG (s13_l0 n) n (x_5.1, (0 : Int), b.1, b.2.1, b.2.2, ())
            (fun (_) =>
              some (true),
            fun (t4, _) =>
              some (t4), ())

def s13_t0 : Templ := ⟨165, [(.slice (.int .i64)), (.int .i64), (.slice .str), (.int .i64), (.slice (.pair .str (.pair (.slice (.int .i64)) (.slice .str))))], [(2, .v (.bptr 165 0)), (5, .v (.hole (.slice (.int .i64)))), (10, .v (.hole (.int .i64)))], [(165, .box (.pair (.slice .str) (.pair (.int .i64) (.slice (.pair .str (.pair (.slice (.int .i64)) (.slice .str)))))) [.hole (.slice .str), .hole (.int .i64), .hole (.slice (.pair .str (.pair (.slice (.int .i64)) (.slice .str))))])], []⟩
def s13_x0 : List (Way × Templ) := [(.exit 0, ⟨165, [], [], [], []⟩), (.ret, ⟨165, [.bool], [(4, .v (.hole .bool))], [], []⟩)]
def s13_o0 (n : Nat) : Ev (denL [.bool]) := loopO n (e106 n) s13_t0 s13_x0 (s13_l0 n)
theorem s13_b0 (n : Nat) (d) (again) (ks) : codeR (R := (denL [.bool])) (e106 n) (Hdl.no (R := (denL [.bool]))) (inn (lp (bd Go.Proofs.Try.f13) 0)) [] (mk s13_t0 d) (turnR (e106 n) s13_t0 s13_x0 again ks) = s13_l0 n d again ks := by kernel_rfl
theorem s13_s0 (n : Nat) : Sound Go.Proofs.Try.prog (Hdl.no (R := (denL [.bool]))) false (lp (bd Go.Proofs.Try.f13) 0) (s13_o0 n) := loop_ok (h106 n) hP (by kernel_rfl) (O := []) trivial (s13_b0 n)
def s13_c (n : Nat) : Con := ⟨[(.pair (.slice .str) (.pair (.int .i64) (.slice (.pair .str (.pair (.slice (.int .i64)) (.slice .str)))))), (.pair (.int .i64) (.pair (.int .i64) (.pair (.slice (.int .i64)) (.slice (.slice (.int .i64))))))], [], [.bool], fun x y => s13 n x.1 x.2, false⟩
theorem s13_eq (n : Nat) (x : denL [(.pair (.slice .str) (.pair (.int .i64) (.slice (.pair .str (.pair (.slice (.int .i64)) (.slice .str)))))), (.pair (.int .i64) (.pair (.int .i64) (.pair (.slice (.int .i64)) (.slice (.slice (.int .i64))))))]) (y : denL []) : funR (e106 n) Go.Proofs.Try.f13 [(.pair (.slice .str) (.pair (.int .i64) (.slice (.pair .str (.pair (.slice (.int .i64)) (.slice .str)))))), (.pair (.int .i64) (.pair (.int .i64) (.pair (.slice (.int .i64)) (.slice (.slice (.int .i64))))))] [] [.bool] false [s13_o0 n] x y = (s13_c n).fn x y := by kernel_rfl
theorem s13_ok (n : Nat) : ConOK Go.Proofs.Try.prog 13 (s13_c n) := func_ok (h106 n) hP Go.Proofs.Try.func13 (by kernel_rfl) (by kernel_rfl) (O := [s13_o0 n]) ⟨s13_s0 n, trivial⟩ (s13_eq n)
def e107 (n : Nat) : Env := ⟨gT, (13, s13_c n) :: (e106 n).C, gQ, (e106 n).I, (e106 n).M⟩
theorem h107 (n : Nat) : EnvOK Go.Proofs.Try.prog (e107 n) := env_add (h106 n) (s13_ok n)

def s112_l0 (n : Nat) (d : (List (List UInt8)) × (List (List UInt8)) × Int × Int × Unit) (again : ((List (List UInt8)) × (List (List UInt8)) × Int × Int × Unit) → Option (Bool)) (ks : (Unit → Option (Bool)) × (Bool × Unit → Option (Bool)) × Unit) : Option (Bool) :=
  match d, ks with
  | (s1, s2, t12, t13, _), (k0, k1, _) =>
  bif (decide (t13 < t12)) then
    (geti s1 t13).bind fun e =>
    (geti s2 t13).bind fun e_1 =>
    bif ((e : List UInt8) != e_1) then
      k1 (false, ())
    else
      again (s1, s2, t12, (IntKind.wrap .i64 (t13 + (1 : Int))), ())
  else
    k0 (())

/-- slices.Equal[[]string,string] -/
def s112 (n : Nat) (s1 : List (List UInt8)) (s2 : List (List UInt8)) : Option (Bool) :=
  bif (((List.length s1 : Nat) : Int) != ((List.length s2 : Nat) : Int)) then
    some (false)
  else
    loopG (s112_l0 n) n (s1, s2, ((List.length s1 : Nat) : Int), (0 : Int), ())
      (fun (_) =>
        some (true),
      fun (t4, _) =>
        some (t4), ())

def s112_t0 : Templ := ⟨26, [(.slice .str), (.slice .str), (.int .i64), (.int .i64)], [(0, .v (.hole (.slice .str))), (1, .v (.hole (.slice .str))), (12, .v (.hole (.int .i64))), (13, .v (.hole (.int .i64)))], [], []⟩
def s112_x0 : List (Way × Templ) := [(.exit 0, ⟨26, [], [], [], []⟩), (.ret, ⟨26, [.bool], [(4, .v (.hole .bool))], [], []⟩)]
def s112_o0 (n : Nat) : Ev (denL [.bool]) := loopO n (e107 n) s112_t0 s112_x0 (s112_l0 n)
theorem s112_b0 (n : Nat) (d) (again) (ks) : codeR (R := (denL [.bool])) (e107 n) (Hdl.no (R := (denL [.bool]))) (inn (lp (bd Go.Proofs.Try.f112) 0)) [] (mk s112_t0 d) (turnR (e107 n) s112_t0 s112_x0 again ks) = s112_l0 n d again ks := by kernel_rfl
theorem s112_s0 (n : Nat) : Sound Go.Proofs.Try.prog (Hdl.no (R := (denL [.bool]))) false (lp (bd Go.Proofs.Try.f112) 0) (s112_o0 n) := loop_ok (h107 n) hP (by kernel_rfl) (O := []) trivial (s112_b0 n)
def s112_c (n : Nat) : Con := ⟨[(.slice .str), (.slice .str)], [], [.bool], fun x y => s112 n x.1 x.2, false⟩
theorem s112_eq (n : Nat) (x : denL [(.slice .str), (.slice .str)]) (y : denL []) : funR (e107 n) Go.Proofs.Try.f112 [(.slice .str), (.slice .str)] [] [.bool] false [s112_o0 n] x y = (s112_c n).fn x y := by kernel_rfl
theorem s112_ok (n : Nat) : ConOK Go.Proofs.Try.prog 112 (s112_c n) := func_ok (h107 n) hP Go.Proofs.Try.func112 (by kernel_rfl) (by kernel_rfl) (O := [s112_o0 n]) ⟨s112_s0 n, trivial⟩ (s112_eq n)
def e108 (n : Nat) : Env := ⟨gT, (112, s112_c n) :: (e107 n).C, gQ, (e107 n).I, (e107 n).M⟩
theorem h108 (n : Nat) : EnvOK Go.Proofs.Try.prog (e108 n) := env_add (h107 n) (s112_ok n)

/-- criadera/taste.Distinguish$1 -/
def s113 (n : Nat) (v_at : Int × Int) (mark : Int) (c0 : (List (List UInt8)) × Int × (List ((List UInt8) × (List Int) × (List (List UInt8))))) (c1 : (List (List UInt8)) × Int × (List ((List UInt8) × (List Int) × (List (List UInt8))))) : Option ((Int × Int)) :=
  (s114 n c0 v_at.1 mark).bind fun x =>
  (s114 n c1 v_at.2 mark).bind fun x_1 =>
  some ((x, x_1))

def s113_c (n : Nat) : Con := ⟨[(.pair (.int .i64) (.int .i64)), (.int .i64)], [(.pair (.slice .str) (.pair (.int .i64) (.slice (.pair .str (.pair (.slice (.int .i64)) (.slice .str)))))), (.pair (.slice .str) (.pair (.int .i64) (.slice (.pair .str (.pair (.slice (.int .i64)) (.slice .str))))))], [(.pair (.int .i64) (.int .i64))], fun x y => s113 n x.1 x.2 y.1 y.2, false⟩
theorem s113_eq (n : Nat) (x : denL [(.pair (.int .i64) (.int .i64)), (.int .i64)]) (y : denL [(.pair (.slice .str) (.pair (.int .i64) (.slice (.pair .str (.pair (.slice (.int .i64)) (.slice .str)))))), (.pair (.slice .str) (.pair (.int .i64) (.slice (.pair .str (.pair (.slice (.int .i64)) (.slice .str))))))]) : funR (e108 n) Go.Proofs.Try.f113 [(.pair (.int .i64) (.int .i64)), (.int .i64)] [(.pair (.slice .str) (.pair (.int .i64) (.slice (.pair .str (.pair (.slice (.int .i64)) (.slice .str)))))), (.pair (.slice .str) (.pair (.int .i64) (.slice (.pair .str (.pair (.slice (.int .i64)) (.slice .str))))))] [(.pair (.int .i64) (.int .i64))] false [] x y = (s113_c n).fn x y := by kernel_rfl
theorem s113_ok (n : Nat) : ConOK Go.Proofs.Try.prog 113 (s113_c n) := func_ok (h108 n) hP Go.Proofs.Try.func113 (by kernel_rfl) (by kernel_rfl) (O := []) trivial (s113_eq n)
def e109 (n : Nat) : Env := ⟨gT, (113, s113_c n) :: (e108 n).C, gQ, (e108 n).I, (e108 n).M⟩
theorem h109 (n : Nat) : EnvOK Go.Proofs.Try.prog (e109 n) := env_add (h108 n) (s113_ok n)

def s134_l0_0 (n : Nat) (d : Int × ((Int × Int) → Int → Option (Int × Int)) × Int × Int × (List ((Int × Int) × Bool)) × (List ((Int × Int) × (List Int))) × Int × Int × (List Int) × Unit) (again : (Int × ((Int × Int) → Int → Option (Int × Int)) × Int × Int × (List ((Int × Int) × Bool)) × (List ((Int × Int) × (List Int))) × Int × Int × (List Int) × Unit) → Option (List (((Int × Int) × (List Int))))) (ks : (Int × ((Int × Int) → Int → Option (Int × Int)) × (List ((Int × Int) × Bool)) × (List ((Int × Int) × (List Int))) × Unit → Option (List (((Int × Int) × (List Int))))) × Unit) : Option (List (((Int × Int) × (List Int)))) :=
  match d, ks with
  | (t2, t3, t28, t29, seen, queue, t7, t7_1, t7_2, _), (k0, _) =>
  bif (decide (t29 < t28)) then
    (t3 (t7, t7_1) t29).bind fun x =>
    bif (!(Option.getD (mgetE (Ty.beq (.pair (.int .i64) (.int .i64))) seen (x.1, x.2)) false)) then
      (s135 n t7_2).bind fun x_1 =>
      (chk (List.length x_1 + List.length ([t29] : List Int))).bind fun u =>
      (chk (List.length queue + List.length ([((x.1, x.2), (x_1 ++ ([t29] : List Int)))] : List ((Int × Int) × (List Int))))).bind fun u_1 =>
      again (t2, t3, t28, (IntKind.wrap .i64 (t29 + (1 : Int))), (mputE (Ty.beq (.pair (.int .i64) (.int .i64))) seen (x.1, x.2) true), (queue ++ ([((x.1, x.2), (x_1 ++ ([t29] : List Int)))] : List ((Int × Int) × (List Int)))), t7, t7_1, t7_2, ())
    else
      again (t2, t3, t28, (IntKind.wrap .i64 (t29 + (1 : Int))), seen, queue, t7, t7_1, t7_2, ())
  else
    k0 (t2, t3, seen, queue, ())

def s134_l0 (n : Nat) (d : Int × ((Int × Int) → Int → Option (Int × Int)) × (List ((Int × Int) × Bool)) × (List ((Int × Int) × (List Int))) × Unit) (again : (Int × ((Int × Int) → Int → Option (Int × Int)) × (List ((Int × Int) × Bool)) × (List ((Int × Int) × (List Int))) × Unit) → Option (List (((Int × Int) × (List Int))))) (ks : (Unit → Option (List (((Int × Int) × (List Int))))) × (Unit → Option (List (((Int × Int) × (List Int))))) × Unit) : Option (List (((Int × Int) × (List Int)))) :=
  match d, ks with
  | (t2, t3, seen, queue, _), (k0, k1, _) =>
  bif (decide (((List.length queue : Nat) : Int) > (0 : Int))) then
    (geti queue (0 : Int)).bind fun e =>
    (geti queue (0 : Int)).bind fun x =>
    (cut queue (1 : Int) ((List.length queue : Nat) : Int)).bind fun x_1 =>
    emitL (α := ((Int × Int) × (List Int))) ((x.1.1, x.1.2), x.2) (
        loopG (s134_l0_0 n) n (t2, t3, t2, (0 : Int), seen, x_1, x.1.1, x.1.2, x.2, ())
          (fun (t2_2, t3_2, seen_2, queue_2, _) =>
            again (t2_2, t3_2, seen_2, queue_2, ()), ())
      ) (
        k1 (())
      )
  else
    k0 (())

/-- criadera/taste.search[[2]int]$1 -/
def s134 (n : Nat) (c0 : Int × Int) (c1 : Int) (c2 : (Int × Int) → Int → Option (Int × Int)) : Option (List (((Int × Int) × (List Int)))) :=
  loopG (s134_l0 n) n (c1, c2, (mputE (Ty.beq (.pair (.int .i64) (.int .i64))) ([] : List ((Int × Int) × Bool)) c0 true), ([((c0.1, c0.2), ([] : List Int))] : List ((Int × Int) × (List Int))), ())
    (fun (_) =>
      some [],
    fun (_) =>
      some [], ())

def s134_t0_0 : Templ := ⟨55, [(.int .i64), (.fn2 (.pair (.int .i64) (.int .i64)) (.int .i64) (.pair (.int .i64) (.int .i64))), (.int .i64), (.int .i64), (.map (.pair (.int .i64) (.int .i64)) .bool), (.slice (.pair (.pair (.int .i64) (.int .i64)) (.slice (.int .i64)))), (.int .i64), (.int .i64), (.slice (.int .i64))], [(0, .v (.yld)), (2, .v (.pp (.int .i64))), (3, .v (.pp (.fn2 (.pair (.int .i64) (.int .i64)) (.int .i64) (.pair (.int .i64) (.int .i64))))), (5, .v (.hand 55)), (6, .v (.hand 56)), (7, .v (.bptr 57 0)), (28, .v (.hole (.int .i64))), (29, .v (.hole (.int .i64)))], [(55, .map (.pair (.int .i64) (.int .i64)) .bool), (56, .buf (.pair (.pair (.int .i64) (.int .i64)) (.slice (.int .i64)))), (57, .box (.pair (.pair (.int .i64) (.int .i64)) (.slice (.int .i64))) [.hole (.int .i64), .hole (.int .i64), .hole (.slice (.int .i64))])], []⟩
def s134_x0_0 : List (Way × Templ) := [(.exit 2, ⟨55, [(.int .i64), (.fn2 (.pair (.int .i64) (.int .i64)) (.int .i64) (.pair (.int .i64) (.int .i64))), (.map (.pair (.int .i64) (.int .i64)) .bool), (.slice (.pair (.pair (.int .i64) (.int .i64)) (.slice (.int .i64))))], [(0, .v (.yld)), (2, .v (.pp (.int .i64))), (3, .v (.pp (.fn2 (.pair (.int .i64) (.int .i64)) (.int .i64) (.pair (.int .i64) (.int .i64))))), (5, .v (.hand 55)), (6, .v (.hand 56))], [(55, .map (.pair (.int .i64) (.int .i64)) .bool), (56, .buf (.pair (.pair (.int .i64) (.int .i64)) (.slice (.int .i64))))], []⟩)]
def s134_o0_0 (n : Nat) : Ev (List (denL [(.pair (.pair (.int .i64) (.int .i64)) (.slice (.int .i64)))])) := loopO n (e109 n) s134_t0_0 s134_x0_0 (s134_l0_0 n)
theorem s134_b0_0 (n : Nat) (d) (again) (ks) : codeR (R := (List (denL [(.pair (.pair (.int .i64) (.int .i64)) (.slice (.int .i64)))]))) (e109 n) (hdlL [(.pair (.pair (.int .i64) (.int .i64)) (.slice (.int .i64)))]) (inn (lp (inn (lp (bd Go.Proofs.Try.f134) 0)) 0)) [] (mk s134_t0_0 d) (turnR (e109 n) s134_t0_0 s134_x0_0 again ks) = s134_l0_0 n d again ks := by kernel_rfl
theorem s134_s0_0 (n : Nat) : Sound Go.Proofs.Try.prog (hdlL [(.pair (.pair (.int .i64) (.int .i64)) (.slice (.int .i64)))]) false (lp (inn (lp (bd Go.Proofs.Try.f134) 0)) 0) (s134_o0_0 n) := loop_ok (h109 n) hP (by kernel_rfl) (O := []) trivial (s134_b0_0 n)
def s134_t0 : Templ := ⟨55, [(.int .i64), (.fn2 (.pair (.int .i64) (.int .i64)) (.int .i64) (.pair (.int .i64) (.int .i64))), (.map (.pair (.int .i64) (.int .i64)) .bool), (.slice (.pair (.pair (.int .i64) (.int .i64)) (.slice (.int .i64))))], [(0, .v (.yld)), (2, .v (.pp (.int .i64))), (3, .v (.pp (.fn2 (.pair (.int .i64) (.int .i64)) (.int .i64) (.pair (.int .i64) (.int .i64))))), (5, .v (.hand 55)), (6, .v (.hand 56))], [(55, .map (.pair (.int .i64) (.int .i64)) .bool), (56, .buf (.pair (.pair (.int .i64) (.int .i64)) (.slice (.int .i64))))], []⟩
def s134_x0 : List (Way × Templ) := [(.exit 0, ⟨55, [], [], [], []⟩), (.ret, ⟨55, [], [], [], []⟩)]
def s134_o0 (n : Nat) : Ev (List (denL [(.pair (.pair (.int .i64) (.int .i64)) (.slice (.int .i64)))])) := loopO n (e109 n) s134_t0 s134_x0 (s134_l0 n)
theorem s134_b0 (n : Nat) (d) (again) (ks) : codeR (R := (List (denL [(.pair (.pair (.int .i64) (.int .i64)) (.slice (.int .i64)))]))) (e109 n) (hdlL [(.pair (.pair (.int .i64) (.int .i64)) (.slice (.int .i64)))]) (inn (lp (bd Go.Proofs.Try.f134) 0)) [s134_o0_0 n] (mk s134_t0 d) (turnR (e109 n) s134_t0 s134_x0 again ks) = s134_l0 n d again ks := by kernel_rfl
theorem s134_s0 (n : Nat) : Sound Go.Proofs.Try.prog (hdlL [(.pair (.pair (.int .i64) (.int .i64)) (.slice (.int .i64)))]) false (lp (bd Go.Proofs.Try.f134) 0) (s134_o0 n) := loop_ok (h109 n) hP (by kernel_rfl) (O := [s134_o0_0 n]) ⟨s134_s0_0 n, trivial⟩ (s134_b0 n)
def s134_i (n : Nat) : ICon := ⟨[(.pair (.int .i64) (.int .i64)), (.int .i64), (.fn2 (.pair (.int .i64) (.int .i64)) (.int .i64) (.pair (.int .i64) (.int .i64)))], (.seq (.pair (.pair (.int .i64) (.int .i64)) (.slice (.int .i64)))), fun y => s134 n y.1 y.2.1 y.2.2⟩
theorem s134_eq (n : Nat) (y : denL [(.pair (.int .i64) (.int .i64)), (.int .i64), (.fn2 (.pair (.int .i64) (.int .i64)) (.int .i64) (.pair (.int .i64) (.int .i64)))]) : iterR (e109 n) Go.Proofs.Try.f134 [(.pair (.pair (.int .i64) (.int .i64)) (.slice (.int .i64)))] [(.pair (.int .i64) (.int .i64)), (.int .i64), (.fn2 (.pair (.int .i64) (.int .i64)) (.int .i64) (.pair (.int .i64) (.int .i64)))] [s134_o0 n] y = (s134_i n).fn y := by kernel_rfl
theorem s134_ok (n : Nat) : IConOK Go.Proofs.Try.prog 134 (s134_i n) := itf1_ok (h109 n) hP Go.Proofs.Try.func134 (by kernel_rfl) (by kernel_rfl) (O := [s134_o0 n]) ⟨s134_s0 n, trivial⟩ (s134_eq n)
def e110 (n : Nat) : Env := ⟨gT, (e109 n).C, gQ, (134, s134_i n) :: (e109 n).I, (e109 n).M⟩
theorem h110 (n : Nat) : EnvOK Go.Proofs.Try.prog (e110 n) := env_it (h109 n) (s134_ok n)

/-- criadera/taste.search[[2]int] -/
def s115 (n : Nat) (v_begin : Int × Int) (marks : Int) (next : (Int × Int) → Int → Option (Int × Int)) : Option ((List ((Int × Int) × (List Int)))) :=
  (s134 n (v_begin.1, v_begin.2) marks next).bind fun x =>
  some (x)

def s115_c (n : Nat) : Con := ⟨[(.pair (.int .i64) (.int .i64)), (.int .i64), (.fn2 (.pair (.int .i64) (.int .i64)) (.int .i64) (.pair (.int .i64) (.int .i64)))], [], [(.seq (.pair (.pair (.int .i64) (.int .i64)) (.slice (.int .i64))))], fun x y => s115 n x.1 x.2.1 x.2.2, false⟩
theorem s115_eq (n : Nat) (x : denL [(.pair (.int .i64) (.int .i64)), (.int .i64), (.fn2 (.pair (.int .i64) (.int .i64)) (.int .i64) (.pair (.int .i64) (.int .i64)))]) (y : denL []) : funR (e110 n) Go.Proofs.Try.f115 [(.pair (.int .i64) (.int .i64)), (.int .i64), (.fn2 (.pair (.int .i64) (.int .i64)) (.int .i64) (.pair (.int .i64) (.int .i64)))] [] [(.seq (.pair (.pair (.int .i64) (.int .i64)) (.slice (.int .i64))))] false [] x y = (s115_c n).fn x y := by kernel_rfl
theorem s115_ok (n : Nat) : ConOK Go.Proofs.Try.prog 115 (s115_c n) := func_ok (h110 n) hP Go.Proofs.Try.func115 (by kernel_rfl) (by kernel_rfl) (O := []) trivial (s115_eq n)
def e111 (n : Nat) : Env := ⟨gT, (115, s115_c n) :: (e110 n).C, gQ, (e110 n).I, (e110 n).M⟩
theorem h111 (n : Nat) : EnvOK Go.Proofs.Try.prog (e111 n) := env_add (h110 n) (s115_ok n)

def e112 (n : Nat) : Env := ⟨gT, (157, s157_c n) :: (e111 n).C, gQ, (e111 n).I, (e111 n).M⟩
theorem h112 (n : Nat) : EnvOK Go.Proofs.Try.prog (e112 n) := env_add (h111 n) (s157_ok n)

/-- internal/stringslite.Cut -/
def s145 (n : Nat) (s : List UInt8) (sep : List UInt8) : Option ((List UInt8) × (List UInt8) × Bool) :=
  (s157 n s sep).bind fun x =>
  bif (decide (x ≥ (0 : Int))) then
    (cut s 0 x).bind fun x_1 =>
    (cut s (IntKind.wrap .i64 (x + ((List.length sep : Nat) : Int))) ((List.length s : Nat) : Int)).bind fun x_2 =>
    some (x_1, x_2, true)
  else
    some (s, [], false)

def s145_c (n : Nat) : Con := ⟨[.str, .str], [], [.str, .str, .bool], fun x y => s145 n x.1 x.2, false⟩
theorem s145_eq (n : Nat) (x : denL [.str, .str]) (y : denL []) : funR (e112 n) Go.Proofs.Try.f145 [.str, .str] [] [.str, .str, .bool] false [] x y = (s145_c n).fn x y := by kernel_rfl
theorem s145_ok (n : Nat) : ConOK Go.Proofs.Try.prog 145 (s145_c n) := func_ok (h112 n) hP Go.Proofs.Try.func145 (by kernel_rfl) (by kernel_rfl) (O := []) trivial (s145_eq n)
def e113 (n : Nat) : Env := ⟨gT, (145, s145_c n) :: (e112 n).C, gQ, (e112 n).I, (e112 n).M⟩
theorem h113 (n : Nat) : EnvOK Go.Proofs.Try.prog (e113 n) := env_add (h112 n) (s145_ok n)

/-- strings.Cut -/
def s136 (n : Nat) (s : List UInt8) (sep : List UInt8) : Option ((List UInt8) × (List UInt8) × Bool) :=
  (s145 n s sep).bind fun x =>
  some (x.1, x.2.1, x.2.2)

def s136_c (n : Nat) : Con := ⟨[.str, .str], [], [.str, .str, .bool], fun x y => s136 n x.1 x.2, false⟩
theorem s136_eq (n : Nat) (x : denL [.str, .str]) (y : denL []) : funR (e113 n) Go.Proofs.Try.f136 [.str, .str] [] [.str, .str, .bool] false [] x y = (s136_c n).fn x y := by kernel_rfl
theorem s136_ok (n : Nat) : ConOK Go.Proofs.Try.prog 136 (s136_c n) := func_ok (h113 n) hP Go.Proofs.Try.func136 (by kernel_rfl) (by kernel_rfl) (O := []) trivial (s136_eq n)
def e114 (n : Nat) : Env := ⟨gT, (136, s136_c n) :: (e113 n).C, gQ, (e113 n).I, (e113 n).M⟩
theorem h114 (n : Nat) : EnvOK Go.Proofs.Try.prog (e114 n) := env_add (h113 n) (s136_ok n)

/-- (criadera/taste.book).rank -/
def s116 (n : Nat) (b : (List (List UInt8)) × Int × (List ((List UInt8) × (List Int) × (List (List UInt8))))) (v_class : Int) : Option ((List UInt8)) :=
  (geti b.2.2 v_class).bind fun e =>
  (s136 n e.1 [45]).bind fun x =>
  some (x.1)

def s116_c (n : Nat) : Con := ⟨[(.pair (.slice .str) (.pair (.int .i64) (.slice (.pair .str (.pair (.slice (.int .i64)) (.slice .str)))))), (.int .i64)], [], [.str], fun x y => s116 n x.1 x.2, false⟩
theorem s116_eq (n : Nat) (x : denL [(.pair (.slice .str) (.pair (.int .i64) (.slice (.pair .str (.pair (.slice (.int .i64)) (.slice .str)))))), (.int .i64)]) (y : denL []) : funR (e114 n) Go.Proofs.Try.f116 [(.pair (.slice .str) (.pair (.int .i64) (.slice (.pair .str (.pair (.slice (.int .i64)) (.slice .str)))))), (.int .i64)] [] [.str] false [] x y = (s116_c n).fn x y := by kernel_rfl
theorem s116_ok (n : Nat) : ConOK Go.Proofs.Try.prog 116 (s116_c n) := func_ok (h114 n) hP Go.Proofs.Try.func116 (by kernel_rfl) (by kernel_rfl) (O := []) trivial (s116_eq n)
def e115 (n : Nat) : Env := ⟨gT, (116, s116_c n) :: (e114 n).C, gQ, (e114 n).I, (e114 n).M⟩
theorem h115 (n : Nat) : EnvOK Go.Proofs.Try.prog (e115 n) := env_add (h114 n) (s116_ok n)

def s60_l0 (n : Nat) (d : ((List (List UInt8)) × Int × (List ((List UInt8) × (List Int) × (List (List UInt8))))) × ((List (List UInt8)) × Int × (List ((List UInt8) × (List Int) × (List (List UInt8))))) × (List ((Int × Int) × (List Int))) × Int × Unit) (y_1 : (Int × Int) × (List Int)) (again : (((List (List UInt8)) × Int × (List ((List UInt8) × (List Int) × (List (List UInt8))))) × ((List (List UInt8)) × Int × (List ((List UInt8) × (List Int) × (List (List UInt8))))) × (List ((Int × Int) × (List Int))) × Int × Unit) → Option ((List Int) × Int)) (ks : ((List Int) × Int × Unit → Option ((List Int) × Int)) × Unit) : Option ((List Int) × Int) :=
  match d, ks with
  | (t6, y, t46, t5, _), (k0, _) =>
  (s116 n t6 y_1.1.1).bind fun x =>
  (s116 n y y_1.1.2).bind fun x_1 =>
  bif ((x : List UInt8) != x_1) then
    k0 (y_1.2, (0 : Int), ())
  else
    again (t6, y, t46, t5, ())

/-- criadera/taste.Distinguish -/
def s60 (n : Nat) (a : (List (List UInt8)) × Int × (List ((List UInt8) × (List Int) × (List (List UInt8))))) (b : (List (List UInt8)) × Int × (List ((List UInt8) × (List Int) × (List (List UInt8))))) : Option ((List Int) × Int) :=
  (s79 n (a.1, (a.2.1, a.2.2))).bind fun x =>
  bif (x.2 != (0 : Int)) then
    some (([] : List Int), x.2)
  else
    (s79 n (b.1, (b.2.1, b.2.2))).bind fun x_1 =>
    (s112 n a.1 b.1).bind fun x_2 =>
    (s81 n x_2 (13 : Int)).bind fun x_3 =>
    (s80 n ([x_1.2, x_3] : List Int)).bind fun x_4 =>
    bif (x_4 != (0 : Int)) then
      some (([] : List Int), x_4)
    else
      (s115 n (a.2.1, b.2.1) ((List.length a.1 : Nat) : Int) (fun y0 y1 => s113 n y0 y1 (x.1.1, (x.1.2.1, x.1.2.2)) (x_1.1.1, (x_1.1.2.1, x_1.1.2.2)))).bind fun x_5 =>
      rangeG (s60_l0 n) (fun (t4, t5_2, _) =>
          some (t4, t5_2), ()) (fun (t6_1, y_2, t46_1, t5_1, _) =>
          some (([] : List Int), (12 : Int))) x_5 ((x.1.1, (x.1.2.1, x.1.2.2)), (x_1.1.1, (x_1.1.2.1, x_1.1.2.2)), x_5, (0 : Int), ())

def s60_t0 : Templ := ⟨61, [(.pair (.slice .str) (.pair (.int .i64) (.slice (.pair .str (.pair (.slice (.int .i64)) (.slice .str)))))), (.pair (.slice .str) (.pair (.int .i64) (.slice (.pair .str (.pair (.slice (.int .i64)) (.slice .str)))))), (.seq (.pair (.pair (.int .i64) (.int .i64)) (.slice (.int .i64)))), (.int .i64)], [(4, .v (.bptr 61 0)), (5, .v (.bptr 62 0)), (6, .v (.pp (.pair (.slice .str) (.pair (.int .i64) (.slice (.pair .str (.pair (.slice (.int .i64)) (.slice .str)))))))), (8, .v (.pp (.pair (.slice .str) (.pair (.int .i64) (.slice (.pair .str (.pair (.slice (.int .i64)) (.slice .str)))))))), (46, .v (.hole (.seq (.pair (.pair (.int .i64) (.int .i64)) (.slice (.int .i64))))))], [(61, .box (.slice (.int .i64)) [.nils]), (62, .box (.int .i64) [.hole (.int .i64)])], []⟩
def s60_x0 : List (Way × Templ) := [(.ret, ⟨61, [(.slice (.int .i64)), (.int .i64)], [(4, .v (.bptr 61 0)), (5, .v (.bptr 62 0))], [(61, .box (.slice (.int .i64)) [.hole (.slice (.int .i64))]), (62, .box (.int .i64) [.hole (.int .i64)])], []⟩)]
theorem s60_b0 (n : Nat) (d) (x) (again) (ks) : codeR (R := (denL [(.slice (.int .i64)), (.int .i64)])) (e115 n) (Hdl.no (R := (denL [(.slice (.int .i64)), (.int .i64)]))) (rgA (lp (bd Go.Proofs.Try.f60) 0)) [] (mkB s60_t0 [4, 5, 6, 8, 46] 47 (.pair (.pair (.int .i64) (.int .i64)) (.slice (.int .i64))) d x) (thenB fun st => codeR (R := (denL [(.slice (.int .i64)), (.int .i64)])) (e115 n) (Hdl.no (R := (denL [(.slice (.int .i64)), (.int .i64)]))) (rgB (lp (bd Go.Proofs.Try.f60) 0)) [] st (turnB (e115 n) s60_t0 [4, 5, 6, 8, 46] s60_x0 again ks)) = s60_l0 n d x again ks := by kernel_rfl
theorem s60_s0 (n : Nat) : Sound Go.Proofs.Try.prog (Hdl.no (R := (denL [(.slice (.int .i64)), (.int .i64)]))) false (lp (bd Go.Proofs.Try.f60) 0) ((fun n => rangeO (R := (denL [(.slice (.int .i64)), (.int .i64)])) (e115 n) (.pair (.pair (.int .i64) (.int .i64)) (.slice (.int .i64))) (rgG (lp (bd Go.Proofs.Try.f60) 0)) s60_t0 s60_x0 (s60_l0 n)) n) := range_ok (h115 n) hP (p := 47) (F := [4, 5, 6, 8, 46]) (Oa := []) (Ob := []) (by kernel_rfl) rfl (by decide) (by decide) rfl trivial trivial (s60_b0 n)
def s60_c (n : Nat) : Con := ⟨[(.pair (.slice .str) (.pair (.int .i64) (.slice (.pair .str (.pair (.slice (.int .i64)) (.slice .str)))))), (.pair (.slice .str) (.pair (.int .i64) (.slice (.pair .str (.pair (.slice (.int .i64)) (.slice .str))))))], [], [(.slice (.int .i64)), (.int .i64)], fun x y => s60 n x.1 x.2, false⟩
theorem s60_eq (n : Nat) (x : denL [(.pair (.slice .str) (.pair (.int .i64) (.slice (.pair .str (.pair (.slice (.int .i64)) (.slice .str)))))), (.pair (.slice .str) (.pair (.int .i64) (.slice (.pair .str (.pair (.slice (.int .i64)) (.slice .str))))))]) (y : denL []) : funR (e115 n) Go.Proofs.Try.f60 [(.pair (.slice .str) (.pair (.int .i64) (.slice (.pair .str (.pair (.slice (.int .i64)) (.slice .str)))))), (.pair (.slice .str) (.pair (.int .i64) (.slice (.pair .str (.pair (.slice (.int .i64)) (.slice .str))))))] [] [(.slice (.int .i64)), (.int .i64)] false [(fun n => rangeO (R := (denL [(.slice (.int .i64)), (.int .i64)])) (e115 n) (.pair (.pair (.int .i64) (.int .i64)) (.slice (.int .i64))) (rgG (lp (bd Go.Proofs.Try.f60) 0)) s60_t0 s60_x0 (s60_l0 n)) n] x y = (s60_c n).fn x y := by kernel_rfl
theorem s60_ok (n : Nat) : ConOK Go.Proofs.Try.prog 60 (s60_c n) := func_ok (h115 n) hP Go.Proofs.Try.func60 (by kernel_rfl) (by kernel_rfl) (O := [(fun n => rangeO (R := (denL [(.slice (.int .i64)), (.int .i64)])) (e115 n) (.pair (.pair (.int .i64) (.int .i64)) (.slice (.int .i64))) (rgG (lp (bd Go.Proofs.Try.f60) 0)) s60_t0 s60_x0 (s60_l0 n)) n]) ⟨s60_s0 n, trivial⟩ (s60_eq n)
def e116 (n : Nat) : Env := ⟨gT, (60, s60_c n) :: (e115 n).C, gQ, (e115 n).I, (e115 n).M⟩
theorem h116 (n : Nat) : EnvOK Go.Proofs.Try.prog (e116 n) := env_add (h115 n) (s60_ok n)

/-- criadera/criaderaref07.SameMarks -/
def s61 (n : Nat) (a : (List (List UInt8)) × Int × (List ((List UInt8) × (List Int) × (List (List UInt8))))) (b : (List (List UInt8)) × Int × (List ((List UInt8) × (List Int) × (List (List UInt8))))) : Option (Bool) :=
  (s45 n a.1 b.1).bind fun x =>
  some (x)

def s61_c (n : Nat) : Con := ⟨[(.pair (.slice .str) (.pair (.int .i64) (.slice (.pair .str (.pair (.slice (.int .i64)) (.slice .str)))))), (.pair (.slice .str) (.pair (.int .i64) (.slice (.pair .str (.pair (.slice (.int .i64)) (.slice .str))))))], [], [.bool], fun x y => s61 n x.1 x.2, false⟩
theorem s61_eq (n : Nat) (x : denL [(.pair (.slice .str) (.pair (.int .i64) (.slice (.pair .str (.pair (.slice (.int .i64)) (.slice .str)))))), (.pair (.slice .str) (.pair (.int .i64) (.slice (.pair .str (.pair (.slice (.int .i64)) (.slice .str))))))]) (y : denL []) : funR (e116 n) Go.Proofs.Try.f61 [(.pair (.slice .str) (.pair (.int .i64) (.slice (.pair .str (.pair (.slice (.int .i64)) (.slice .str)))))), (.pair (.slice .str) (.pair (.int .i64) (.slice (.pair .str (.pair (.slice (.int .i64)) (.slice .str))))))] [] [.bool] false [] x y = (s61_c n).fn x y := by kernel_rfl
theorem s61_ok (n : Nat) : ConOK Go.Proofs.Try.prog 61 (s61_c n) := func_ok (h116 n) hP Go.Proofs.Try.func61 (by kernel_rfl) (by kernel_rfl) (O := []) trivial (s61_eq n)
def e117 (n : Nat) : Env := ⟨gT, (61, s61_c n) :: (e116 n).C, gQ, (e116 n).I, (e116 n).M⟩
theorem h117 (n : Nat) : EnvOK Go.Proofs.Try.prog (e117 n) := env_add (h116 n) (s61_ok n)

def s63_l0 (n : Nat) (d : (List UInt8) × Int × Unit) (again : ((List UInt8) × Int × Unit) → Option ((List UInt8))) (ks : ((List UInt8) × Unit → Option ((List UInt8))) × ((List UInt8) × Unit → Option ((List UInt8))) × Unit) : Option ((List UInt8)) :=
  match d, ks with
  | (name, i, _), (k0, k1, _) =>
  bif (decide (i < ((List.length name : Nat) : Int))) then
    (geti name i).bind fun c =>
    bif (((UInt8.toNat c : Nat) : Int) == (45 : Int)) then
      (cut name 0 i).bind fun x =>
      k1 (x, ())
    else
      again (name, (IntKind.wrap .i64 (i + (1 : Int))), ())
  else
    k0 (name, ())

/-- criadera/criaderaref07.Rank -/
def s63 (n : Nat) (name : List UInt8) : Option ((List UInt8)) :=
  loopG (s63_l0 n) n (name, (0 : Int), ())
    (fun (name_2, _) =>
      some (name_2),
    fun (t2, _) =>
      some (t2), ())

def s63_t0 : Templ := ⟨18, [.str, (.int .i64)], [(0, .v (.hole .str)), (3, .v (.hole (.int .i64)))], [], []⟩
def s63_x0 : List (Way × Templ) := [(.exit 0, ⟨18, [.str], [(0, .v (.hole .str))], [], []⟩), (.ret, ⟨18, [.str], [(2, .v (.hole .str))], [], []⟩)]
def s63_o0 (n : Nat) : Ev (denL [.str]) := loopO n (e117 n) s63_t0 s63_x0 (s63_l0 n)
theorem s63_b0 (n : Nat) (d) (again) (ks) : codeR (R := (denL [.str])) (e117 n) (Hdl.no (R := (denL [.str]))) (inn (lp (bd Go.Proofs.Try.f63) 0)) [] (mk s63_t0 d) (turnR (e117 n) s63_t0 s63_x0 again ks) = s63_l0 n d again ks := by kernel_rfl
theorem s63_s0 (n : Nat) : Sound Go.Proofs.Try.prog (Hdl.no (R := (denL [.str]))) false (lp (bd Go.Proofs.Try.f63) 0) (s63_o0 n) := loop_ok (h117 n) hP (by kernel_rfl) (O := []) trivial (s63_b0 n)
def s63_c (n : Nat) : Con := ⟨[.str], [], [.str], fun x y => s63 n x, false⟩
theorem s63_eq (n : Nat) (x : denL [.str]) (y : denL []) : funR (e117 n) Go.Proofs.Try.f63 [.str] [] [.str] false [s63_o0 n] x y = (s63_c n).fn x y := by kernel_rfl
theorem s63_ok (n : Nat) : ConOK Go.Proofs.Try.prog 63 (s63_c n) := func_ok (h117 n) hP Go.Proofs.Try.func63 (by kernel_rfl) (by kernel_rfl) (O := [s63_o0 n]) ⟨s63_s0 n, trivial⟩ (s63_eq n)
def e118 (n : Nat) : Env := ⟨gT, (63, s63_c n) :: (e117 n).C, gQ, (e117 n).I, (e117 n).M⟩
theorem h118 (n : Nat) : EnvOK Go.Proofs.Try.prog (e118 n) := env_add (h117 n) (s63_ok n)

def s62_l0_0_0 (n : Nat) (d : Int × Int × Bool × Int × (List (List UInt8)) × Int × (List ((List UInt8) × (List Int) × (List (List UInt8)))) × (List (List UInt8)) × Int × (List ((List UInt8) × (List Int) × (List (List UInt8)))) × (List (Int × Int)) × (List (List Int)) × (List UInt8) × (List Int) × (List (List UInt8)) × (List UInt8) × (List Int) × (List (List UInt8)) × Int × Int × Unit) (again : (Int × Int × Bool × Int × (List (List UInt8)) × Int × (List ((List UInt8) × (List Int) × (List (List UInt8)))) × (List (List UInt8)) × Int × (List ((List UInt8) × (List Int) × (List (List UInt8)))) × (List (Int × Int)) × (List (List Int)) × (List UInt8) × (List Int) × (List (List UInt8)) × (List UInt8) × (List Int) × (List (List UInt8)) × Int × Int × Unit) → Option ((List Int) × Bool)) (ks : (Int × Int × Bool × (List (List UInt8)) × Int × (List ((List UInt8) × (List Int) × (List (List UInt8)))) × (List (List UInt8)) × Int × (List ((List UInt8) × (List Int) × (List (List UInt8)))) × (List (Int × Int)) × (List (List Int)) × (List UInt8) × (List Int) × (List (List UInt8)) × (List UInt8) × (List Int) × (List (List UInt8)) × Int × Int × Unit → Option ((List Int) × Bool)) × Unit) : Option ((List Int) × Bool) :=
  match d, ks with
  | (i, m, known, v_k, a, a_1, a_2, b, b_1, b_2, queue, marks, t9, t9_1, t9_2, y, y_1, y_2, next, next_1, _), (k0, _) =>
  bif (decide (v_k < ((List.length queue : Nat) : Int))) then
    (part (!known) (geti queue v_k) ((0 : Int), (0 : Int))).bind fun e =>
    (part (!known) (geti queue v_k) ((0 : Int), (0 : Int))).bind fun x =>
    again (i, m, (known || ((x.1 == next) && (x.2 == next_1))), (IntKind.wrap .i64 (v_k + (1 : Int))), a, a_1, a_2, b, b_1, b_2, queue, marks, t9, t9_1, t9_2, y, y_1, y_2, next, next_1, ())
  else
    k0 (i, m, known, a, a_1, a_2, b, b_1, b_2, queue, marks, t9, t9_1, t9_2, y, y_1, y_2, next, next_1, ())

def s62_l0_0 (n : Nat) (d : Int × Int × (List (List UInt8)) × Int × (List ((List UInt8) × (List Int) × (List (List UInt8)))) × (List (List UInt8)) × Int × (List ((List UInt8) × (List Int) × (List (List UInt8)))) × (List (Int × Int)) × (List (List Int)) × (List UInt8) × (List Int) × (List (List UInt8)) × (List UInt8) × (List Int) × (List (List UInt8)) × Unit) (again : (Int × Int × (List (List UInt8)) × Int × (List ((List UInt8) × (List Int) × (List (List UInt8)))) × (List (List UInt8)) × Int × (List ((List UInt8) × (List Int) × (List (List UInt8)))) × (List (Int × Int)) × (List (List Int)) × (List UInt8) × (List Int) × (List (List UInt8)) × (List UInt8) × (List Int) × (List (List UInt8)) × Unit) → Option ((List Int) × Bool)) (ks : (Int × (List (List UInt8)) × Int × (List ((List UInt8) × (List Int) × (List (List UInt8)))) × (List (List UInt8)) × Int × (List ((List UInt8) × (List Int) × (List (List UInt8)))) × (List (Int × Int)) × (List (List Int)) × Unit → Option ((List Int) × Bool)) × Unit) : Option ((List Int) × Bool) :=
  match d, ks with
  | (i, m, a, a_1, a_2, b, b_1, b_2, queue, marks, t9, t9_1, t9_2, y, y_1, y_2, _), (k0, _) =>
  bif (decide (m < ((List.length a : Nat) : Int))) then
    (geti t9_1 m).bind fun e =>
    (geti y_1 m).bind fun e_1 =>
    loopG (s62_l0_0_0 n) n (i, m, false, (0 : Int), a, a_1, a_2, b, b_1, b_2, queue, marks, t9, t9_1, t9_2, y, y_1, y_2, e, e_1, ())
      (fun (i_2, m_2, known_1, a_6, a_7, a_8, b_6, b_7, b_8, queue_2, marks_2, t9_6, t9_7, t9_8, y_6, y_7, y_8, next_2, next_3, _) =>
        bif (!known_1) then
          (chk (List.length queue_2 + List.length ([(next_2, next_3)] : List (Int × Int)))).bind fun u =>
          (geti marks_2 i_2).bind fun e_3 =>
          (geti marks_2 i_2).bind fun x_1 =>
          (s27 n x_1).bind fun x_2 =>
          (chk (List.length x_2 + List.length ([m_2] : List Int))).bind fun u_1 =>
          (chk (List.length marks_2 + List.length ([(x_2 ++ ([m_2] : List Int))] : List (List Int)))).bind fun u_2 =>
          again (i_2, (IntKind.wrap .i64 (m_2 + (1 : Int))), a_6, a_7, a_8, b_6, b_7, b_8, (queue_2 ++ ([(next_2, next_3)] : List (Int × Int))), (marks_2 ++ ([(x_2 ++ ([m_2] : List Int))] : List (List Int))), t9_6, t9_7, t9_8, y_6, y_7, y_8, ())
        else
          again (i_2, (IntKind.wrap .i64 (m_2 + (1 : Int))), a_6, a_7, a_8, b_6, b_7, b_8, queue_2, marks_2, t9_6, t9_7, t9_8, y_6, y_7, y_8, ()), ())
  else
    k0 (i, a, a_1, a_2, b, b_1, b_2, queue, marks, ())

def s62_l0 (n : Nat) (d : Int × (List (List UInt8)) × Int × (List ((List UInt8) × (List Int) × (List (List UInt8)))) × (List (List UInt8)) × Int × (List ((List UInt8) × (List Int) × (List (List UInt8)))) × (List (Int × Int)) × (List (List Int)) × Unit) (again : (Int × (List (List UInt8)) × Int × (List ((List UInt8) × (List Int) × (List (List UInt8)))) × (List (List UInt8)) × Int × (List ((List UInt8) × (List Int) × (List (List UInt8)))) × (List (Int × Int)) × (List (List Int)) × Unit) → Option ((List Int) × Bool)) (ks : (Unit → Option ((List Int) × Bool)) × ((List Int) × Bool × Unit → Option ((List Int) × Bool)) × Unit) : Option ((List Int) × Bool) :=
  match d, ks with
  | (i, a, a_1, a_2, b, b_1, b_2, queue, marks, _), (k0, k1, _) =>
  bif (decide (i < ((List.length queue : Nat) : Int))) then
    (geti queue i).bind fun e =>
    (geti queue i).bind fun x =>
    (geti a_2 x.1).bind fun e_1 =>
    (geti queue i).bind fun e_2 =>
    (geti queue i).bind fun x_1 =>
    (geti b_2 x_1.2).bind fun e_3 =>
    (s63 n e_1.1).bind fun x_2 =>
    (s63 n e_3.1).bind fun x_3 =>
    bif ((x_2 : List UInt8) != x_3) then
      (geti marks i).bind fun e_4 =>
      (geti marks i).bind fun x_4 =>
      k1 (x_4, true, ())
    else
      loopG (s62_l0_0 n) n (i, (0 : Int), a, a_1, a_2, b, b_1, b_2, queue, marks, e_1.1, e_1.2.1, e_1.2.2, e_3.1, e_3.2.1, e_3.2.2, ())
        (fun (i_4, a_12, a_13, a_14, b_12, b_13, b_14, queue_4, marks_4, _) =>
          again ((IntKind.wrap .i64 (i_4 + (1 : Int))), a_12, a_13, a_14, b_12, b_13, b_14, queue_4, marks_4, ()), ())
  else
    k0 (())

/-- criadera/criaderaref07.Distinguish -/
def s62 (n : Nat) (a : (List (List UInt8)) × Int × (List ((List UInt8) × (List Int) × (List (List UInt8))))) (b : (List (List UInt8)) × Int × (List ((List UInt8) × (List Int) × (List (List UInt8))))) : Option ((List Int) × Bool) :=
  loopG (s62_l0 n) n ((0 : Int), a.1, a.2.1, a.2.2, b.1, b.2.1, b.2.2, ([(a.2.1, b.2.1)] : List (Int × Int)), ([([] : List Int)] : List (List Int)), ())
    (fun (_) =>
      some (([] : List Int), false),
    fun (t4, t5, _) =>
      some (t4, t5), ())

def s62_t0_0_0 : Templ := ⟨107, [(.int .i64), (.int .i64), .bool, (.int .i64), (.slice .str), (.int .i64), (.slice (.pair .str (.pair (.slice (.int .i64)) (.slice .str)))), (.slice .str), (.int .i64), (.slice (.pair .str (.pair (.slice (.int .i64)) (.slice .str)))), (.slice (.pair (.int .i64) (.int .i64))), (.slice (.slice (.int .i64))), .str, (.slice (.int .i64)), (.slice .str), .str, (.slice (.int .i64)), (.slice .str), (.int .i64), (.int .i64)], [(2, .v (.bptr 107 0)), (3, .v (.bptr 108 0)), (6, .v (.hand 109)), (7, .v (.hand 110)), (8, .v (.hole (.int .i64))), (9, .v (.bptr 111 0)), (10, .v (.bptr 112 0)), (11, .v (.hole (.int .i64))), (12, .v (.bptr 113 0)), (13, .v (.hole .bool)), (14, .v (.hole (.int .i64)))], [(107, .box (.pair (.slice .str) (.pair (.int .i64) (.slice (.pair .str (.pair (.slice (.int .i64)) (.slice .str)))))) [.hole (.slice .str), .hole (.int .i64), .hole (.slice (.pair .str (.pair (.slice (.int .i64)) (.slice .str))))]), (108, .box (.pair (.slice .str) (.pair (.int .i64) (.slice (.pair .str (.pair (.slice (.int .i64)) (.slice .str)))))) [.hole (.slice .str), .hole (.int .i64), .hole (.slice (.pair .str (.pair (.slice (.int .i64)) (.slice .str))))]), (109, .buf (.pair (.int .i64) (.int .i64))), (110, .buf (.slice (.int .i64))), (111, .box (.pair .str (.pair (.slice (.int .i64)) (.slice .str))) [.hole .str, .hole (.slice (.int .i64)), .hole (.slice .str)]), (112, .box (.pair .str (.pair (.slice (.int .i64)) (.slice .str))) [.hole .str, .hole (.slice (.int .i64)), .hole (.slice .str)]), (113, .box (.pair (.int .i64) (.int .i64)) [.hole (.int .i64), .hole (.int .i64)])], []⟩
def s62_x0_0_0 : List (Way × Templ) := [(.exit 4, ⟨107, [(.int .i64), (.int .i64), .bool, (.slice .str), (.int .i64), (.slice (.pair .str (.pair (.slice (.int .i64)) (.slice .str)))), (.slice .str), (.int .i64), (.slice (.pair .str (.pair (.slice (.int .i64)) (.slice .str)))), (.slice (.pair (.int .i64) (.int .i64))), (.slice (.slice (.int .i64))), .str, (.slice (.int .i64)), (.slice .str), .str, (.slice (.int .i64)), (.slice .str), (.int .i64), (.int .i64)], [(2, .v (.bptr 107 0)), (3, .v (.bptr 108 0)), (6, .v (.hand 109)), (7, .v (.hand 110)), (8, .v (.hole (.int .i64))), (9, .v (.bptr 111 0)), (10, .v (.bptr 112 0)), (11, .v (.hole (.int .i64))), (12, .v (.bptr 113 0)), (13, .v (.hole .bool))], [(107, .box (.pair (.slice .str) (.pair (.int .i64) (.slice (.pair .str (.pair (.slice (.int .i64)) (.slice .str)))))) [.hole (.slice .str), .hole (.int .i64), .hole (.slice (.pair .str (.pair (.slice (.int .i64)) (.slice .str))))]), (108, .box (.pair (.slice .str) (.pair (.int .i64) (.slice (.pair .str (.pair (.slice (.int .i64)) (.slice .str)))))) [.hole (.slice .str), .hole (.int .i64), .hole (.slice (.pair .str (.pair (.slice (.int .i64)) (.slice .str))))]), (109, .buf (.pair (.int .i64) (.int .i64))), (110, .buf (.slice (.int .i64))), (111, .box (.pair .str (.pair (.slice (.int .i64)) (.slice .str))) [.hole .str, .hole (.slice (.int .i64)), .hole (.slice .str)]), (112, .box (.pair .str (.pair (.slice (.int .i64)) (.slice .str))) [.hole .str, .hole (.slice (.int .i64)), .hole (.slice .str)]), (113, .box (.pair (.int .i64) (.int .i64)) [.hole (.int .i64), .hole (.int .i64)])], []⟩)]
def s62_o0_0_0 (n : Nat) : Ev (denL [(.slice (.int .i64)), .bool]) := loopO n (e118 n) s62_t0_0_0 s62_x0_0_0 (s62_l0_0_0 n)
theorem s62_b0_0_0 (n : Nat) (d) (again) (ks) : codeR (R := (denL [(.slice (.int .i64)), .bool])) (e118 n) (Hdl.no (R := (denL [(.slice (.int .i64)), .bool]))) (inn (lp (inn (lp (inn (lp (bd Go.Proofs.Try.f62) 0)) 0)) 0)) [] (mk s62_t0_0_0 d) (turnR (e118 n) s62_t0_0_0 s62_x0_0_0 again ks) = s62_l0_0_0 n d again ks := by kernel_rfl
theorem s62_s0_0_0 (n : Nat) : Sound Go.Proofs.Try.prog (Hdl.no (R := (denL [(.slice (.int .i64)), .bool]))) false (lp (inn (lp (inn (lp (bd Go.Proofs.Try.f62) 0)) 0)) 0) (s62_o0_0_0 n) := loop_ok (h118 n) hP (by kernel_rfl) (O := []) trivial (s62_b0_0_0 n)
def s62_t0_0 : Templ := ⟨107, [(.int .i64), (.int .i64), (.slice .str), (.int .i64), (.slice (.pair .str (.pair (.slice (.int .i64)) (.slice .str)))), (.slice .str), (.int .i64), (.slice (.pair .str (.pair (.slice (.int .i64)) (.slice .str)))), (.slice (.pair (.int .i64) (.int .i64))), (.slice (.slice (.int .i64))), .str, (.slice (.int .i64)), (.slice .str), .str, (.slice (.int .i64)), (.slice .str)], [(2, .v (.bptr 107 0)), (3, .v (.bptr 108 0)), (6, .v (.hand 109)), (7, .v (.hand 110)), (8, .v (.hole (.int .i64))), (9, .v (.bptr 111 0)), (10, .v (.bptr 112 0)), (11, .v (.hole (.int .i64)))], [(107, .box (.pair (.slice .str) (.pair (.int .i64) (.slice (.pair .str (.pair (.slice (.int .i64)) (.slice .str)))))) [.hole (.slice .str), .hole (.int .i64), .hole (.slice (.pair .str (.pair (.slice (.int .i64)) (.slice .str))))]), (108, .box (.pair (.slice .str) (.pair (.int .i64) (.slice (.pair .str (.pair (.slice (.int .i64)) (.slice .str)))))) [.hole (.slice .str), .hole (.int .i64), .hole (.slice (.pair .str (.pair (.slice (.int .i64)) (.slice .str))))]), (109, .buf (.pair (.int .i64) (.int .i64))), (110, .buf (.slice (.int .i64))), (111, .box (.pair .str (.pair (.slice (.int .i64)) (.slice .str))) [.hole .str, .hole (.slice (.int .i64)), .hole (.slice .str)]), (112, .box (.pair .str (.pair (.slice (.int .i64)) (.slice .str))) [.hole .str, .hole (.slice (.int .i64)), .hole (.slice .str)])], []⟩
def s62_x0_0 : List (Way × Templ) := [(.exit 2, ⟨107, [(.int .i64), (.slice .str), (.int .i64), (.slice (.pair .str (.pair (.slice (.int .i64)) (.slice .str)))), (.slice .str), (.int .i64), (.slice (.pair .str (.pair (.slice (.int .i64)) (.slice .str)))), (.slice (.pair (.int .i64) (.int .i64))), (.slice (.slice (.int .i64)))], [(2, .v (.bptr 107 0)), (3, .v (.bptr 108 0)), (6, .v (.hand 109)), (7, .v (.hand 110)), (8, .v (.hole (.int .i64)))], [(107, .box (.pair (.slice .str) (.pair (.int .i64) (.slice (.pair .str (.pair (.slice (.int .i64)) (.slice .str)))))) [.hole (.slice .str), .hole (.int .i64), .hole (.slice (.pair .str (.pair (.slice (.int .i64)) (.slice .str))))]), (108, .box (.pair (.slice .str) (.pair (.int .i64) (.slice (.pair .str (.pair (.slice (.int .i64)) (.slice .str)))))) [.hole (.slice .str), .hole (.int .i64), .hole (.slice (.pair .str (.pair (.slice (.int .i64)) (.slice .str))))]), (109, .buf (.pair (.int .i64) (.int .i64))), (110, .buf (.slice (.int .i64)))], []⟩)]
def s62_o0_0 (n : Nat) : Ev (denL [(.slice (.int .i64)), .bool]) := loopO n (e118 n) s62_t0_0 s62_x0_0 (s62_l0_0 n)
theorem s62_b0_0 (n : Nat) (d) (again) (ks) : codeR (R := (denL [(.slice (.int .i64)), .bool])) (e118 n) (Hdl.no (R := (denL [(.slice (.int .i64)), .bool]))) (inn (lp (inn (lp (bd Go.Proofs.Try.f62) 0)) 0)) [s62_o0_0_0 n] (mk s62_t0_0 d) (turnR (e118 n) s62_t0_0 s62_x0_0 again ks) = s62_l0_0 n d again ks := by kernel_rfl
theorem s62_s0_0 (n : Nat) : Sound Go.Proofs.Try.prog (Hdl.no (R := (denL [(.slice (.int .i64)), .bool]))) false (lp (inn (lp (bd Go.Proofs.Try.f62) 0)) 0) (s62_o0_0 n) := loop_ok (h118 n) hP (by kernel_rfl) (O := [s62_o0_0_0 n]) ⟨s62_s0_0_0 n, trivial⟩ (s62_b0_0 n)
def s62_t0 : Templ := ⟨107, [(.int .i64), (.slice .str), (.int .i64), (.slice (.pair .str (.pair (.slice (.int .i64)) (.slice .str)))), (.slice .str), (.int .i64), (.slice (.pair .str (.pair (.slice (.int .i64)) (.slice .str)))), (.slice (.pair (.int .i64) (.int .i64))), (.slice (.slice (.int .i64)))], [(2, .v (.bptr 107 0)), (3, .v (.bptr 108 0)), (6, .v (.hand 109)), (7, .v (.hand 110)), (8, .v (.hole (.int .i64)))], [(107, .box (.pair (.slice .str) (.pair (.int .i64) (.slice (.pair .str (.pair (.slice (.int .i64)) (.slice .str)))))) [.hole (.slice .str), .hole (.int .i64), .hole (.slice (.pair .str (.pair (.slice (.int .i64)) (.slice .str))))]), (108, .box (.pair (.slice .str) (.pair (.int .i64) (.slice (.pair .str (.pair (.slice (.int .i64)) (.slice .str)))))) [.hole (.slice .str), .hole (.int .i64), .hole (.slice (.pair .str (.pair (.slice (.int .i64)) (.slice .str))))]), (109, .buf (.pair (.int .i64) (.int .i64))), (110, .buf (.slice (.int .i64)))], []⟩
def s62_x0 : List (Way × Templ) := [(.exit 0, ⟨107, [], [], [], []⟩), (.ret, ⟨107, [(.slice (.int .i64)), .bool], [(4, .v (.hole (.slice (.int .i64)))), (5, .v (.hole .bool))], [], []⟩)]
def s62_o0 (n : Nat) : Ev (denL [(.slice (.int .i64)), .bool]) := loopO n (e118 n) s62_t0 s62_x0 (s62_l0 n)
theorem s62_b0 (n : Nat) (d) (again) (ks) : codeR (R := (denL [(.slice (.int .i64)), .bool])) (e118 n) (Hdl.no (R := (denL [(.slice (.int .i64)), .bool]))) (inn (lp (bd Go.Proofs.Try.f62) 0)) [s62_o0_0 n] (mk s62_t0 d) (turnR (e118 n) s62_t0 s62_x0 again ks) = s62_l0 n d again ks := by kernel_rfl
theorem s62_s0 (n : Nat) : Sound Go.Proofs.Try.prog (Hdl.no (R := (denL [(.slice (.int .i64)), .bool]))) false (lp (bd Go.Proofs.Try.f62) 0) (s62_o0 n) := loop_ok (h118 n) hP (by kernel_rfl) (O := [s62_o0_0 n]) ⟨s62_s0_0 n, trivial⟩ (s62_b0 n)
def s62_c (n : Nat) : Con := ⟨[(.pair (.slice .str) (.pair (.int .i64) (.slice (.pair .str (.pair (.slice (.int .i64)) (.slice .str)))))), (.pair (.slice .str) (.pair (.int .i64) (.slice (.pair .str (.pair (.slice (.int .i64)) (.slice .str))))))], [], [(.slice (.int .i64)), .bool], fun x y => s62 n x.1 x.2, false⟩
theorem s62_eq (n : Nat) (x : denL [(.pair (.slice .str) (.pair (.int .i64) (.slice (.pair .str (.pair (.slice (.int .i64)) (.slice .str)))))), (.pair (.slice .str) (.pair (.int .i64) (.slice (.pair .str (.pair (.slice (.int .i64)) (.slice .str))))))]) (y : denL []) : funR (e118 n) Go.Proofs.Try.f62 [(.pair (.slice .str) (.pair (.int .i64) (.slice (.pair .str (.pair (.slice (.int .i64)) (.slice .str)))))), (.pair (.slice .str) (.pair (.int .i64) (.slice (.pair .str (.pair (.slice (.int .i64)) (.slice .str))))))] [] [(.slice (.int .i64)), .bool] false [s62_o0 n] x y = (s62_c n).fn x y := by kernel_rfl
theorem s62_ok (n : Nat) : ConOK Go.Proofs.Try.prog 62 (s62_c n) := func_ok (h118 n) hP Go.Proofs.Try.func62 (by kernel_rfl) (by kernel_rfl) (O := [s62_o0 n]) ⟨s62_s0 n, trivial⟩ (s62_eq n)
def e119 (n : Nat) : Env := ⟨gT, (62, s62_c n) :: (e118 n).C, gQ, (e118 n).I, (e118 n).M⟩
theorem h119 (n : Nat) : EnvOK Go.Proofs.Try.prog (e119 n) := env_add (h118 n) (s62_ok n)

/-- criadera/criaderalaw07.TasteApart -/
def s11 (n : Nat) (a : (List (List UInt8)) × Int × (List ((List UInt8) × (List Int) × (List (List UInt8))))) (b : (List (List UInt8)) × Int × (List ((List UInt8) × (List Int) × (List (List UInt8))))) (marks : List Int) : Option (Bool) :=
  (s15 n).bind fun x =>
  bif (!x) then
    some (false)
  else
    (s16 n (a.1, (a.2.1, a.2.2))).bind fun x_1 =>
    (part (!(!x_1)) (s16 n (b.1, (b.2.1, b.2.2))) false).bind fun x_2 =>
    bif (((!x_1) || (!x_2)) || (decide (((List.length marks : Nat) : Int) > (12 : Int)))) then
      some (true)
    else
      (s21 n (a.1, (a.2.1, a.2.2))).bind fun x_3 =>
      (s21 n (b.1, (b.2.1, b.2.2))).bind fun x_4 =>
      (s60 n x_3 x_4).bind fun x_5 =>
      (s17 n (a.1, (a.2.1, a.2.2))).bind fun x_6 =>
      bif (x_6 == (0 : Int)) then
        (s17 n (b.1, (b.2.1, b.2.2))).bind fun x_7 =>
        (part (x_7 == (0 : Int)) (s61 n (a.1, (a.2.1, a.2.2)) (b.1, (b.2.1, b.2.2))) false).bind fun x_8 =>
        bif ((x_7 == (0 : Int)) && (!x_8)) then
          bif ((13 : Int) != (0 : Int)) then
            some (((x_5.2 == (13 : Int)) && (((List.length x_5.1 : Nat) : Int) == (0 : Int))))
          else
            (s62 n (a.1, (a.2.1, a.2.2)) (b.1, (b.2.1, b.2.2))).bind fun x_9 =>
            (part (x_9.2 && (!(x_5.2 != (0 : Int)))) (s32 n x_5.1 x_9.1) false).bind fun x_10 =>
            bif ((x_9.2 && ((x_5.2 != (0 : Int)) || (!x_10))) || ((!x_9.2) && ((x_5.2 != (12 : Int)) || (((List.length x_5.1 : Nat) : Int) != (0 : Int))))) then
              some (false)
            else
              (s21 n (a.1, (a.2.1, a.2.2))).bind fun x_11 =>
              (s21 n (a.1, (a.2.1, a.2.2))).bind fun x_12 =>
              (s60 n x_11 x_12).bind fun x_13 =>
              bif (x_13.2 != (12 : Int)) then
                some (false)
              else
                (s18 n (a.1, (a.2.1, a.2.2)) marks).bind fun x_14 =>
                (part (!(x_14 != (0 : Int))) (s22 n (a.1, (a.2.1, a.2.2)) marks) (0 : Int)).bind fun x_15 =>
                (part (!(x_14 != (0 : Int))) (geti a.2.2 x_15) ([], ([], []))).bind fun e =>
                (part (!(x_14 != (0 : Int))) (s63 n e.1) []).bind fun x_16 =>
                (part (!(x_14 != (0 : Int))) (s22 n (b.1, (b.2.1, b.2.2)) marks) (0 : Int)).bind fun x_17 =>
                (part (!(x_14 != (0 : Int))) (geti b.2.2 x_17) ([], ([], []))).bind fun e_1 =>
                (part (!(x_14 != (0 : Int))) (s63 n e_1.1) []).bind fun x_18 =>
                bif ((x_14 != (0 : Int)) || ((x_16 : List UInt8) == x_18)) then
                  some (true)
                else
                  (part x_9.2 (s23 n marks x_5.1) false).bind fun x_19 =>
                  some ((x_9.2 && (!x_19)))
        else
          bif (x_7 != (0 : Int)) then
            some (((x_5.2 == x_7) && (((List.length x_5.1 : Nat) : Int) == (0 : Int))))
          else
            (s62 n (a.1, (a.2.1, a.2.2)) (b.1, (b.2.1, b.2.2))).bind fun x_20 =>
            (part (x_20.2 && (!(x_5.2 != (0 : Int)))) (s32 n x_5.1 x_20.1) false).bind fun x_21 =>
            bif ((x_20.2 && ((x_5.2 != (0 : Int)) || (!x_21))) || ((!x_20.2) && ((x_5.2 != (12 : Int)) || (((List.length x_5.1 : Nat) : Int) != (0 : Int))))) then
              some (false)
            else
              (s21 n (a.1, (a.2.1, a.2.2))).bind fun x_22 =>
              (s21 n (a.1, (a.2.1, a.2.2))).bind fun x_23 =>
              (s60 n x_22 x_23).bind fun x_24 =>
              bif (x_24.2 != (12 : Int)) then
                some (false)
              else
                (s18 n (a.1, (a.2.1, a.2.2)) marks).bind fun x_25 =>
                (part (!(x_25 != (0 : Int))) (s22 n (a.1, (a.2.1, a.2.2)) marks) (0 : Int)).bind fun x_26 =>
                (part (!(x_25 != (0 : Int))) (geti a.2.2 x_26) ([], ([], []))).bind fun e_2 =>
                (part (!(x_25 != (0 : Int))) (s63 n e_2.1) []).bind fun x_27 =>
                (part (!(x_25 != (0 : Int))) (s22 n (b.1, (b.2.1, b.2.2)) marks) (0 : Int)).bind fun x_28 =>
                (part (!(x_25 != (0 : Int))) (geti b.2.2 x_28) ([], ([], []))).bind fun e_3 =>
                (part (!(x_25 != (0 : Int))) (s63 n e_3.1) []).bind fun x_29 =>
                bif ((x_25 != (0 : Int)) || ((x_27 : List UInt8) == x_29)) then
                  some (true)
                else
                  (part x_20.2 (s23 n marks x_5.1) false).bind fun x_30 =>
                  some ((x_20.2 && (!x_30)))
      else
        (part (x_6 == (0 : Int)) (s61 n (a.1, (a.2.1, a.2.2)) (b.1, (b.2.1, b.2.2))) false).bind fun x_31 =>
        bif ((x_6 == (0 : Int)) && (!x_31)) then
          bif ((13 : Int) != (0 : Int)) then
            some (((x_5.2 == (13 : Int)) && (((List.length x_5.1 : Nat) : Int) == (0 : Int))))
          else
            (s62 n (a.1, (a.2.1, a.2.2)) (b.1, (b.2.1, b.2.2))).bind fun x_32 =>
            (part (x_32.2 && (!(x_5.2 != (0 : Int)))) (s32 n x_5.1 x_32.1) false).bind fun x_33 =>
            bif ((x_32.2 && ((x_5.2 != (0 : Int)) || (!x_33))) || ((!x_32.2) && ((x_5.2 != (12 : Int)) || (((List.length x_5.1 : Nat) : Int) != (0 : Int))))) then
              some (false)
            else
              (s21 n (a.1, (a.2.1, a.2.2))).bind fun x_34 =>
              (s21 n (a.1, (a.2.1, a.2.2))).bind fun x_35 =>
              (s60 n x_34 x_35).bind fun x_36 =>
              bif (x_36.2 != (12 : Int)) then
                some (false)
              else
                (s18 n (a.1, (a.2.1, a.2.2)) marks).bind fun x_37 =>
                (part (!(x_37 != (0 : Int))) (s22 n (a.1, (a.2.1, a.2.2)) marks) (0 : Int)).bind fun x_38 =>
                (part (!(x_37 != (0 : Int))) (geti a.2.2 x_38) ([], ([], []))).bind fun e_4 =>
                (part (!(x_37 != (0 : Int))) (s63 n e_4.1) []).bind fun x_39 =>
                (part (!(x_37 != (0 : Int))) (s22 n (b.1, (b.2.1, b.2.2)) marks) (0 : Int)).bind fun x_40 =>
                (part (!(x_37 != (0 : Int))) (geti b.2.2 x_40) ([], ([], []))).bind fun e_5 =>
                (part (!(x_37 != (0 : Int))) (s63 n e_5.1) []).bind fun x_41 =>
                bif ((x_37 != (0 : Int)) || ((x_39 : List UInt8) == x_41)) then
                  some (true)
                else
                  (part x_32.2 (s23 n marks x_5.1) false).bind fun x_42 =>
                  some ((x_32.2 && (!x_42)))
        else
          bif (x_6 != (0 : Int)) then
            some (((x_5.2 == x_6) && (((List.length x_5.1 : Nat) : Int) == (0 : Int))))
          else
            (s62 n (a.1, (a.2.1, a.2.2)) (b.1, (b.2.1, b.2.2))).bind fun x_43 =>
            (part (x_43.2 && (!(x_5.2 != (0 : Int)))) (s32 n x_5.1 x_43.1) false).bind fun x_44 =>
            bif ((x_43.2 && ((x_5.2 != (0 : Int)) || (!x_44))) || ((!x_43.2) && ((x_5.2 != (12 : Int)) || (((List.length x_5.1 : Nat) : Int) != (0 : Int))))) then
              some (false)
            else
              (s21 n (a.1, (a.2.1, a.2.2))).bind fun x_45 =>
              (s21 n (a.1, (a.2.1, a.2.2))).bind fun x_46 =>
              (s60 n x_45 x_46).bind fun x_47 =>
              bif (x_47.2 != (12 : Int)) then
                some (false)
              else
                (s18 n (a.1, (a.2.1, a.2.2)) marks).bind fun x_48 =>
                (part (!(x_48 != (0 : Int))) (s22 n (a.1, (a.2.1, a.2.2)) marks) (0 : Int)).bind fun x_49 =>
                (part (!(x_48 != (0 : Int))) (geti a.2.2 x_49) ([], ([], []))).bind fun e_6 =>
                (part (!(x_48 != (0 : Int))) (s63 n e_6.1) []).bind fun x_50 =>
                (part (!(x_48 != (0 : Int))) (s22 n (b.1, (b.2.1, b.2.2)) marks) (0 : Int)).bind fun x_51 =>
                (part (!(x_48 != (0 : Int))) (geti b.2.2 x_51) ([], ([], []))).bind fun e_7 =>
                (part (!(x_48 != (0 : Int))) (s63 n e_7.1) []).bind fun x_52 =>
                bif ((x_48 != (0 : Int)) || ((x_50 : List UInt8) == x_52)) then
                  some (true)
                else
                  (part x_43.2 (s23 n marks x_5.1) false).bind fun x_53 =>
                  some ((x_43.2 && (!x_53)))

def s11_c (n : Nat) : Con := ⟨[(.pair (.slice .str) (.pair (.int .i64) (.slice (.pair .str (.pair (.slice (.int .i64)) (.slice .str)))))), (.pair (.slice .str) (.pair (.int .i64) (.slice (.pair .str (.pair (.slice (.int .i64)) (.slice .str)))))), (.slice (.int .i64))], [], [.bool], fun x y => s11 n x.1 x.2.1 x.2.2, false⟩
theorem s11_eq (n : Nat) (x : denL [(.pair (.slice .str) (.pair (.int .i64) (.slice (.pair .str (.pair (.slice (.int .i64)) (.slice .str)))))), (.pair (.slice .str) (.pair (.int .i64) (.slice (.pair .str (.pair (.slice (.int .i64)) (.slice .str)))))), (.slice (.int .i64))]) (y : denL []) : funR (e119 n) Go.Proofs.Try.f11 [(.pair (.slice .str) (.pair (.int .i64) (.slice (.pair .str (.pair (.slice (.int .i64)) (.slice .str)))))), (.pair (.slice .str) (.pair (.int .i64) (.slice (.pair .str (.pair (.slice (.int .i64)) (.slice .str)))))), (.slice (.int .i64))] [] [.bool] false [] x y = (s11_c n).fn x y := by kernel_rfl
theorem s11_ok (n : Nat) : ConOK Go.Proofs.Try.prog 11 (s11_c n) := func_ok (h119 n) hP Go.Proofs.Try.func11 (by kernel_rfl) (by kernel_rfl) (O := []) trivial (s11_eq n)
def e120 (n : Nat) : Env := ⟨gT, (11, s11_c n) :: (e119 n).C, gQ, (e119 n).I, (e119 n).M⟩
theorem h120 (n : Nat) : EnvOK Go.Proofs.Try.prog (e120 n) := env_add (h119 n) (s11_ok n)

def e121 (n : Nat) : Env := ⟨gT, (e120 n).C, gQ, (e120 n).I, (123, s123_c n) :: (e120 n).M⟩
theorem h121 (n : Nat) : EnvOK Go.Proofs.Try.prog (e121 n) := env_mu (h120 n) (s123_ok n)

def s73_l0 (n : Nat) (d : (List (Int × (List Int))) × (List Int) × Unit) (y : Int × (List Int)) (again : ((List (Int × (List Int))) × (List Int) × Unit) → Option ((List Int) × Int)) (ks : Unit) : Option ((List Int) × Int) :=
  match d, ks with
  | (t19, out, _), (_) =>
  (chk (List.length out + List.length ([y.1] : List Int))).bind fun u =>
  again (t19, (out ++ ([y.1] : List Int)), ())

/-- criadera/taste.Reachable -/
def s73 (n : Nat) (b : (List (List UInt8)) × Int × (List ((List UInt8) × (List Int) × (List (List UInt8))))) : Option ((List Int) × Int) :=
  (s79 n (b.1, (b.2.1, b.2.2))).bind fun x =>
  bif (x.2 != (0 : Int)) then
    some (([] : List Int), x.2)
  else
    (s83 n (x.1.1, (x.1.2.1, x.1.2.2)) b.2.1).bind fun x_1 =>
    rangeG (s73_l0 n) (()) (fun (t19_1, out_1, _) =>
        (s123 n out_1).bind fun l =>
        some (l, (0 : Int))) x_1 (x_1, ([] : List Int), ())

def s73_t0 : Templ := ⟨29, [(.seq (.pair (.int .i64) (.slice (.int .i64)))), (.slice (.int .i64))], [(6, .v (.bptr 29 0)), (19, .v (.hole (.seq (.pair (.int .i64) (.slice (.int .i64))))))], [(29, .box (.slice (.int .i64)) [.hand 30]), (30, .buf (.int .i64))], []⟩
def s73_x0 : List (Way × Templ) := []
theorem s73_b0 (n : Nat) (d) (x) (again) (ks) : codeR (R := (denL [(.slice (.int .i64)), (.int .i64)])) (e121 n) (Hdl.no (R := (denL [(.slice (.int .i64)), (.int .i64)]))) (rgA (lp (bd Go.Proofs.Try.f73) 0)) [] (mkB s73_t0 [6, 19] 20 (.pair (.int .i64) (.slice (.int .i64))) d x) (thenB fun st => codeR (R := (denL [(.slice (.int .i64)), (.int .i64)])) (e121 n) (Hdl.no (R := (denL [(.slice (.int .i64)), (.int .i64)]))) (rgB (lp (bd Go.Proofs.Try.f73) 0)) [] st (turnB (e121 n) s73_t0 [6, 19] s73_x0 again ks)) = s73_l0 n d x again ks := by kernel_rfl
theorem s73_s0 (n : Nat) : Sound Go.Proofs.Try.prog (Hdl.no (R := (denL [(.slice (.int .i64)), (.int .i64)]))) false (lp (bd Go.Proofs.Try.f73) 0) ((fun n => rangeO (R := (denL [(.slice (.int .i64)), (.int .i64)])) (e121 n) (.pair (.int .i64) (.slice (.int .i64))) (rgG (lp (bd Go.Proofs.Try.f73) 0)) s73_t0 s73_x0 (s73_l0 n)) n) := range_ok (h121 n) hP (p := 20) (F := [6, 19]) (Oa := []) (Ob := []) (by kernel_rfl) rfl (by decide) (by decide) rfl trivial trivial (s73_b0 n)
def s73_c (n : Nat) : Con := ⟨[(.pair (.slice .str) (.pair (.int .i64) (.slice (.pair .str (.pair (.slice (.int .i64)) (.slice .str))))))], [], [(.slice (.int .i64)), (.int .i64)], fun x y => s73 n x, false⟩
theorem s73_eq (n : Nat) (x : denL [(.pair (.slice .str) (.pair (.int .i64) (.slice (.pair .str (.pair (.slice (.int .i64)) (.slice .str))))))]) (y : denL []) : funR (e121 n) Go.Proofs.Try.f73 [(.pair (.slice .str) (.pair (.int .i64) (.slice (.pair .str (.pair (.slice (.int .i64)) (.slice .str))))))] [] [(.slice (.int .i64)), (.int .i64)] false [(fun n => rangeO (R := (denL [(.slice (.int .i64)), (.int .i64)])) (e121 n) (.pair (.int .i64) (.slice (.int .i64))) (rgG (lp (bd Go.Proofs.Try.f73) 0)) s73_t0 s73_x0 (s73_l0 n)) n] x y = (s73_c n).fn x y := by kernel_rfl
theorem s73_ok (n : Nat) : ConOK Go.Proofs.Try.prog 73 (s73_c n) := func_ok (h121 n) hP Go.Proofs.Try.func73 (by kernel_rfl) (by kernel_rfl) (O := [(fun n => rangeO (R := (denL [(.slice (.int .i64)), (.int .i64)])) (e121 n) (.pair (.int .i64) (.slice (.int .i64))) (rgG (lp (bd Go.Proofs.Try.f73) 0)) s73_t0 s73_x0 (s73_l0 n)) n]) ⟨s73_s0 n, trivial⟩ (s73_eq n)
def e122 (n : Nat) : Env := ⟨gT, (73, s73_c n) :: (e121 n).C, gQ, (e121 n).I, (e121 n).M⟩
theorem h122 (n : Nat) : EnvOK Go.Proofs.Try.prog (e122 n) := env_add (h121 n) (s73_ok n)

def s74_l0_0 (n : Nat) (d : Int × Int × (List (Int × (List Int))) × (List (List UInt8)) × Int × (List ((List UInt8) × (List Int) × (List (List UInt8)))) × (List Int) × Int × Bool × Unit) (y : Int × (List Int)) (again : (Int × Int × (List (Int × (List Int))) × (List (List UInt8)) × Int × (List ((List UInt8) × (List Int) × (List (List UInt8)))) × (List Int) × Int × Bool × Unit) → Option ((List Int) × Int)) (ks : Unit) : Option ((List Int) × Int) :=
  match d, ks with
  | (t20, t21, t26, t4, t4_1, t4_2, out, v_class, trapped, _), (_) =>
  (part trapped (s116 n (t4, (t4_1, t4_2)) y.1) []).bind fun x =>
  (part trapped (s116 n (t4, (t4_1, t4_2)) v_class) []).bind fun x_1 =>
  again (t20, t21, t26, t4, t4_1, t4_2, out, v_class, (trapped && ((x : List UInt8) == x_1)), ())

def s74_l0 (n : Nat) (d : Int × Int × (List (List UInt8)) × Int × (List ((List UInt8) × (List Int) × (List (List UInt8)))) × (List Int) × Unit) (again : (Int × Int × (List (List UInt8)) × Int × (List ((List UInt8) × (List Int) × (List (List UInt8)))) × (List Int) × Unit) → Option ((List Int) × Int)) (ks : ((List Int) × Unit → Option ((List Int) × Int)) × Unit) : Option ((List Int) × Int) :=
  match d, ks with
  | (t20, t21, t4, t4_1, t4_2, out, _), (k0, _) =>
  bif (decide (t21 < t20)) then
    (s83 n (t4, (t4_1, t4_2)) t21).bind fun x =>
    rangeG (s74_l0_0 n) (()) (fun (t20_2, t21_2, t26_1, t4_6, t4_7, t4_8, out_2, v_class_1, trapped_1, _) =>
        bif trapped_1 then
          (chk (List.length out_2 + List.length ([v_class_1] : List Int))).bind fun u =>
          again (t20_2, (IntKind.wrap .i64 (t21_2 + (1 : Int))), t4_6, t4_7, t4_8, (out_2 ++ ([v_class_1] : List Int)), ())
        else
          again (t20_2, (IntKind.wrap .i64 (t21_2 + (1 : Int))), t4_6, t4_7, t4_8, out_2, ())) x (t20, t21, x, t4, t4_1, t4_2, out, t21, true, ())
  else
    k0 (out, ())

/-- criadera/taste.Trapped -/
def s74 (n : Nat) (b : (List (List UInt8)) × Int × (List ((List UInt8) × (List Int) × (List (List UInt8))))) : Option ((List Int) × Int) :=
  (s79 n (b.1, (b.2.1, b.2.2))).bind fun x =>
  bif (x.2 != (0 : Int)) then
    some (([] : List Int), x.2)
  else
    loopG (s74_l0 n) n (((List.length b.2.2 : Nat) : Int), (0 : Int), x.1.1, x.1.2.1, x.1.2.2, ([] : List Int), ())
      (fun (out_3, _) =>
        some (out_3, (0 : Int)), ())

def s74_t0_0 : Templ := ⟨46, [(.int .i64), (.int .i64), (.seq (.pair (.int .i64) (.slice (.int .i64)))), (.slice .str), (.int .i64), (.slice (.pair .str (.pair (.slice (.int .i64)) (.slice .str)))), (.slice (.int .i64)), (.int .i64), .bool], [(4, .v (.bptr 46 0)), (6, .v (.hand 47)), (7, .v (.bptr 48 0)), (8, .v (.bptr 49 0)), (20, .v (.hole (.int .i64))), (21, .v (.hole (.int .i64))), (26, .v (.hole (.seq (.pair (.int .i64) (.slice (.int .i64))))))], [(46, .box (.pair (.slice .str) (.pair (.int .i64) (.slice (.pair .str (.pair (.slice (.int .i64)) (.slice .str)))))) [.hole (.slice .str), .hole (.int .i64), .hole (.slice (.pair .str (.pair (.slice (.int .i64)) (.slice .str))))]), (47, .buf (.int .i64)), (48, .box (.int .i64) [.hole (.int .i64)]), (49, .box .bool [.hole .bool])], []⟩
def s74_x0_0 : List (Way × Templ) := []
theorem s74_b0_0 (n : Nat) (d) (x) (again) (ks) : codeR (R := (denL [(.slice (.int .i64)), (.int .i64)])) (e122 n) (Hdl.no (R := (denL [(.slice (.int .i64)), (.int .i64)]))) (rgA (lp (inn (lp (bd Go.Proofs.Try.f74) 0)) 0)) [] (mkB s74_t0_0 [4, 6, 7, 8, 20, 21, 26] 27 (.pair (.int .i64) (.slice (.int .i64))) d x) (thenB fun st => codeR (R := (denL [(.slice (.int .i64)), (.int .i64)])) (e122 n) (Hdl.no (R := (denL [(.slice (.int .i64)), (.int .i64)]))) (rgB (lp (inn (lp (bd Go.Proofs.Try.f74) 0)) 0)) [] st (turnB (e122 n) s74_t0_0 [4, 6, 7, 8, 20, 21, 26] s74_x0_0 again ks)) = s74_l0_0 n d x again ks := by kernel_rfl
theorem s74_s0_0 (n : Nat) : Sound Go.Proofs.Try.prog (Hdl.no (R := (denL [(.slice (.int .i64)), (.int .i64)]))) false (lp (inn (lp (bd Go.Proofs.Try.f74) 0)) 0) ((fun n => rangeO (R := (denL [(.slice (.int .i64)), (.int .i64)])) (e122 n) (.pair (.int .i64) (.slice (.int .i64))) (rgG (lp (inn (lp (bd Go.Proofs.Try.f74) 0)) 0)) s74_t0_0 s74_x0_0 (s74_l0_0 n)) n) := range_ok (h122 n) hP (p := 27) (F := [4, 6, 7, 8, 20, 21, 26]) (Oa := []) (Ob := []) (by kernel_rfl) rfl (by decide) (by decide) rfl trivial trivial (s74_b0_0 n)
def s74_t0 : Templ := ⟨46, [(.int .i64), (.int .i64), (.slice .str), (.int .i64), (.slice (.pair .str (.pair (.slice (.int .i64)) (.slice .str)))), (.slice (.int .i64))], [(4, .v (.bptr 46 0)), (6, .v (.hand 47)), (20, .v (.hole (.int .i64))), (21, .v (.hole (.int .i64)))], [(46, .box (.pair (.slice .str) (.pair (.int .i64) (.slice (.pair .str (.pair (.slice (.int .i64)) (.slice .str)))))) [.hole (.slice .str), .hole (.int .i64), .hole (.slice (.pair .str (.pair (.slice (.int .i64)) (.slice .str))))]), (47, .buf (.int .i64))], []⟩
def s74_x0 : List (Way × Templ) := [(.exit 0, ⟨46, [(.slice (.int .i64))], [(6, .v (.hand 46))], [(46, .buf (.int .i64))], []⟩)]
def s74_o0 (n : Nat) : Ev (denL [(.slice (.int .i64)), (.int .i64)]) := loopO n (e122 n) s74_t0 s74_x0 (s74_l0 n)
theorem s74_b0 (n : Nat) (d) (again) (ks) : codeR (R := (denL [(.slice (.int .i64)), (.int .i64)])) (e122 n) (Hdl.no (R := (denL [(.slice (.int .i64)), (.int .i64)]))) (inn (lp (bd Go.Proofs.Try.f74) 0)) [(fun n => rangeO (R := (denL [(.slice (.int .i64)), (.int .i64)])) (e122 n) (.pair (.int .i64) (.slice (.int .i64))) (rgG (lp (inn (lp (bd Go.Proofs.Try.f74) 0)) 0)) s74_t0_0 s74_x0_0 (s74_l0_0 n)) n] (mk s74_t0 d) (turnR (e122 n) s74_t0 s74_x0 again ks) = s74_l0 n d again ks := by kernel_rfl
theorem s74_s0 (n : Nat) : Sound Go.Proofs.Try.prog (Hdl.no (R := (denL [(.slice (.int .i64)), (.int .i64)]))) false (lp (bd Go.Proofs.Try.f74) 0) (s74_o0 n) := loop_ok (h122 n) hP (by kernel_rfl) (O := [(fun n => rangeO (R := (denL [(.slice (.int .i64)), (.int .i64)])) (e122 n) (.pair (.int .i64) (.slice (.int .i64))) (rgG (lp (inn (lp (bd Go.Proofs.Try.f74) 0)) 0)) s74_t0_0 s74_x0_0 (s74_l0_0 n)) n]) ⟨s74_s0_0 n, trivial⟩ (s74_b0 n)
def s74_c (n : Nat) : Con := ⟨[(.pair (.slice .str) (.pair (.int .i64) (.slice (.pair .str (.pair (.slice (.int .i64)) (.slice .str))))))], [], [(.slice (.int .i64)), (.int .i64)], fun x y => s74 n x, false⟩
theorem s74_eq (n : Nat) (x : denL [(.pair (.slice .str) (.pair (.int .i64) (.slice (.pair .str (.pair (.slice (.int .i64)) (.slice .str))))))]) (y : denL []) : funR (e122 n) Go.Proofs.Try.f74 [(.pair (.slice .str) (.pair (.int .i64) (.slice (.pair .str (.pair (.slice (.int .i64)) (.slice .str))))))] [] [(.slice (.int .i64)), (.int .i64)] false [s74_o0 n] x y = (s74_c n).fn x y := by kernel_rfl
theorem s74_ok (n : Nat) : ConOK Go.Proofs.Try.prog 74 (s74_c n) := func_ok (h122 n) hP Go.Proofs.Try.func74 (by kernel_rfl) (by kernel_rfl) (O := [s74_o0 n]) ⟨s74_s0 n, trivial⟩ (s74_eq n)
def e123 (n : Nat) : Env := ⟨gT, (74, s74_c n) :: (e122 n).C, gQ, (e122 n).I, (e122 n).M⟩
theorem h123 (n : Nat) : EnvOK Go.Proofs.Try.prog (e123 n) := env_add (h122 n) (s74_ok n)

def s122_l0_0 (n : Nat) (d : Int × Int × (List (List UInt8)) × Int × (List ((List UInt8) × (List Int) × (List (List UInt8)))) × (List (List Int)) × (List Bool) × (List Int) × Unit) (again : (Int × Int × (List (List UInt8)) × Int × (List ((List UInt8) × (List Int) × (List (List UInt8)))) × (List (List Int)) × (List Bool) × (List Int) × Unit) → Option ((List (List Int)) × (List Bool) × (List Int))) (ks : (Int × (List (List UInt8)) × Int × (List ((List UInt8) × (List Int) × (List (List UInt8)))) × (List (List Int)) × (List Bool) × (List Int) × Unit → Option ((List (List Int)) × (List Bool) × (List Int))) × Unit) : Option ((List (List Int)) × (List Bool) × (List Int)) :=
  match d, ks with
  | (i, m, b, b_1, b_2, marks, known, order, _), (k0, _) =>
  bif (decide (m < ((List.length b : Nat) : Int))) then
    (geti order i).bind fun e =>
    (geti order i).bind fun x =>
    (geti b_2 x).bind fun e_1 =>
    (geti e_1.2.1 m).bind fun e_2 =>
    (geti known e_2).bind fun e_3 =>
    (geti known e_2).bind fun x_1 =>
    bif (!x_1) then
      (geti order i).bind fun e_4 =>
      (geti order i).bind fun x_2 =>
      (geti marks x_2).bind fun e_5 =>
      (geti marks x_2).bind fun x_3 =>
      (s27 n x_3).bind fun x_4 =>
      (chk (List.length x_4 + List.length ([m] : List Int))).bind fun u =>
      (geti known e_2).bind fun e_6 =>
      (seti known e_2 true).bind fun l =>
      (geti marks e_2).bind fun e_7 =>
      (seti marks e_2 (x_4 ++ ([m] : List Int))).bind fun l_1 =>
      (chk (List.length order + List.length ([e_2] : List Int))).bind fun u_1 =>
      again (i, (IntKind.wrap .i64 (m + (1 : Int))), b, b_1, b_2, l_1, l, (order ++ ([e_2] : List Int)), ())
    else
      again (i, (IntKind.wrap .i64 (m + (1 : Int))), b, b_1, b_2, marks, known, order, ())
  else
    k0 (i, b, b_1, b_2, marks, known, order, ())

def s122_l0 (n : Nat) (d : Int × (List (List UInt8)) × Int × (List ((List UInt8) × (List Int) × (List (List UInt8)))) × (List (List Int)) × (List Bool) × (List Int) × Unit) (again : (Int × (List (List UInt8)) × Int × (List ((List UInt8) × (List Int) × (List (List UInt8)))) × (List (List Int)) × (List Bool) × (List Int) × Unit) → Option ((List (List Int)) × (List Bool) × (List Int))) (ks : ((List (List Int)) × (List Bool) × (List Int) × Unit → Option ((List (List Int)) × (List Bool) × (List Int))) × Unit) : Option ((List (List Int)) × (List Bool) × (List Int)) :=
  match d, ks with
  | (i, b, b_1, b_2, marks, known, order, _), (k0, _) =>
  bif (decide (i < ((List.length order : Nat) : Int))) then
    loopG (s122_l0_0 n) n (i, (0 : Int), b, b_1, b_2, marks, known, order, ())
      (fun (i_2, b_6, b_7, b_8, marks_2, known_2, order_2, _) =>
        again ((IntKind.wrap .i64 (i_2 + (1 : Int))), b_6, b_7, b_8, marks_2, known_2, order_2, ()), ())
  else
    k0 (marks, known, order, ())

/-- criadera/criaderaref07.firsts -/
def s122 (n : Nat) (b : (List (List UInt8)) × Int × (List ((List UInt8) × (List Int) × (List (List UInt8))))) : Option ((List (List Int)) × (List Bool) × (List Int)) :=
  (chki ((List.length b.2.2 : Nat) : Int)).bind fun u =>
  (chki ((List.length b.2.2 : Nat) : Int)).bind fun u_1 =>
  (geti (List.replicate (Int.toNat ((List.length b.2.2 : Nat) : Int)) false) b.2.1).bind fun e =>
  (seti (List.replicate (Int.toNat ((List.length b.2.2 : Nat) : Int)) false) b.2.1 true).bind fun l =>
  loopG (s122_l0 n) n ((0 : Int), b.1, b.2.1, b.2.2, (List.replicate (Int.toNat ((List.length b.2.2 : Nat) : Int)) []), l, ([b.2.1] : List Int), ())
    (fun (marks_3, known_3, order_3, _) =>
      some (marks_3, known_3, order_3), ())

def s122_t0_0 : Templ := ⟨80, [(.int .i64), (.int .i64), (.slice .str), (.int .i64), (.slice (.pair .str (.pair (.slice (.int .i64)) (.slice .str)))), (.slice (.slice (.int .i64))), (.slice .bool), (.slice (.int .i64))], [(1, .v (.bptr 80 0)), (5, .v (.hand 81)), (6, .v (.hand 82)), (7, .v (.hand 83)), (8, .v (.hole (.int .i64))), (9, .v (.hole (.int .i64)))], [(80, .box (.pair (.slice .str) (.pair (.int .i64) (.slice (.pair .str (.pair (.slice (.int .i64)) (.slice .str)))))) [.hole (.slice .str), .hole (.int .i64), .hole (.slice (.pair .str (.pair (.slice (.int .i64)) (.slice .str))))]), (81, .buf (.slice (.int .i64))), (82, .buf .bool), (83, .buf (.int .i64))], []⟩
def s122_x0_0 : List (Way × Templ) := [(.exit 2, ⟨80, [(.int .i64), (.slice .str), (.int .i64), (.slice (.pair .str (.pair (.slice (.int .i64)) (.slice .str)))), (.slice (.slice (.int .i64))), (.slice .bool), (.slice (.int .i64))], [(1, .v (.bptr 80 0)), (5, .v (.hand 81)), (6, .v (.hand 82)), (7, .v (.hand 83)), (8, .v (.hole (.int .i64)))], [(80, .box (.pair (.slice .str) (.pair (.int .i64) (.slice (.pair .str (.pair (.slice (.int .i64)) (.slice .str)))))) [.hole (.slice .str), .hole (.int .i64), .hole (.slice (.pair .str (.pair (.slice (.int .i64)) (.slice .str))))]), (81, .buf (.slice (.int .i64))), (82, .buf .bool), (83, .buf (.int .i64))], []⟩)]
def s122_o0_0 (n : Nat) : Ev (denL [(.slice (.slice (.int .i64))), (.slice .bool), (.slice (.int .i64))]) := loopO n (e123 n) s122_t0_0 s122_x0_0 (s122_l0_0 n)
theorem s122_b0_0 (n : Nat) (d) (again) (ks) : codeR (R := (denL [(.slice (.slice (.int .i64))), (.slice .bool), (.slice (.int .i64))])) (e123 n) (Hdl.no (R := (denL [(.slice (.slice (.int .i64))), (.slice .bool), (.slice (.int .i64))]))) (inn (lp (inn (lp (bd Go.Proofs.Try.f122) 0)) 0)) [] (mk s122_t0_0 d) (turnR (e123 n) s122_t0_0 s122_x0_0 again ks) = s122_l0_0 n d again ks := by kernel_rfl
theorem s122_s0_0 (n : Nat) : Sound Go.Proofs.Try.prog (Hdl.no (R := (denL [(.slice (.slice (.int .i64))), (.slice .bool), (.slice (.int .i64))]))) false (lp (inn (lp (bd Go.Proofs.Try.f122) 0)) 0) (s122_o0_0 n) := loop_ok (h123 n) hP (by kernel_rfl) (O := []) trivial (s122_b0_0 n)
def s122_t0 : Templ := ⟨80, [(.int .i64), (.slice .str), (.int .i64), (.slice (.pair .str (.pair (.slice (.int .i64)) (.slice .str)))), (.slice (.slice (.int .i64))), (.slice .bool), (.slice (.int .i64))], [(1, .v (.bptr 80 0)), (5, .v (.hand 81)), (6, .v (.hand 82)), (7, .v (.hand 83)), (8, .v (.hole (.int .i64)))], [(80, .box (.pair (.slice .str) (.pair (.int .i64) (.slice (.pair .str (.pair (.slice (.int .i64)) (.slice .str)))))) [.hole (.slice .str), .hole (.int .i64), .hole (.slice (.pair .str (.pair (.slice (.int .i64)) (.slice .str))))]), (81, .buf (.slice (.int .i64))), (82, .buf .bool), (83, .buf (.int .i64))], []⟩
def s122_x0 : List (Way × Templ) := [(.exit 0, ⟨80, [(.slice (.slice (.int .i64))), (.slice .bool), (.slice (.int .i64))], [(5, .v (.hand 80)), (6, .v (.hand 81)), (7, .v (.hand 82))], [(80, .buf (.slice (.int .i64))), (81, .buf .bool), (82, .buf (.int .i64))], []⟩)]
def s122_o0 (n : Nat) : Ev (denL [(.slice (.slice (.int .i64))), (.slice .bool), (.slice (.int .i64))]) := loopO n (e123 n) s122_t0 s122_x0 (s122_l0 n)
theorem s122_b0 (n : Nat) (d) (again) (ks) : codeR (R := (denL [(.slice (.slice (.int .i64))), (.slice .bool), (.slice (.int .i64))])) (e123 n) (Hdl.no (R := (denL [(.slice (.slice (.int .i64))), (.slice .bool), (.slice (.int .i64))]))) (inn (lp (bd Go.Proofs.Try.f122) 0)) [s122_o0_0 n] (mk s122_t0 d) (turnR (e123 n) s122_t0 s122_x0 again ks) = s122_l0 n d again ks := by kernel_rfl
theorem s122_s0 (n : Nat) : Sound Go.Proofs.Try.prog (Hdl.no (R := (denL [(.slice (.slice (.int .i64))), (.slice .bool), (.slice (.int .i64))]))) false (lp (bd Go.Proofs.Try.f122) 0) (s122_o0 n) := loop_ok (h123 n) hP (by kernel_rfl) (O := [s122_o0_0 n]) ⟨s122_s0_0 n, trivial⟩ (s122_b0 n)
def s122_c (n : Nat) : Con := ⟨[(.pair (.slice .str) (.pair (.int .i64) (.slice (.pair .str (.pair (.slice (.int .i64)) (.slice .str))))))], [], [(.slice (.slice (.int .i64))), (.slice .bool), (.slice (.int .i64))], fun x y => s122 n x, false⟩
theorem s122_eq (n : Nat) (x : denL [(.pair (.slice .str) (.pair (.int .i64) (.slice (.pair .str (.pair (.slice (.int .i64)) (.slice .str))))))]) (y : denL []) : funR (e123 n) Go.Proofs.Try.f122 [(.pair (.slice .str) (.pair (.int .i64) (.slice (.pair .str (.pair (.slice (.int .i64)) (.slice .str))))))] [] [(.slice (.slice (.int .i64))), (.slice .bool), (.slice (.int .i64))] false [s122_o0 n] x y = (s122_c n).fn x y := by kernel_rfl
theorem s122_ok (n : Nat) : ConOK Go.Proofs.Try.prog 122 (s122_c n) := func_ok (h123 n) hP Go.Proofs.Try.func122 (by kernel_rfl) (by kernel_rfl) (O := [s122_o0 n]) ⟨s122_s0 n, trivial⟩ (s122_eq n)
def e124 (n : Nat) : Env := ⟨gT, (122, s122_c n) :: (e123 n).C, gQ, (e123 n).I, (e123 n).M⟩
theorem h124 (n : Nat) : EnvOK Go.Proofs.Try.prog (e124 n) := env_add (h123 n) (s122_ok n)

def s70_l0 (n : Nat) (d : (List Bool) × Int × (List Int) × Unit) (again : ((List Bool) × Int × (List Int) × Unit) → Option ((List Int))) (ks : ((List Int) × Unit → Option ((List Int))) × Unit) : Option ((List Int)) :=
  match d, ks with
  | (known, i, out, _), (k0, _) =>
  bif (decide (i < ((List.length known : Nat) : Int))) then
    (geti known i).bind fun e =>
    bif e then
      (chk (List.length out + List.length ([i] : List Int))).bind fun u =>
      again (known, (IntKind.wrap .i64 (i + (1 : Int))), (out ++ ([i] : List Int)), ())
    else
      again (known, (IntKind.wrap .i64 (i + (1 : Int))), out, ())
  else
    k0 (out, ())

/-- criadera/criaderaref07.Reachable -/
def s70 (n : Nat) (b : (List (List UInt8)) × Int × (List ((List UInt8) × (List Int) × (List (List UInt8))))) : Option ((List Int)) :=
  (s122 n (b.1, (b.2.1, b.2.2))).bind fun x =>
  loopG (s70_l0 n) n (x.2.1, (0 : Int), ([] : List Int), ())
    (fun (out_1, _) =>
      some (out_1), ())

def s70_t0 : Templ := ⟨29, [(.slice .bool), (.int .i64), (.slice (.int .i64))], [(3, .v (.hand 29)), (5, .v (.hole (.slice .bool))), (7, .v (.hole (.int .i64)))], [(29, .buf (.int .i64))], []⟩
def s70_x0 : List (Way × Templ) := [(.exit 0, ⟨29, [(.slice (.int .i64))], [(3, .v (.hand 29))], [(29, .buf (.int .i64))], []⟩)]
def s70_o0 (n : Nat) : Ev (denL [(.slice (.int .i64))]) := loopO n (e124 n) s70_t0 s70_x0 (s70_l0 n)
theorem s70_b0 (n : Nat) (d) (again) (ks) : codeR (R := (denL [(.slice (.int .i64))])) (e124 n) (Hdl.no (R := (denL [(.slice (.int .i64))]))) (inn (lp (bd Go.Proofs.Try.f70) 0)) [] (mk s70_t0 d) (turnR (e124 n) s70_t0 s70_x0 again ks) = s70_l0 n d again ks := by kernel_rfl
theorem s70_s0 (n : Nat) : Sound Go.Proofs.Try.prog (Hdl.no (R := (denL [(.slice (.int .i64))]))) false (lp (bd Go.Proofs.Try.f70) 0) (s70_o0 n) := loop_ok (h124 n) hP (by kernel_rfl) (O := []) trivial (s70_b0 n)
def s70_c (n : Nat) : Con := ⟨[(.pair (.slice .str) (.pair (.int .i64) (.slice (.pair .str (.pair (.slice (.int .i64)) (.slice .str))))))], [], [(.slice (.int .i64))], fun x y => s70 n x, false⟩
theorem s70_eq (n : Nat) (x : denL [(.pair (.slice .str) (.pair (.int .i64) (.slice (.pair .str (.pair (.slice (.int .i64)) (.slice .str))))))]) (y : denL []) : funR (e124 n) Go.Proofs.Try.f70 [(.pair (.slice .str) (.pair (.int .i64) (.slice (.pair .str (.pair (.slice (.int .i64)) (.slice .str))))))] [] [(.slice (.int .i64))] false [s70_o0 n] x y = (s70_c n).fn x y := by kernel_rfl
theorem s70_ok (n : Nat) : ConOK Go.Proofs.Try.prog 70 (s70_c n) := func_ok (h124 n) hP Go.Proofs.Try.func70 (by kernel_rfl) (by kernel_rfl) (O := [s70_o0 n]) ⟨s70_s0 n, trivial⟩ (s70_eq n)
def e125 (n : Nat) : Env := ⟨gT, (70, s70_c n) :: (e124 n).C, gQ, (e124 n).I, (e124 n).M⟩
theorem h125 (n : Nat) : EnvOK Go.Proofs.Try.prog (e125 n) := env_add (h124 n) (s70_ok n)

def s75_l0_0 (n : Nat) (d : Int × (List Int) × Bool × Int × (List (List UInt8)) × Int × (List ((List UInt8) × (List Int) × (List (List UInt8)))) × (List Int) × Unit) (again : (Int × (List Int) × Bool × Int × (List (List UInt8)) × Int × (List ((List UInt8) × (List Int) × (List (List UInt8)))) × (List Int) × Unit) → Option ((List Int))) (ks : (Int × Bool × (List (List UInt8)) × Int × (List ((List UInt8) × (List Int) × (List (List UInt8)))) × (List Int) × Unit → Option ((List Int))) × Unit) : Option ((List Int)) :=
  match d, ks with
  | (i, l, free, v_k, b, b_1, b_2, out, _), (k0, _) =>
  bif (decide (v_k < ((List.length l : Nat) : Int))) then
    (part free (geti l v_k) (0 : Int)).bind fun e =>
    (part free (geti b_2 e) ([], ([], []))).bind fun e_1 =>
    (part free (s63 n e_1.1) []).bind fun x =>
    (part free (geti b_2 i) ([], ([], []))).bind fun e_2 =>
    (part free (s63 n e_2.1) []).bind fun x_1 =>
    again (i, l, (free && ((x : List UInt8) == x_1)), (IntKind.wrap .i64 (v_k + (1 : Int))), b, b_1, b_2, out, ())
  else
    k0 (i, free, b, b_1, b_2, out, ())

def s75_l0 (n : Nat) (d : Int × (List (List UInt8)) × Int × (List ((List UInt8) × (List Int) × (List (List UInt8)))) × (List Int) × Unit) (again : (Int × (List (List UInt8)) × Int × (List ((List UInt8) × (List Int) × (List (List UInt8)))) × (List Int) × Unit) → Option ((List Int))) (ks : ((List Int) × Unit → Option ((List Int))) × Unit) : Option ((List Int)) :=
  match d, ks with
  | (i, b, b_1, b_2, out, _), (k0, _) =>
  bif (decide (i < ((List.length b_2 : Nat) : Int))) then
    (s70 n (b, (i, b_2))).bind fun x =>
    loopG (s75_l0_0 n) n (i, x, true, (0 : Int), b, b_1, b_2, out, ())
      (fun (i_2, free_1, b_6, b_7, b_8, out_2, _) =>
        bif free_1 then
          (chk (List.length out_2 + List.length ([i_2] : List Int))).bind fun u =>
          again ((IntKind.wrap .i64 (i_2 + (1 : Int))), b_6, b_7, b_8, (out_2 ++ ([i_2] : List Int)), ())
        else
          again ((IntKind.wrap .i64 (i_2 + (1 : Int))), b_6, b_7, b_8, out_2, ()), ())
  else
    k0 (out, ())

/-- criadera/criaderaref07.Trapped -/
def s75 (n : Nat) (b : (List (List UInt8)) × Int × (List ((List UInt8) × (List Int) × (List (List UInt8))))) : Option ((List Int)) :=
  loopG (s75_l0 n) n ((0 : Int), b.1, b.2.1, b.2.2, ([] : List Int), ())
    (fun (out_3, _) =>
      some (out_3), ())

def s75_t0_0 : Templ := ⟨54, [(.int .i64), (.slice (.int .i64)), .bool, (.int .i64), (.slice .str), (.int .i64), (.slice (.pair .str (.pair (.slice (.int .i64)) (.slice .str)))), (.slice (.int .i64))], [(1, .v (.bptr 54 0)), (3, .v (.hand 55)), (4, .v (.hole (.int .i64))), (6, .v (.hole (.slice (.int .i64)))), (7, .v (.hole .bool)), (8, .v (.hole (.int .i64)))], [(54, .box (.pair (.slice .str) (.pair (.int .i64) (.slice (.pair .str (.pair (.slice (.int .i64)) (.slice .str)))))) [.hole (.slice .str), .hole (.int .i64), .hole (.slice (.pair .str (.pair (.slice (.int .i64)) (.slice .str))))]), (55, .buf (.int .i64))], []⟩
def s75_x0_0 : List (Way × Templ) := [(.exit 2, ⟨54, [(.int .i64), .bool, (.slice .str), (.int .i64), (.slice (.pair .str (.pair (.slice (.int .i64)) (.slice .str)))), (.slice (.int .i64))], [(1, .v (.bptr 54 0)), (3, .v (.hand 55)), (4, .v (.hole (.int .i64))), (7, .v (.hole .bool))], [(54, .box (.pair (.slice .str) (.pair (.int .i64) (.slice (.pair .str (.pair (.slice (.int .i64)) (.slice .str)))))) [.hole (.slice .str), .hole (.int .i64), .hole (.slice (.pair .str (.pair (.slice (.int .i64)) (.slice .str))))]), (55, .buf (.int .i64))], []⟩)]
def s75_o0_0 (n : Nat) : Ev (denL [(.slice (.int .i64))]) := loopO n (e125 n) s75_t0_0 s75_x0_0 (s75_l0_0 n)
theorem s75_b0_0 (n : Nat) (d) (again) (ks) : codeR (R := (denL [(.slice (.int .i64))])) (e125 n) (Hdl.no (R := (denL [(.slice (.int .i64))]))) (inn (lp (inn (lp (bd Go.Proofs.Try.f75) 0)) 0)) [] (mk s75_t0_0 d) (turnR (e125 n) s75_t0_0 s75_x0_0 again ks) = s75_l0_0 n d again ks := by kernel_rfl
theorem s75_s0_0 (n : Nat) : Sound Go.Proofs.Try.prog (Hdl.no (R := (denL [(.slice (.int .i64))]))) false (lp (inn (lp (bd Go.Proofs.Try.f75) 0)) 0) (s75_o0_0 n) := loop_ok (h125 n) hP (by kernel_rfl) (O := []) trivial (s75_b0_0 n)
def s75_t0 : Templ := ⟨54, [(.int .i64), (.slice .str), (.int .i64), (.slice (.pair .str (.pair (.slice (.int .i64)) (.slice .str)))), (.slice (.int .i64))], [(1, .v (.bptr 54 0)), (3, .v (.hand 55)), (4, .v (.hole (.int .i64)))], [(54, .box (.pair (.slice .str) (.pair (.int .i64) (.slice (.pair .str (.pair (.slice (.int .i64)) (.slice .str)))))) [.hole (.slice .str), .hole (.int .i64), .hole (.slice (.pair .str (.pair (.slice (.int .i64)) (.slice .str))))]), (55, .buf (.int .i64))], []⟩
def s75_x0 : List (Way × Templ) := [(.exit 0, ⟨54, [(.slice (.int .i64))], [(3, .v (.hand 54))], [(54, .buf (.int .i64))], []⟩)]
def s75_o0 (n : Nat) : Ev (denL [(.slice (.int .i64))]) := loopO n (e125 n) s75_t0 s75_x0 (s75_l0 n)
theorem s75_b0 (n : Nat) (d) (again) (ks) : codeR (R := (denL [(.slice (.int .i64))])) (e125 n) (Hdl.no (R := (denL [(.slice (.int .i64))]))) (inn (lp (bd Go.Proofs.Try.f75) 0)) [s75_o0_0 n] (mk s75_t0 d) (turnR (e125 n) s75_t0 s75_x0 again ks) = s75_l0 n d again ks := by kernel_rfl
theorem s75_s0 (n : Nat) : Sound Go.Proofs.Try.prog (Hdl.no (R := (denL [(.slice (.int .i64))]))) false (lp (bd Go.Proofs.Try.f75) 0) (s75_o0 n) := loop_ok (h125 n) hP (by kernel_rfl) (O := [s75_o0_0 n]) ⟨s75_s0_0 n, trivial⟩ (s75_b0 n)
def s75_c (n : Nat) : Con := ⟨[(.pair (.slice .str) (.pair (.int .i64) (.slice (.pair .str (.pair (.slice (.int .i64)) (.slice .str))))))], [], [(.slice (.int .i64))], fun x y => s75 n x, false⟩
theorem s75_eq (n : Nat) (x : denL [(.pair (.slice .str) (.pair (.int .i64) (.slice (.pair .str (.pair (.slice (.int .i64)) (.slice .str))))))]) (y : denL []) : funR (e125 n) Go.Proofs.Try.f75 [(.pair (.slice .str) (.pair (.int .i64) (.slice (.pair .str (.pair (.slice (.int .i64)) (.slice .str))))))] [] [(.slice (.int .i64))] false [s75_o0 n] x y = (s75_c n).fn x y := by kernel_rfl
theorem s75_ok (n : Nat) : ConOK Go.Proofs.Try.prog 75 (s75_c n) := func_ok (h125 n) hP Go.Proofs.Try.func75 (by kernel_rfl) (by kernel_rfl) (O := [s75_o0 n]) ⟨s75_s0 n, trivial⟩ (s75_eq n)
def e126 (n : Nat) : Env := ⟨gT, (75, s75_c n) :: (e125 n).C, gQ, (e125 n).I, (e125 n).M⟩
theorem h126 (n : Nat) : EnvOK Go.Proofs.Try.prog (e126 n) := env_add (h125 n) (s75_ok n)

/-- criadera/criaderaref07.SheetTo -/
def s76 (n : Nat) (b : (List (List UInt8)) × Int × (List ((List UInt8) × (List Int) × (List (List UInt8))))) (v_class : Int) : Option ((List Int) × Bool) :=
  (s122 n (b.1, (b.2.1, b.2.2))).bind fun x =>
  (geti x.1 v_class).bind fun e =>
  (geti x.2.1 v_class).bind fun e_1 =>
  some (e, e_1)

def s76_c (n : Nat) : Con := ⟨[(.pair (.slice .str) (.pair (.int .i64) (.slice (.pair .str (.pair (.slice (.int .i64)) (.slice .str)))))), (.int .i64)], [], [(.slice (.int .i64)), .bool], fun x y => s76 n x.1 x.2, false⟩
theorem s76_eq (n : Nat) (x : denL [(.pair (.slice .str) (.pair (.int .i64) (.slice (.pair .str (.pair (.slice (.int .i64)) (.slice .str)))))), (.int .i64)]) (y : denL []) : funR (e126 n) Go.Proofs.Try.f76 [(.pair (.slice .str) (.pair (.int .i64) (.slice (.pair .str (.pair (.slice (.int .i64)) (.slice .str)))))), (.int .i64)] [] [(.slice (.int .i64)), .bool] false [] x y = (s76_c n).fn x y := by kernel_rfl
theorem s76_ok (n : Nat) : ConOK Go.Proofs.Try.prog 76 (s76_c n) := func_ok (h126 n) hP Go.Proofs.Try.func76 (by kernel_rfl) (by kernel_rfl) (O := []) trivial (s76_eq n)
def e127 (n : Nat) : Env := ⟨gT, (76, s76_c n) :: (e126 n).C, gQ, (e126 n).I, (e126 n).M⟩
theorem h127 (n : Nat) : EnvOK Go.Proofs.Try.prog (e127 n) := env_add (h126 n) (s76_ok n)

/-- criadera/criaderalaw07.TasteReaches -/
def s14 (n : Nat) (b : (List (List UInt8)) × Int × (List ((List UInt8) × (List Int) × (List (List UInt8))))) (v_class : Int) : Option (Bool) :=
  (s15 n).bind fun x =>
  bif (!x) then
    some (false)
  else
    (s16 n (b.1, (b.2.1, b.2.2))).bind fun x_1 =>
    bif (!x_1) then
      some (true)
    else
      (s21 n (b.1, (b.2.1, b.2.2))).bind fun x_2 =>
      (s73 n x_2).bind fun x_3 =>
      (s21 n (b.1, (b.2.1, b.2.2))).bind fun x_4 =>
      (s20 n x_4 v_class).bind fun x_5 =>
      (s21 n (b.1, (b.2.1, b.2.2))).bind fun x_6 =>
      (s74 n x_6).bind fun x_7 =>
      (s17 n (b.1, (b.2.1, b.2.2))).bind fun x_8 =>
      bif (x_8 != (0 : Int)) then
        some (((((x_3.2 == x_8) && (x_5.2 == x_8)) && (x_7.2 == x_8)) && ((IntKind.wrap .i64 ((IntKind.wrap .i64 (((List.length x_3.1 : Nat) : Int) + ((List.length x_5.1 : Nat) : Int))) + ((List.length x_7.1 : Nat) : Int))) == (0 : Int))))
      else
        (part (!(x_3.2 != (0 : Int))) (s70 n (b.1, (b.2.1, b.2.2))) []).bind fun x_9 =>
        (part (!(x_3.2 != (0 : Int))) (s32 n x_3.1 x_9) false).bind fun x_10 =>
        (part (!(((x_3.2 != (0 : Int)) || (!x_10)) || (x_7.2 != (0 : Int)))) (s75 n (b.1, (b.2.1, b.2.2))) []).bind fun x_11 =>
        (part (!(((x_3.2 != (0 : Int)) || (!x_10)) || (x_7.2 != (0 : Int)))) (s32 n x_7.1 x_11) false).bind fun x_12 =>
        bif ((((x_3.2 != (0 : Int)) || (!x_10)) || (x_7.2 != (0 : Int))) || (!x_12)) then
          some (false)
        else
          (s19 n v_class (0 : Int) (IntKind.wrap .i64 (((List.length b.2.2 : Nat) : Int) - (1 : Int)))).bind fun x_13 =>
          bif (!x_13) then
            some (((x_5.2 == (6 : Int)) && (((List.length x_5.1 : Nat) : Int) == (0 : Int))))
          else
            (s76 n (b.1, (b.2.1, b.2.2)) v_class).bind fun x_14 =>
            (part (x_14.2 && (x_5.2 == (0 : Int))) (s32 n x_5.1 x_14.1) false).bind fun x_15 =>
            some ((((x_14.2 && (x_5.2 == (0 : Int))) && x_15) || (((!x_14.2) && (x_5.2 == (12 : Int))) && (((List.length x_5.1 : Nat) : Int) == (0 : Int)))))

def s14_c (n : Nat) : Con := ⟨[(.pair (.slice .str) (.pair (.int .i64) (.slice (.pair .str (.pair (.slice (.int .i64)) (.slice .str)))))), (.int .i64)], [], [.bool], fun x y => s14 n x.1 x.2, false⟩
theorem s14_eq (n : Nat) (x : denL [(.pair (.slice .str) (.pair (.int .i64) (.slice (.pair .str (.pair (.slice (.int .i64)) (.slice .str)))))), (.int .i64)]) (y : denL []) : funR (e127 n) Go.Proofs.Try.f14 [(.pair (.slice .str) (.pair (.int .i64) (.slice (.pair .str (.pair (.slice (.int .i64)) (.slice .str)))))), (.int .i64)] [] [.bool] false [] x y = (s14_c n).fn x y := by kernel_rfl
theorem s14_ok (n : Nat) : ConOK Go.Proofs.Try.prog 14 (s14_c n) := func_ok (h127 n) hP Go.Proofs.Try.func14 (by kernel_rfl) (by kernel_rfl) (O := []) trivial (s14_eq n)
def e128 (n : Nat) : Env := ⟨gT, (14, s14_c n) :: (e127 n).C, gQ, (e127 n).I, (e127 n).M⟩
theorem h128 (n : Nat) : EnvOK Go.Proofs.Try.prog (e128 n) := env_add (h127 n) (s14_ok n)

/-- (criadera/taste.book).sets$1$1 -/
def s138 (n : Nat) (v_at : Int × Int) (mark : Int) (c0 : (List (List UInt8)) × Int × (List ((List UInt8) × (List Int) × (List (List UInt8))))) : Option ((Int × Int)) :=
  (s114 n c0 v_at.1 mark).bind fun x =>
  (s114 n c0 v_at.2 mark).bind fun x_1 =>
  some ((x, x_1))

def s138_c (n : Nat) : Con := ⟨[(.pair (.int .i64) (.int .i64)), (.int .i64)], [(.pair (.slice .str) (.pair (.int .i64) (.slice (.pair .str (.pair (.slice (.int .i64)) (.slice .str))))))], [(.pair (.int .i64) (.int .i64))], fun x y => s138 n x.1 x.2 y, false⟩
theorem s138_eq (n : Nat) (x : denL [(.pair (.int .i64) (.int .i64)), (.int .i64)]) (y : denL [(.pair (.slice .str) (.pair (.int .i64) (.slice (.pair .str (.pair (.slice (.int .i64)) (.slice .str))))))]) : funR (e128 n) Go.Proofs.Try.f138 [(.pair (.int .i64) (.int .i64)), (.int .i64)] [(.pair (.slice .str) (.pair (.int .i64) (.slice (.pair .str (.pair (.slice (.int .i64)) (.slice .str))))))] [(.pair (.int .i64) (.int .i64))] false [] x y = (s138_c n).fn x y := by kernel_rfl
theorem s138_ok (n : Nat) : ConOK Go.Proofs.Try.prog 138 (s138_c n) := func_ok (h128 n) hP Go.Proofs.Try.func138 (by kernel_rfl) (by kernel_rfl) (O := []) trivial (s138_eq n)
def e129 (n : Nat) : Env := ⟨gT, (138, s138_c n) :: (e128 n).C, gQ, (e128 n).I, (e128 n).M⟩
theorem h129 (n : Nat) : EnvOK Go.Proofs.Try.prog (e129 n) := env_add (h128 n) (s138_ok n)

end Go.Abs

set_option linter.unusedVariables false
namespace Go.Abs
open Go

def s137_l0 (n : Nat) (d : ((List (List UInt8)) × Int × (List ((List UInt8) × (List Int) × (List (List UInt8))))) × (List ((Int × Int) × (List Int))) × Bool × Unit) (y : (Int × Int) × (List Int)) (again : (((List (List UInt8)) × Int × (List ((List UInt8) × (List Int) × (List (List UInt8))))) × (List ((Int × Int) × (List Int))) × Bool × Unit) → Option (Bool)) (ks : (Bool × Unit → Option (Bool)) × Unit) : Option (Bool) :=
  match d, ks with
  | (t2, t17, t5, _), (k0, _) =>
  (s116 n t2 y.1.1).bind fun x =>
  (s116 n t2 y.1.2).bind fun x_1 =>
  bif ((x : List UInt8) != x_1) then
    k0 (true, ())
  else
    again (t2, t17, t5, ())

/-- (criadera/taste.book).sets$1 -/
def s137 (n : Nat) (i : Int) (v_k : Int) (c0 : (List (List UInt8)) × Int × (List ((List UInt8) × (List Int) × (List (List UInt8))))) : Option (Bool) :=
  (s115 n (i, v_k) ((List.length c0.1 : Nat) : Int) (fun y0 y1 => s138 n y0 y1 c0)).bind fun x =>
  rangeG (s137_l0 n) (fun (t5_2, _) =>
      some (t5_2), ()) (fun (t2_1, t17_1, t5_1, _) =>
      some (false)) x (c0, x, false, ())

def s137_t0 : Templ := ⟨30, [(.pair (.slice .str) (.pair (.int .i64) (.slice (.pair .str (.pair (.slice (.int .i64)) (.slice .str)))))), (.seq (.pair (.pair (.int .i64) (.int .i64)) (.slice (.int .i64)))), .bool], [(2, .v (.pp (.pair (.slice .str) (.pair (.int .i64) (.slice (.pair .str (.pair (.slice (.int .i64)) (.slice .str)))))))), (5, .v (.bptr 30 0)), (17, .v (.hole (.seq (.pair (.pair (.int .i64) (.int .i64)) (.slice (.int .i64))))))], [(30, .box .bool [.hole .bool])], []⟩
def s137_x0 : List (Way × Templ) := [(.ret, ⟨30, [.bool], [(5, .v (.bptr 30 0))], [(30, .box .bool [.hole .bool])], []⟩)]
theorem s137_b0 (n : Nat) (d) (x) (again) (ks) : codeR (R := (denL [.bool])) (e129 n) (Hdl.no (R := (denL [.bool]))) (rgA (lp (bd Go.Proofs.Try.f137) 0)) [] (mkB s137_t0 [2, 5, 17] 18 (.pair (.pair (.int .i64) (.int .i64)) (.slice (.int .i64))) d x) (thenB fun st => codeR (R := (denL [.bool])) (e129 n) (Hdl.no (R := (denL [.bool]))) (rgB (lp (bd Go.Proofs.Try.f137) 0)) [] st (turnB (e129 n) s137_t0 [2, 5, 17] s137_x0 again ks)) = s137_l0 n d x again ks := by kernel_rfl
theorem s137_s0 (n : Nat) : Sound Go.Proofs.Try.prog (Hdl.no (R := (denL [.bool]))) false (lp (bd Go.Proofs.Try.f137) 0) ((fun n => rangeO (R := (denL [.bool])) (e129 n) (.pair (.pair (.int .i64) (.int .i64)) (.slice (.int .i64))) (rgG (lp (bd Go.Proofs.Try.f137) 0)) s137_t0 s137_x0 (s137_l0 n)) n) := range_ok (h129 n) hP (p := 18) (F := [2, 5, 17]) (Oa := []) (Ob := []) (by kernel_rfl) rfl (by decide) (by decide) rfl trivial trivial (s137_b0 n)
def s137_c (n : Nat) : Con := ⟨[(.int .i64), (.int .i64)], [(.pair (.slice .str) (.pair (.int .i64) (.slice (.pair .str (.pair (.slice (.int .i64)) (.slice .str))))))], [.bool], fun x y => s137 n x.1 x.2 y, false⟩
theorem s137_eq (n : Nat) (x : denL [(.int .i64), (.int .i64)]) (y : denL [(.pair (.slice .str) (.pair (.int .i64) (.slice (.pair .str (.pair (.slice (.int .i64)) (.slice .str))))))]) : funR (e129 n) Go.Proofs.Try.f137 [(.int .i64), (.int .i64)] [(.pair (.slice .str) (.pair (.int .i64) (.slice (.pair .str (.pair (.slice (.int .i64)) (.slice .str))))))] [.bool] false [(fun n => rangeO (R := (denL [.bool])) (e129 n) (.pair (.pair (.int .i64) (.int .i64)) (.slice (.int .i64))) (rgG (lp (bd Go.Proofs.Try.f137) 0)) s137_t0 s137_x0 (s137_l0 n)) n] x y = (s137_c n).fn x y := by kernel_rfl
theorem s137_ok (n : Nat) : ConOK Go.Proofs.Try.prog 137 (s137_c n) := func_ok (h129 n) hP Go.Proofs.Try.func137 (by kernel_rfl) (by kernel_rfl) (O := [(fun n => rangeO (R := (denL [.bool])) (e129 n) (.pair (.pair (.int .i64) (.int .i64)) (.slice (.int .i64))) (rgG (lp (bd Go.Proofs.Try.f137) 0)) s137_t0 s137_x0 (s137_l0 n)) n]) ⟨s137_s0 n, trivial⟩ (s137_eq n)
def e130 (n : Nat) : Env := ⟨gT, (137, s137_c n) :: (e129 n).C, gQ, (e129 n).I, (e129 n).M⟩
theorem h130 (n : Nat) : EnvOK Go.Proofs.Try.prog (e130 n) := env_add (h129 n) (s137_ok n)

/-- (criadera/taste.book).sets$2 -/
def s139 (n : Nat) (v_k : Int) (c0 : Int → Int → Option Bool) (c1 : Int) : Option (Bool) :=
  (c0 c1 v_k).bind fun x =>
  some ((!x))

def s139_c (n : Nat) : Con := ⟨[(.int .i64)], [(.fn2 (.int .i64) (.int .i64) .bool), (.int .i64)], [.bool], fun x y => s139 n x y.1 y.2, false⟩
theorem s139_eq (n : Nat) (x : denL [(.int .i64)]) (y : denL [(.fn2 (.int .i64) (.int .i64) .bool), (.int .i64)]) : funR (e130 n) Go.Proofs.Try.f139 [(.int .i64)] [(.fn2 (.int .i64) (.int .i64) .bool), (.int .i64)] [.bool] false [] x y = (s139_c n).fn x y := by kernel_rfl
theorem s139_ok (n : Nat) : ConOK Go.Proofs.Try.prog 139 (s139_c n) := func_ok (h130 n) hP Go.Proofs.Try.func139 (by kernel_rfl) (by kernel_rfl) (O := []) trivial (s139_eq n)
def e131 (n : Nat) : Env := ⟨gT, (139, s139_c n) :: (e130 n).C, gQ, (e130 n).I, (e130 n).M⟩
theorem h131 (n : Nat) : EnvOK Go.Proofs.Try.prog (e131 n) := env_add (h130 n) (s139_ok n)

def s117_l0 (n : Nat) (d : (Int → Int → Option Bool) × Int × Int × (List Int) × (List Int) × Unit) (again : ((Int → Int → Option Bool) × Int × Int × (List Int) × (List Int) × Unit) → Option ((List Int))) (ks : ((List Int) × Unit → Option ((List Int))) × Unit) : Option ((List Int)) :=
  match d, ks with
  | (apart, t12, t13, out, heads, _), (k0, _) =>
  bif (decide (t13 < t12)) then
    (s130 n heads (fun y0 => s139 n y0 apart t13)).bind fun x =>
    bif (decide (x < (0 : Int))) then
      (chk (List.length heads + List.length ([t13] : List Int))).bind fun u =>
      (chk (List.length out + List.length ([((List.length heads : Nat) : Int)] : List Int))).bind fun u_1 =>
      again (apart, t12, (IntKind.wrap .i64 (t13 + (1 : Int))), (out ++ ([((List.length heads : Nat) : Int)] : List Int)), (heads ++ ([t13] : List Int)), ())
    else
      (chk (List.length out + List.length ([x] : List Int))).bind fun u_2 =>
      again (apart, t12, (IntKind.wrap .i64 (t13 + (1 : Int))), (out ++ ([x] : List Int)), heads, ())
  else
    k0 (out, ())

/-- (criadera/taste.book).sets -/
def s117 (n : Nat) (b : (List (List UInt8)) × Int × (List ((List UInt8) × (List Int) × (List (List UInt8))))) : Option ((List Int)) :=
  loopG (s117_l0 n) n ((fun y0 y1 => s137 n y0 y1 (b.1, (b.2.1, b.2.2))), ((List.length b.2.2 : Nat) : Int), (0 : Int), ([] : List Int), ([] : List Int), ())
    (fun (out_1, _) =>
      some (out_1), ())

def s117_t0 : Templ := ⟨33, [(.fn2 (.int .i64) (.int .i64) .bool), (.int .i64), (.int .i64), (.slice (.int .i64)), (.slice (.int .i64))], [(3, .v (.pp (.fn2 (.int .i64) (.int .i64) .bool))), (4, .v (.hand 33)), (5, .v (.hand 34)), (12, .v (.hole (.int .i64))), (13, .v (.hole (.int .i64)))], [(33, .buf (.int .i64)), (34, .buf (.int .i64))], []⟩
def s117_x0 : List (Way × Templ) := [(.exit 0, ⟨33, [(.slice (.int .i64))], [(4, .v (.hand 33))], [(33, .buf (.int .i64))], []⟩)]
def s117_o0 (n : Nat) : Ev (denL [(.slice (.int .i64))]) := loopO n (e131 n) s117_t0 s117_x0 (s117_l0 n)
theorem s117_b0 (n : Nat) (d) (again) (ks) : codeR (R := (denL [(.slice (.int .i64))])) (e131 n) (Hdl.no (R := (denL [(.slice (.int .i64))]))) (inn (lp (bd Go.Proofs.Try.f117) 0)) [] (mk s117_t0 d) (turnR (e131 n) s117_t0 s117_x0 again ks) = s117_l0 n d again ks := by kernel_rfl
theorem s117_s0 (n : Nat) : Sound Go.Proofs.Try.prog (Hdl.no (R := (denL [(.slice (.int .i64))]))) false (lp (bd Go.Proofs.Try.f117) 0) (s117_o0 n) := loop_ok (h131 n) hP (by kernel_rfl) (O := []) trivial (s117_b0 n)
def s117_c (n : Nat) : Con := ⟨[(.pair (.slice .str) (.pair (.int .i64) (.slice (.pair .str (.pair (.slice (.int .i64)) (.slice .str))))))], [], [(.slice (.int .i64))], fun x y => s117 n x, false⟩
theorem s117_eq (n : Nat) (x : denL [(.pair (.slice .str) (.pair (.int .i64) (.slice (.pair .str (.pair (.slice (.int .i64)) (.slice .str))))))]) (y : denL []) : funR (e131 n) Go.Proofs.Try.f117 [(.pair (.slice .str) (.pair (.int .i64) (.slice (.pair .str (.pair (.slice (.int .i64)) (.slice .str))))))] [] [(.slice (.int .i64))] false [s117_o0 n] x y = (s117_c n).fn x y := by kernel_rfl
theorem s117_ok (n : Nat) : ConOK Go.Proofs.Try.prog 117 (s117_c n) := func_ok (h131 n) hP Go.Proofs.Try.func117 (by kernel_rfl) (by kernel_rfl) (O := [s117_o0 n]) ⟨s117_s0 n, trivial⟩ (s117_eq n)
def e132 (n : Nat) : Env := ⟨gT, (117, s117_c n) :: (e131 n).C, gQ, (e131 n).I, (e131 n).M⟩
theorem h132 (n : Nat) : EnvOK Go.Proofs.Try.prog (e132 n) := env_add (h131 n) (s117_ok n)

/-- criadera/taste.Least$1 -/
def s119 (n : Nat) (v_n : Int) (mark : Int) (c0 : List Int) (c1 : (List (List UInt8)) × Int × (List ((List UInt8) × (List Int) × (List (List UInt8))))) (c2 : List (Int × Int)) : Option (Int) :=
  (s114 n c1 (Option.getD (mget c2 v_n) (0 : Int)) mark).bind fun x =>
  (geti c0 x).bind fun e =>
  some (e)

def s119_c (n : Nat) : Con := ⟨[(.int .i64), (.int .i64)], [(.slice (.int .i64)), (.pair (.slice .str) (.pair (.int .i64) (.slice (.pair .str (.pair (.slice (.int .i64)) (.slice .str)))))), (.map (.int .i64) (.int .i64))], [(.int .i64)], fun x y => s119 n x.1 x.2 y.1 y.2.1 y.2.2, false⟩
theorem s119_eq (n : Nat) (x : denL [(.int .i64), (.int .i64)]) (y : denL [(.slice (.int .i64)), (.pair (.slice .str) (.pair (.int .i64) (.slice (.pair .str (.pair (.slice (.int .i64)) (.slice .str)))))), (.map (.int .i64) (.int .i64))]) : funR (e132 n) Go.Proofs.Try.f119 [(.int .i64), (.int .i64)] [(.slice (.int .i64)), (.pair (.slice .str) (.pair (.int .i64) (.slice (.pair .str (.pair (.slice (.int .i64)) (.slice .str)))))), (.map (.int .i64) (.int .i64))] [(.int .i64)] false [] x y = (s119_c n).fn x y := by kernel_rfl
theorem s119_ok (n : Nat) : ConOK Go.Proofs.Try.prog 119 (s119_c n) := func_ok (h132 n) hP Go.Proofs.Try.func119 (by kernel_rfl) (by kernel_rfl) (O := []) trivial (s119_eq n)
def e133 (n : Nat) : Env := ⟨gT, (119, s119_c n) :: (e132 n).C, gQ, (e132 n).I, (e132 n).M⟩
theorem h133 (n : Nat) : EnvOK Go.Proofs.Try.prog (e133 n) := env_add (h132 n) (s119_ok n)

def e134 (n : Nat) : Env := ⟨gT, (120, s120_c n) :: (e133 n).C, gQ, (e133 n).I, (e133 n).M⟩
theorem h134 (n : Nat) : EnvOK Go.Proofs.Try.prog (e134 n) := env_add (h133 n) (s120_ok n)

def s66_l0 (n : Nat) (d : Int × (List (List UInt8)) × Int × (List ((List UInt8) × (List Int) × (List (List UInt8)))) × (List (List UInt8)) × Int × (List ((List UInt8) × (List Int) × (List (List UInt8)))) × Unit) (again : (Int × (List (List UInt8)) × Int × (List ((List UInt8) × (List Int) × (List (List UInt8)))) × (List (List UInt8)) × Int × (List ((List UInt8) × (List Int) × (List (List UInt8)))) × Unit) → Option (Bool)) (ks : (Unit → Option (Bool)) × (Bool × Unit → Option (Bool)) × Unit) : Option (Bool) :=
  match d, ks with
  | (i, a, a_1, a_2, b, b_1, b_2, _), (k0, k1, _) =>
  bif (decide (i < ((List.length a_2 : Nat) : Int))) then
    (geti a_2 i).bind fun e =>
    (geti b_2 i).bind fun e_1 =>
    (part (!((e.1 : List UInt8) != e_1.1)) (s32 n e.2.1 e_1.2.1) false).bind fun x =>
    (part (!(((e.1 : List UInt8) != e_1.1) || (!x))) (s45 n e.2.2 e_1.2.2) false).bind fun x_1 =>
    bif ((((e.1 : List UInt8) != e_1.1) || (!x)) || (!x_1)) then
      k1 (false, ())
    else
      again ((IntKind.wrap .i64 (i + (1 : Int))), a, a_1, a_2, b, b_1, b_2, ())
  else
    k0 (())

/-- criadera/criaderaref07.Same -/
def s66 (n : Nat) (a : (List (List UInt8)) × Int × (List ((List UInt8) × (List Int) × (List (List UInt8))))) (b : (List (List UInt8)) × Int × (List ((List UInt8) × (List Int) × (List (List UInt8))))) : Option (Bool) :=
  (s61 n (a.1, (a.2.1, a.2.2)) (b.1, (b.2.1, b.2.2))).bind fun x =>
  bif (((!x) || (a.2.1 != b.2.1)) || (((List.length a.2.2 : Nat) : Int) != ((List.length b.2.2 : Nat) : Int))) then
    some (false)
  else
    loopG (s66_l0 n) n ((0 : Int), a.1, a.2.1, a.2.2, b.1, b.2.1, b.2.2, ())
      (fun (_) =>
        some (true),
      fun (t4, _) =>
        some (t4), ())

def s66_t0 : Templ := ⟨66, [(.int .i64), (.slice .str), (.int .i64), (.slice (.pair .str (.pair (.slice (.int .i64)) (.slice .str)))), (.slice .str), (.int .i64), (.slice (.pair .str (.pair (.slice (.int .i64)) (.slice .str))))], [(2, .v (.bptr 66 0)), (3, .v (.bptr 67 0)), (5, .v (.hole (.int .i64)))], [(66, .box (.pair (.slice .str) (.pair (.int .i64) (.slice (.pair .str (.pair (.slice (.int .i64)) (.slice .str)))))) [.hole (.slice .str), .hole (.int .i64), .hole (.slice (.pair .str (.pair (.slice (.int .i64)) (.slice .str))))]), (67, .box (.pair (.slice .str) (.pair (.int .i64) (.slice (.pair .str (.pair (.slice (.int .i64)) (.slice .str)))))) [.hole (.slice .str), .hole (.int .i64), .hole (.slice (.pair .str (.pair (.slice (.int .i64)) (.slice .str))))])], []⟩
def s66_x0 : List (Way × Templ) := [(.exit 0, ⟨66, [], [], [], []⟩), (.ret, ⟨66, [.bool], [(4, .v (.hole .bool))], [], []⟩)]
def s66_o0 (n : Nat) : Ev (denL [.bool]) := loopO n (e134 n) s66_t0 s66_x0 (s66_l0 n)
theorem s66_b0 (n : Nat) (d) (again) (ks) : codeR (R := (denL [.bool])) (e134 n) (Hdl.no (R := (denL [.bool]))) (inn (lp (bd Go.Proofs.Try.f66) 0)) [] (mk s66_t0 d) (turnR (e134 n) s66_t0 s66_x0 again ks) = s66_l0 n d again ks := by kernel_rfl
theorem s66_s0 (n : Nat) : Sound Go.Proofs.Try.prog (Hdl.no (R := (denL [.bool]))) false (lp (bd Go.Proofs.Try.f66) 0) (s66_o0 n) := loop_ok (h134 n) hP (by kernel_rfl) (O := []) trivial (s66_b0 n)
def s66_c (n : Nat) : Con := ⟨[(.pair (.slice .str) (.pair (.int .i64) (.slice (.pair .str (.pair (.slice (.int .i64)) (.slice .str)))))), (.pair (.slice .str) (.pair (.int .i64) (.slice (.pair .str (.pair (.slice (.int .i64)) (.slice .str))))))], [], [.bool], fun x y => s66 n x.1 x.2, false⟩
theorem s66_eq (n : Nat) (x : denL [(.pair (.slice .str) (.pair (.int .i64) (.slice (.pair .str (.pair (.slice (.int .i64)) (.slice .str)))))), (.pair (.slice .str) (.pair (.int .i64) (.slice (.pair .str (.pair (.slice (.int .i64)) (.slice .str))))))]) (y : denL []) : funR (e134 n) Go.Proofs.Try.f66 [(.pair (.slice .str) (.pair (.int .i64) (.slice (.pair .str (.pair (.slice (.int .i64)) (.slice .str)))))), (.pair (.slice .str) (.pair (.int .i64) (.slice (.pair .str (.pair (.slice (.int .i64)) (.slice .str))))))] [] [.bool] false [s66_o0 n] x y = (s66_c n).fn x y := by kernel_rfl
theorem s66_ok (n : Nat) : ConOK Go.Proofs.Try.prog 66 (s66_c n) := func_ok (h134 n) hP Go.Proofs.Try.func66 (by kernel_rfl) (by kernel_rfl) (O := [s66_o0 n]) ⟨s66_s0 n, trivial⟩ (s66_eq n)
def e135 (n : Nat) : Env := ⟨gT, (66, s66_c n) :: (e134 n).C, gQ, (e134 n).I, (e134 n).M⟩
theorem h135 (n : Nat) : EnvOK Go.Proofs.Try.prog (e135 n) := env_add (h134 n) (s66_ok n)

/-- criadera/criaderaref07.isAlike -/
def s121 (n : Nat) (b : (List (List UInt8)) × Int × (List ((List UInt8) × (List Int) × (List (List UInt8))))) (x : Int) (y : Int) : Option (Bool) :=
  (s62 n (b.1, (x, b.2.2)) (b.1, (y, b.2.2))).bind fun x_1 =>
  some ((!x_1.2))

def s121_c (n : Nat) : Con := ⟨[(.pair (.slice .str) (.pair (.int .i64) (.slice (.pair .str (.pair (.slice (.int .i64)) (.slice .str)))))), (.int .i64), (.int .i64)], [], [.bool], fun x y => s121 n x.1 x.2.1 x.2.2, false⟩
theorem s121_eq (n : Nat) (x : denL [(.pair (.slice .str) (.pair (.int .i64) (.slice (.pair .str (.pair (.slice (.int .i64)) (.slice .str)))))), (.int .i64), (.int .i64)]) (y : denL []) : funR (e135 n) Go.Proofs.Try.f121 [(.pair (.slice .str) (.pair (.int .i64) (.slice (.pair .str (.pair (.slice (.int .i64)) (.slice .str)))))), (.int .i64), (.int .i64)] [] [.bool] false [] x y = (s121_c n).fn x y := by kernel_rfl
theorem s121_ok (n : Nat) : ConOK Go.Proofs.Try.prog 121 (s121_c n) := func_ok (h135 n) hP Go.Proofs.Try.func121 (by kernel_rfl) (by kernel_rfl) (O := []) trivial (s121_eq n)
def e136 (n : Nat) : Env := ⟨gT, (121, s121_c n) :: (e135 n).C, gQ, (e135 n).I, (e135 n).M⟩
theorem h136 (n : Nat) : EnvOK Go.Proofs.Try.prog (e136 n) := env_add (h135 n) (s121_ok n)

def s67_l0 (n : Nat) (d : (List (List Int)) × (List (List Int)) × Int × Unit) (again : ((List (List Int)) × (List (List Int)) × Int × Unit) → Option (Bool)) (ks : (Unit → Option (Bool)) × (Bool × Unit → Option (Bool)) × Unit) : Option (Bool) :=
  match d, ks with
  | (a, b, i, _), (k0, k1, _) =>
  bif (decide (i < ((List.length a : Nat) : Int))) then
    (geti a i).bind fun e =>
    (geti b i).bind fun e_1 =>
    (s32 n e e_1).bind fun x =>
    bif (!x) then
      k1 (false, ())
    else
      again (a, b, (IntKind.wrap .i64 (i + (1 : Int))), ())
  else
    k0 (())

/-- criadera/criaderabase.Lists -/
def s67 (n : Nat) (a : List (List Int)) (b : List (List Int)) : Option (Bool) :=
  bif (((List.length a : Nat) : Int) != ((List.length b : Nat) : Int)) then
    some (false)
  else
    loopG (s67_l0 n) n (a, b, (0 : Int), ())
      (fun (_) =>
        some (true),
      fun (t4, _) =>
        some (t4), ())

def s67_t0 : Templ := ⟨27, [(.slice (.slice (.int .i64))), (.slice (.slice (.int .i64))), (.int .i64)], [(0, .v (.hole (.slice (.slice (.int .i64))))), (1, .v (.hole (.slice (.slice (.int .i64))))), (5, .v (.hole (.int .i64)))], [], []⟩
def s67_x0 : List (Way × Templ) := [(.exit 0, ⟨27, [], [], [], []⟩), (.ret, ⟨27, [.bool], [(4, .v (.hole .bool))], [], []⟩)]
def s67_o0 (n : Nat) : Ev (denL [.bool]) := loopO n (e136 n) s67_t0 s67_x0 (s67_l0 n)
theorem s67_b0 (n : Nat) (d) (again) (ks) : codeR (R := (denL [.bool])) (e136 n) (Hdl.no (R := (denL [.bool]))) (inn (lp (bd Go.Proofs.Try.f67) 0)) [] (mk s67_t0 d) (turnR (e136 n) s67_t0 s67_x0 again ks) = s67_l0 n d again ks := by kernel_rfl
theorem s67_s0 (n : Nat) : Sound Go.Proofs.Try.prog (Hdl.no (R := (denL [.bool]))) false (lp (bd Go.Proofs.Try.f67) 0) (s67_o0 n) := loop_ok (h136 n) hP (by kernel_rfl) (O := []) trivial (s67_b0 n)
def s67_c (n : Nat) : Con := ⟨[(.slice (.slice (.int .i64))), (.slice (.slice (.int .i64)))], [], [.bool], fun x y => s67 n x.1 x.2, false⟩
theorem s67_eq (n : Nat) (x : denL [(.slice (.slice (.int .i64))), (.slice (.slice (.int .i64)))]) (y : denL []) : funR (e136 n) Go.Proofs.Try.f67 [(.slice (.slice (.int .i64))), (.slice (.slice (.int .i64)))] [] [.bool] false [s67_o0 n] x y = (s67_c n).fn x y := by kernel_rfl
theorem s67_ok (n : Nat) : ConOK Go.Proofs.Try.prog 67 (s67_c n) := func_ok (h136 n) hP Go.Proofs.Try.func67 (by kernel_rfl) (by kernel_rfl) (O := [s67_o0 n]) ⟨s67_s0 n, trivial⟩ (s67_eq n)
def e137 (n : Nat) : Env := ⟨gT, (67, s67_c n) :: (e136 n).C, gQ, (e136 n).I, (e136 n).M⟩
theorem h137 (n : Nat) : EnvOK Go.Proofs.Try.prog (e137 n) := env_add (h136 n) (s67_ok n)

def s69_l0_0 (n : Nat) (d : (List Bool) × (List Int) × Int × Int × Int × (List (List UInt8)) × Int × (List ((List UInt8) × (List Int) × (List (List UInt8)))) × Int × (List Int) × (List Int) × Unit) (again : ((List Bool) × (List Int) × Int × Int × Int × (List (List UInt8)) × Int × (List ((List UInt8) × (List Int) × (List (List UInt8)))) × Int × (List Int) × (List Int) × Unit) → Option (((List (List UInt8)) × Int × (List ((List UInt8) × (List Int) × (List (List UInt8))))))) (ks : ((List Bool) × (List Int) × Int × Int × (List (List UInt8)) × Int × (List ((List UInt8) × (List Int) × (List (List UInt8)))) × Int × (List Int) × (List Int) × Unit → Option (((List (List UInt8)) × Int × (List ((List UInt8) × (List Int) × (List (List UInt8))))))) × Unit) : Option (((List (List UInt8)) × Int × (List ((List UInt8) × (List Int) × (List (List UInt8)))))) :=
  match d, ks with
  | (known, order, i, v_at, v_k, b, b_1, b_2, t2, heads, number, _), (k0, _) =>
  bif (decide (v_k < ((List.length heads : Nat) : Int))) then
    (geti heads v_k).bind fun e =>
    (geti heads v_k).bind fun x =>
    (geti order i).bind fun e_1 =>
    (s121 n (b, (b_1, b_2)) x e_1).bind fun x_1 =>
    bif x_1 then
      again (known, order, i, v_k, (IntKind.wrap .i64 (v_k + (1 : Int))), b, b_1, b_2, t2, heads, number, ())
    else
      again (known, order, i, v_at, (IntKind.wrap .i64 (v_k + (1 : Int))), b, b_1, b_2, t2, heads, number, ())
  else
    k0 (known, order, i, v_at, b, b_1, b_2, t2, heads, number, ())

def s69_l0 (n : Nat) (d : (List Bool) × (List Int) × Int × (List (List UInt8)) × Int × (List ((List UInt8) × (List Int) × (List (List UInt8)))) × Int × (List Int) × (List Int) × Unit) (again : ((List Bool) × (List Int) × Int × (List (List UInt8)) × Int × (List ((List UInt8) × (List Int) × (List (List UInt8)))) × Int × (List Int) × (List Int) × Unit) → Option (((List (List UInt8)) × Int × (List ((List UInt8) × (List Int) × (List (List UInt8))))))) (ks : ((List Bool) × (List (List UInt8)) × Int × (List ((List UInt8) × (List Int) × (List (List UInt8)))) × Int × (List Int) × (List Int) × Unit → Option (((List (List UInt8)) × Int × (List ((List UInt8) × (List Int) × (List (List UInt8))))))) × Unit) : Option (((List (List UInt8)) × Int × (List ((List UInt8) × (List Int) × (List (List UInt8)))))) :=
  match d, ks with
  | (known, order, i, b, b_1, b_2, t2, heads, number, _), (k0, _) =>
  bif (decide (i < ((List.length order : Nat) : Int))) then
    loopG (s69_l0_0 n) n (known, order, i, (-1 : Int), (0 : Int), b, b_1, b_2, t2, heads, number, ())
      (fun (known_2, order_2, i_2, v_at_1, b_6, b_7, b_8, t2_2, heads_2, number_2, _) =>
        bif (decide (v_at_1 < (0 : Int))) then
          (geti order_2 i_2).bind fun e_2 =>
          (chk (List.length heads_2 + List.length ([e_2] : List Int))).bind fun u =>
          (geti order_2 i_2).bind fun e_3 =>
          (geti number_2 e_3).bind fun e_4 =>
          (seti number_2 e_3 ((List.length heads_2 : Nat) : Int)).bind fun l =>
          (geti order_2 i_2).bind fun e_5 =>
          (geti (heads_2 ++ ([e_2] : List Int)) ((List.length heads_2 : Nat) : Int)).bind fun e_6 =>
          (geti (heads_2 ++ ([e_2] : List Int)) ((List.length heads_2 : Nat) : Int)).bind fun x_2 =>
          bif (decide (e_5 < x_2)) then
            (geti order_2 i_2).bind fun e_7 =>
            (geti (heads_2 ++ ([e_2] : List Int)) ((List.length heads_2 : Nat) : Int)).bind fun e_8 =>
            (seti (heads_2 ++ ([e_2] : List Int)) ((List.length heads_2 : Nat) : Int) e_7).bind fun l_1 =>
            again (known_2, order_2, (IntKind.wrap .i64 (i_2 + (1 : Int))), b_6, b_7, b_8, t2_2, l_1, l, ())
          else
            again (known_2, order_2, (IntKind.wrap .i64 (i_2 + (1 : Int))), b_6, b_7, b_8, t2_2, (heads_2 ++ ([e_2] : List Int)), l, ())
        else
          (geti order_2 i_2).bind fun e_9 =>
          (geti number_2 e_9).bind fun e_10 =>
          (seti number_2 e_9 v_at_1).bind fun l_2 =>
          (geti order_2 i_2).bind fun e_11 =>
          (geti heads_2 v_at_1).bind fun e_12 =>
          (geti heads_2 v_at_1).bind fun x_3 =>
          bif (decide (e_11 < x_3)) then
            (geti order_2 i_2).bind fun e_13 =>
            (geti heads_2 v_at_1).bind fun e_14 =>
            (seti heads_2 v_at_1 e_13).bind fun l_3 =>
            again (known_2, order_2, (IntKind.wrap .i64 (i_2 + (1 : Int))), b_6, b_7, b_8, t2_2, l_3, l_2, ())
          else
            again (known_2, order_2, (IntKind.wrap .i64 (i_2 + (1 : Int))), b_6, b_7, b_8, t2_2, heads_2, l_2, ()), ())
  else
    k0 (known, b, b_1, b_2, t2, heads, number, ())

def s69_l1_0 (n : Nat) (d : (List Bool) × Int × Int × (List (List UInt8)) × Int × (List ((List UInt8) × (List Int) × (List (List UInt8)))) × Int × (List Int) × (List Int) × (List (List UInt8)) × Int × (List ((List UInt8) × (List Int) × (List (List UInt8)))) × (List UInt8) × (List Int) × (List (List UInt8)) × (List UInt8) × (List (List UInt8)) × (List Int) × Unit) (again : ((List Bool) × Int × Int × (List (List UInt8)) × Int × (List ((List UInt8) × (List Int) × (List (List UInt8)))) × Int × (List Int) × (List Int) × (List (List UInt8)) × Int × (List ((List UInt8) × (List Int) × (List (List UInt8)))) × (List UInt8) × (List Int) × (List (List UInt8)) × (List UInt8) × (List (List UInt8)) × (List Int) × Unit) → Option (((List (List UInt8)) × Int × (List ((List UInt8) × (List Int) × (List (List UInt8))))))) (ks : ((List Bool) × Int × (List (List UInt8)) × Int × (List ((List UInt8) × (List Int) × (List (List UInt8)))) × Int × (List Int) × (List Int) × (List (List UInt8)) × Int × (List ((List UInt8) × (List Int) × (List (List UInt8)))) × (List UInt8) × (List (List UInt8)) × (List Int) × Unit → Option (((List (List UInt8)) × Int × (List ((List UInt8) × (List Int) × (List (List UInt8))))))) × Unit) : Option (((List (List UInt8)) × Int × (List ((List UInt8) × (List Int) × (List (List UInt8)))))) :=
  match d, ks with
  | (known, i, m, b, b_1, b_2, t2, heads, number, out, out_1, out_2, c, c_1, c_2, t14, t14_1, t14_2, _), (k0, _) =>
  bif (decide (m < ((List.length c_1 : Nat) : Int))) then
    (geti c_1 m).bind fun e =>
    (geti number e).bind fun e_1 =>
    (geti number e).bind fun x =>
    (chk (List.length t14_2 + List.length ([x] : List Int))).bind fun u =>
    again (known, i, (IntKind.wrap .i64 (m + (1 : Int))), b, b_1, b_2, t2, heads, number, out, out_1, out_2, c, c_1, c_2, t14, t14_1, (t14_2 ++ ([x] : List Int)), ())
  else
    k0 (known, i, b, b_1, b_2, t2, heads, number, out, out_1, out_2, t14, t14_1, t14_2, ())

def s69_l1 (n : Nat) (d : (List Bool) × Int × (List (List UInt8)) × Int × (List ((List UInt8) × (List Int) × (List (List UInt8)))) × Int × (List Int) × (List Int) × (List (List UInt8)) × Int × (List ((List UInt8) × (List Int) × (List (List UInt8)))) × Unit) (again : ((List Bool) × Int × (List (List UInt8)) × Int × (List ((List UInt8) × (List Int) × (List (List UInt8)))) × Int × (List Int) × (List Int) × (List (List UInt8)) × Int × (List ((List UInt8) × (List Int) × (List (List UInt8)))) × Unit) → Option (((List (List UInt8)) × Int × (List ((List UInt8) × (List Int) × (List (List UInt8))))))) (ks : ((List Bool) × (List (List UInt8)) × Int × (List ((List UInt8) × (List Int) × (List (List UInt8)))) × Int × (List (List UInt8)) × Int × (List ((List UInt8) × (List Int) × (List (List UInt8)))) × Unit → Option (((List (List UInt8)) × Int × (List ((List UInt8) × (List Int) × (List (List UInt8))))))) × Unit) : Option (((List (List UInt8)) × Int × (List ((List UInt8) × (List Int) × (List (List UInt8)))))) :=
  match d, ks with
  | (known, i, b, b_1, b_2, t2, heads, number, out, out_1, out_2, _), (k0, _) =>
  bif (decide (i < ((List.length heads : Nat) : Int))) then
    (geti heads i).bind fun e =>
    (geti heads i).bind fun x =>
    (geti b_2 x).bind fun e_1 =>
    (s84 n e_1.2.2).bind fun x_1 =>
    loopG (s69_l1_0 n) n (known, i, (0 : Int), b, b_1, b_2, t2, heads, number, out, out_1, out_2, e_1.1, e_1.2.1, e_1.2.2, e_1.1, x_1, ([] : List Int), ())
      (fun (known_2, i_2, b_6, b_7, b_8, t2_2, heads_2, number_2, out_6, out_7, out_8, t14_3, t14_4, t14_5, _) =>
        (chk (List.length out_8 + List.length ([(t14_3, (t14_5, t14_4))] : List ((List UInt8) × (List Int) × (List (List UInt8)))))).bind fun u_1 =>
        again (known_2, (IntKind.wrap .i64 (i_2 + (1 : Int))), b_6, b_7, b_8, t2_2, heads_2, number_2, out_6, out_7, (out_8 ++ ([(t14_3, (t14_5, t14_4))] : List ((List UInt8) × (List Int) × (List (List UInt8))))), ()), ())
  else
    k0 (known, b, b_1, b_2, t2, out, out_1, out_2, ())

/-- criadera/criaderaref07.Least -/
def s69 (n : Nat) (b : (List (List UInt8)) × Int × (List ((List UInt8) × (List Int) × (List (List UInt8))))) : Option (((List (List UInt8)) × Int × (List ((List UInt8) × (List Int) × (List (List UInt8)))))) :=
  (s122 n (b.1, (b.2.1, b.2.2))).bind fun x =>
  (chki ((List.length b.2.2 : Nat) : Int)).bind fun u =>
  loopG (s69_l0 n) n (x.2.1, x.2.2, (0 : Int), b.1, b.2.1, b.2.2, (0 : Int), ([] : List Int), (List.replicate (Int.toNat ((List.length b.2.2 : Nat) : Int)) (0 : Int)), ())
    (fun (known_3, b_10, b_11, b_12, t2_3, heads_3, number_3, _) =>
      (s84 n b_10).bind fun x_5 =>
      loopG (s69_l1 n) n (known_3, (0 : Int), b_10, b_11, b_12, t2_3, heads_3, number_3, x_5, (0 : Int), ([] : List ((List UInt8) × (List Int) × (List (List UInt8)))), ())
        (fun (known_7, b_22, b_23, b_24, t2_7, out_9, out_10, out_11, _) =>
          (geti known_7 b_23).bind fun e_19 =>
          bif (!e_19) then
            some ((([] : List (List UInt8)), ((0 : Int), ([] : List ((List UInt8) × (List Int) × (List (List UInt8)))))))
          else
            some ((out_9, (out_10, out_11))), ()), ())

def s69_t0_0 : Templ := ⟨141, [(.slice .bool), (.slice (.int .i64)), (.int .i64), (.int .i64), (.int .i64), (.slice .str), (.int .i64), (.slice (.pair .str (.pair (.slice (.int .i64)) (.slice .str)))), (.int .i64), (.slice (.int .i64)), (.slice (.int .i64))], [(1, .v (.bptr 141 0)), (2, .v (.bptr 142 0)), (4, .v (.hole (.slice .bool))), (5, .v (.hole (.slice (.int .i64)))), (6, .v (.hand 143)), (7, .v (.hand 144)), (8, .v (.hole (.int .i64))), (9, .v (.hole (.int .i64))), (10, .v (.hole (.int .i64)))], [(141, .box (.pair (.slice .str) (.pair (.int .i64) (.slice (.pair .str (.pair (.slice (.int .i64)) (.slice .str)))))) [.hole (.slice .str), .hole (.int .i64), .hole (.slice (.pair .str (.pair (.slice (.int .i64)) (.slice .str))))]), (142, .box (.pair (.slice .str) (.pair (.int .i64) (.slice (.pair .str (.pair (.slice (.int .i64)) (.slice .str)))))) [.nils, .hole (.int .i64), .nils]), (143, .buf (.int .i64)), (144, .buf (.int .i64))], []⟩
def s69_x0_0 : List (Way × Templ) := [(.exit 2, ⟨141, [(.slice .bool), (.slice (.int .i64)), (.int .i64), (.int .i64), (.slice .str), (.int .i64), (.slice (.pair .str (.pair (.slice (.int .i64)) (.slice .str)))), (.int .i64), (.slice (.int .i64)), (.slice (.int .i64))], [(1, .v (.bptr 141 0)), (2, .v (.bptr 142 0)), (4, .v (.hole (.slice .bool))), (5, .v (.hole (.slice (.int .i64)))), (6, .v (.hand 143)), (7, .v (.hand 144)), (8, .v (.hole (.int .i64))), (9, .v (.hole (.int .i64)))], [(141, .box (.pair (.slice .str) (.pair (.int .i64) (.slice (.pair .str (.pair (.slice (.int .i64)) (.slice .str)))))) [.hole (.slice .str), .hole (.int .i64), .hole (.slice (.pair .str (.pair (.slice (.int .i64)) (.slice .str))))]), (142, .box (.pair (.slice .str) (.pair (.int .i64) (.slice (.pair .str (.pair (.slice (.int .i64)) (.slice .str)))))) [.nils, .hole (.int .i64), .nils]), (143, .buf (.int .i64)), (144, .buf (.int .i64))], []⟩)]
def s69_o0_0 (n : Nat) : Ev (denL [(.pair (.slice .str) (.pair (.int .i64) (.slice (.pair .str (.pair (.slice (.int .i64)) (.slice .str))))))]) := loopO n (e137 n) s69_t0_0 s69_x0_0 (s69_l0_0 n)
theorem s69_b0_0 (n : Nat) (d) (again) (ks) : codeR (R := (denL [(.pair (.slice .str) (.pair (.int .i64) (.slice (.pair .str (.pair (.slice (.int .i64)) (.slice .str))))))])) (e137 n) (Hdl.no (R := (denL [(.pair (.slice .str) (.pair (.int .i64) (.slice (.pair .str (.pair (.slice (.int .i64)) (.slice .str))))))]))) (inn (lp (inn (lp (bd Go.Proofs.Try.f69) 0)) 0)) [] (mk s69_t0_0 d) (turnR (e137 n) s69_t0_0 s69_x0_0 again ks) = s69_l0_0 n d again ks := by kernel_rfl
theorem s69_s0_0 (n : Nat) : Sound Go.Proofs.Try.prog (Hdl.no (R := (denL [(.pair (.slice .str) (.pair (.int .i64) (.slice (.pair .str (.pair (.slice (.int .i64)) (.slice .str))))))]))) false (lp (inn (lp (bd Go.Proofs.Try.f69) 0)) 0) (s69_o0_0 n) := loop_ok (h137 n) hP (by kernel_rfl) (O := []) trivial (s69_b0_0 n)
def s69_t1_0 : Templ := ⟨141, [(.slice .bool), (.int .i64), (.int .i64), (.slice .str), (.int .i64), (.slice (.pair .str (.pair (.slice (.int .i64)) (.slice .str)))), (.int .i64), (.slice (.int .i64)), (.slice (.int .i64)), (.slice .str), (.int .i64), (.slice (.pair .str (.pair (.slice (.int .i64)) (.slice .str)))), .str, (.slice (.int .i64)), (.slice .str), .str, (.slice .str), (.slice (.int .i64))], [(1, .v (.bptr 141 0)), (2, .v (.bptr 142 0)), (4, .v (.hole (.slice .bool))), (6, .v (.hand 143)), (7, .v (.hand 144)), (11, .v (.bptr 145 0)), (12, .v (.hole (.int .i64))), (13, .v (.bptr 147 0)), (14, .v (.bptr 148 0)), (15, .v (.hole (.int .i64)))], [(141, .box (.pair (.slice .str) (.pair (.int .i64) (.slice (.pair .str (.pair (.slice (.int .i64)) (.slice .str)))))) [.hole (.slice .str), .hole (.int .i64), .hole (.slice (.pair .str (.pair (.slice (.int .i64)) (.slice .str))))]), (142, .box (.pair (.slice .str) (.pair (.int .i64) (.slice (.pair .str (.pair (.slice (.int .i64)) (.slice .str)))))) [.nils, .hole (.int .i64), .nils]), (143, .buf (.int .i64)), (144, .buf (.int .i64)), (145, .box (.pair (.slice .str) (.pair (.int .i64) (.slice (.pair .str (.pair (.slice (.int .i64)) (.slice .str)))))) [.hole (.slice .str), .hole (.int .i64), .hand 146]), (146, .buf (.pair .str (.pair (.slice (.int .i64)) (.slice .str)))), (147, .box (.pair .str (.pair (.slice (.int .i64)) (.slice .str))) [.hole .str, .hole (.slice (.int .i64)), .hole (.slice .str)]), (148, .box (.pair .str (.pair (.slice (.int .i64)) (.slice .str))) [.hole .str, .hand 149, .hole (.slice .str)]), (149, .buf (.int .i64))], []⟩
def s69_x1_0 : List (Way × Templ) := [(.exit 6, ⟨141, [(.slice .bool), (.int .i64), (.slice .str), (.int .i64), (.slice (.pair .str (.pair (.slice (.int .i64)) (.slice .str)))), (.int .i64), (.slice (.int .i64)), (.slice (.int .i64)), (.slice .str), (.int .i64), (.slice (.pair .str (.pair (.slice (.int .i64)) (.slice .str)))), .str, (.slice .str), (.slice (.int .i64))], [(1, .v (.bptr 141 0)), (2, .v (.bptr 142 0)), (4, .v (.hole (.slice .bool))), (6, .v (.hand 143)), (7, .v (.hand 144)), (11, .v (.bptr 145 0)), (12, .v (.hole (.int .i64))), (14, .v (.bptr 147 0))], [(141, .box (.pair (.slice .str) (.pair (.int .i64) (.slice (.pair .str (.pair (.slice (.int .i64)) (.slice .str)))))) [.hole (.slice .str), .hole (.int .i64), .hole (.slice (.pair .str (.pair (.slice (.int .i64)) (.slice .str))))]), (142, .box (.pair (.slice .str) (.pair (.int .i64) (.slice (.pair .str (.pair (.slice (.int .i64)) (.slice .str)))))) [.nils, .hole (.int .i64), .nils]), (143, .buf (.int .i64)), (144, .buf (.int .i64)), (145, .box (.pair (.slice .str) (.pair (.int .i64) (.slice (.pair .str (.pair (.slice (.int .i64)) (.slice .str)))))) [.hole (.slice .str), .hole (.int .i64), .hand 146]), (146, .buf (.pair .str (.pair (.slice (.int .i64)) (.slice .str)))), (147, .box (.pair .str (.pair (.slice (.int .i64)) (.slice .str))) [.hole .str, .hand 148, .hole (.slice .str)]), (148, .buf (.int .i64))], []⟩)]
def s69_o1_0 (n : Nat) : Ev (denL [(.pair (.slice .str) (.pair (.int .i64) (.slice (.pair .str (.pair (.slice (.int .i64)) (.slice .str))))))]) := loopO n (e137 n) s69_t1_0 s69_x1_0 (s69_l1_0 n)
theorem s69_b1_0 (n : Nat) (d) (again) (ks) : codeR (R := (denL [(.pair (.slice .str) (.pair (.int .i64) (.slice (.pair .str (.pair (.slice (.int .i64)) (.slice .str))))))])) (e137 n) (Hdl.no (R := (denL [(.pair (.slice .str) (.pair (.int .i64) (.slice (.pair .str (.pair (.slice (.int .i64)) (.slice .str))))))]))) (inn (lp (inn (lp (bd Go.Proofs.Try.f69) 1)) 0)) [] (mk s69_t1_0 d) (turnR (e137 n) s69_t1_0 s69_x1_0 again ks) = s69_l1_0 n d again ks := by kernel_rfl
theorem s69_s1_0 (n : Nat) : Sound Go.Proofs.Try.prog (Hdl.no (R := (denL [(.pair (.slice .str) (.pair (.int .i64) (.slice (.pair .str (.pair (.slice (.int .i64)) (.slice .str))))))]))) false (lp (inn (lp (bd Go.Proofs.Try.f69) 1)) 0) (s69_o1_0 n) := loop_ok (h137 n) hP (by kernel_rfl) (O := []) trivial (s69_b1_0 n)
def s69_t0 : Templ := ⟨141, [(.slice .bool), (.slice (.int .i64)), (.int .i64), (.slice .str), (.int .i64), (.slice (.pair .str (.pair (.slice (.int .i64)) (.slice .str)))), (.int .i64), (.slice (.int .i64)), (.slice (.int .i64))], [(1, .v (.bptr 141 0)), (2, .v (.bptr 142 0)), (4, .v (.hole (.slice .bool))), (5, .v (.hole (.slice (.int .i64)))), (6, .v (.hand 143)), (7, .v (.hand 144)), (8, .v (.hole (.int .i64)))], [(141, .box (.pair (.slice .str) (.pair (.int .i64) (.slice (.pair .str (.pair (.slice (.int .i64)) (.slice .str)))))) [.hole (.slice .str), .hole (.int .i64), .hole (.slice (.pair .str (.pair (.slice (.int .i64)) (.slice .str))))]), (142, .box (.pair (.slice .str) (.pair (.int .i64) (.slice (.pair .str (.pair (.slice (.int .i64)) (.slice .str)))))) [.nils, .hole (.int .i64), .nils]), (143, .buf (.int .i64)), (144, .buf (.int .i64))], []⟩
def s69_x0 : List (Way × Templ) := [(.exit 0, ⟨141, [(.slice .bool), (.slice .str), (.int .i64), (.slice (.pair .str (.pair (.slice (.int .i64)) (.slice .str)))), (.int .i64), (.slice (.int .i64)), (.slice (.int .i64))], [(1, .v (.bptr 141 0)), (2, .v (.bptr 142 0)), (4, .v (.hole (.slice .bool))), (6, .v (.hand 143)), (7, .v (.hand 144))], [(141, .box (.pair (.slice .str) (.pair (.int .i64) (.slice (.pair .str (.pair (.slice (.int .i64)) (.slice .str)))))) [.hole (.slice .str), .hole (.int .i64), .hole (.slice (.pair .str (.pair (.slice (.int .i64)) (.slice .str))))]), (142, .box (.pair (.slice .str) (.pair (.int .i64) (.slice (.pair .str (.pair (.slice (.int .i64)) (.slice .str)))))) [.nils, .hole (.int .i64), .nils]), (143, .buf (.int .i64)), (144, .buf (.int .i64))], []⟩)]
def s69_o0 (n : Nat) : Ev (denL [(.pair (.slice .str) (.pair (.int .i64) (.slice (.pair .str (.pair (.slice (.int .i64)) (.slice .str))))))]) := loopO n (e137 n) s69_t0 s69_x0 (s69_l0 n)
theorem s69_b0 (n : Nat) (d) (again) (ks) : codeR (R := (denL [(.pair (.slice .str) (.pair (.int .i64) (.slice (.pair .str (.pair (.slice (.int .i64)) (.slice .str))))))])) (e137 n) (Hdl.no (R := (denL [(.pair (.slice .str) (.pair (.int .i64) (.slice (.pair .str (.pair (.slice (.int .i64)) (.slice .str))))))]))) (inn (lp (bd Go.Proofs.Try.f69) 0)) [s69_o0_0 n] (mk s69_t0 d) (turnR (e137 n) s69_t0 s69_x0 again ks) = s69_l0 n d again ks := by kernel_rfl
theorem s69_s0 (n : Nat) : Sound Go.Proofs.Try.prog (Hdl.no (R := (denL [(.pair (.slice .str) (.pair (.int .i64) (.slice (.pair .str (.pair (.slice (.int .i64)) (.slice .str))))))]))) false (lp (bd Go.Proofs.Try.f69) 0) (s69_o0 n) := loop_ok (h137 n) hP (by kernel_rfl) (O := [s69_o0_0 n]) ⟨s69_s0_0 n, trivial⟩ (s69_b0 n)
def s69_t1 : Templ := ⟨141, [(.slice .bool), (.int .i64), (.slice .str), (.int .i64), (.slice (.pair .str (.pair (.slice (.int .i64)) (.slice .str)))), (.int .i64), (.slice (.int .i64)), (.slice (.int .i64)), (.slice .str), (.int .i64), (.slice (.pair .str (.pair (.slice (.int .i64)) (.slice .str))))], [(1, .v (.bptr 141 0)), (2, .v (.bptr 142 0)), (4, .v (.hole (.slice .bool))), (6, .v (.hand 143)), (7, .v (.hand 144)), (11, .v (.bptr 145 0)), (12, .v (.hole (.int .i64)))], [(141, .box (.pair (.slice .str) (.pair (.int .i64) (.slice (.pair .str (.pair (.slice (.int .i64)) (.slice .str)))))) [.hole (.slice .str), .hole (.int .i64), .hole (.slice (.pair .str (.pair (.slice (.int .i64)) (.slice .str))))]), (142, .box (.pair (.slice .str) (.pair (.int .i64) (.slice (.pair .str (.pair (.slice (.int .i64)) (.slice .str)))))) [.nils, .hole (.int .i64), .nils]), (143, .buf (.int .i64)), (144, .buf (.int .i64)), (145, .box (.pair (.slice .str) (.pair (.int .i64) (.slice (.pair .str (.pair (.slice (.int .i64)) (.slice .str)))))) [.hole (.slice .str), .hole (.int .i64), .hand 146]), (146, .buf (.pair .str (.pair (.slice (.int .i64)) (.slice .str))))], []⟩
def s69_x1 : List (Way × Templ) := [(.exit 4, ⟨141, [(.slice .bool), (.slice .str), (.int .i64), (.slice (.pair .str (.pair (.slice (.int .i64)) (.slice .str)))), (.int .i64), (.slice .str), (.int .i64), (.slice (.pair .str (.pair (.slice (.int .i64)) (.slice .str))))], [(1, .v (.bptr 141 0)), (2, .v (.bptr 142 0)), (4, .v (.hole (.slice .bool))), (11, .v (.bptr 143 0))], [(141, .box (.pair (.slice .str) (.pair (.int .i64) (.slice (.pair .str (.pair (.slice (.int .i64)) (.slice .str)))))) [.hole (.slice .str), .hole (.int .i64), .hole (.slice (.pair .str (.pair (.slice (.int .i64)) (.slice .str))))]), (142, .box (.pair (.slice .str) (.pair (.int .i64) (.slice (.pair .str (.pair (.slice (.int .i64)) (.slice .str)))))) [.nils, .hole (.int .i64), .nils]), (143, .box (.pair (.slice .str) (.pair (.int .i64) (.slice (.pair .str (.pair (.slice (.int .i64)) (.slice .str)))))) [.hole (.slice .str), .hole (.int .i64), .hand 144]), (144, .buf (.pair .str (.pair (.slice (.int .i64)) (.slice .str))))], []⟩)]
def s69_o1 (n : Nat) : Ev (denL [(.pair (.slice .str) (.pair (.int .i64) (.slice (.pair .str (.pair (.slice (.int .i64)) (.slice .str))))))]) := loopO n (e137 n) s69_t1 s69_x1 (s69_l1 n)
theorem s69_b1 (n : Nat) (d) (again) (ks) : codeR (R := (denL [(.pair (.slice .str) (.pair (.int .i64) (.slice (.pair .str (.pair (.slice (.int .i64)) (.slice .str))))))])) (e137 n) (Hdl.no (R := (denL [(.pair (.slice .str) (.pair (.int .i64) (.slice (.pair .str (.pair (.slice (.int .i64)) (.slice .str))))))]))) (inn (lp (bd Go.Proofs.Try.f69) 1)) [s69_o1_0 n] (mk s69_t1 d) (turnR (e137 n) s69_t1 s69_x1 again ks) = s69_l1 n d again ks := by kernel_rfl
theorem s69_s1 (n : Nat) : Sound Go.Proofs.Try.prog (Hdl.no (R := (denL [(.pair (.slice .str) (.pair (.int .i64) (.slice (.pair .str (.pair (.slice (.int .i64)) (.slice .str))))))]))) false (lp (bd Go.Proofs.Try.f69) 1) (s69_o1 n) := loop_ok (h137 n) hP (by kernel_rfl) (O := [s69_o1_0 n]) ⟨s69_s1_0 n, trivial⟩ (s69_b1 n)
def s69_c (n : Nat) : Con := ⟨[(.pair (.slice .str) (.pair (.int .i64) (.slice (.pair .str (.pair (.slice (.int .i64)) (.slice .str))))))], [], [(.pair (.slice .str) (.pair (.int .i64) (.slice (.pair .str (.pair (.slice (.int .i64)) (.slice .str))))))], fun x y => s69 n x, false⟩
theorem s69_eq (n : Nat) (x : denL [(.pair (.slice .str) (.pair (.int .i64) (.slice (.pair .str (.pair (.slice (.int .i64)) (.slice .str))))))]) (y : denL []) : funR (e137 n) Go.Proofs.Try.f69 [(.pair (.slice .str) (.pair (.int .i64) (.slice (.pair .str (.pair (.slice (.int .i64)) (.slice .str))))))] [] [(.pair (.slice .str) (.pair (.int .i64) (.slice (.pair .str (.pair (.slice (.int .i64)) (.slice .str))))))] false [s69_o0 n, s69_o1 n] x y = (s69_c n).fn x y := by kernel_rfl
theorem s69_ok (n : Nat) : ConOK Go.Proofs.Try.prog 69 (s69_c n) := func_ok (h137 n) hP Go.Proofs.Try.func69 (by kernel_rfl) (by kernel_rfl) (O := [s69_o0 n, s69_o1 n]) ⟨s69_s0 n, s69_s1 n, trivial⟩ (s69_eq n)
def e138 (n : Nat) : Env := ⟨gT, (69, s69_c n) :: (e137 n).C, gQ, (e137 n).I, (e137 n).M⟩
theorem h138 (n : Nat) : EnvOK Go.Proofs.Try.prog (e138 n) := env_add (h137 n) (s69_ok n)



end Go.Abs

set_option linter.unusedSimpArgs false
set_option linter.unusedVariables false
namespace Go.Abs
open Go

/-! Specifications. -/
def firstErr : List Int → Int
  | [] => 0
  | e :: r => bif e == 0 then firstErr r else e
def unl (ok : Bool) (e : Int) : Int := bif ok then 0 else e
def inR (n lo hi : Int) : Bool := decide (lo ≤ n) && decide (n ≤ hi)

def chOk (first : Bool) (c : UInt8) : Bool :=
  let n : Int := (c.toNat : Int)
  let letter := (decide (n ≥ 97) && decide (n ≤ 122)) || (decide (n ≥ 65) && decide (n ≤ 90))
  !(!letter && (first || (n != 45 && (decide (n < 48) || decide (n > 57)))))
def charsOk : Nat → List UInt8 → Bool
  | _, [] => true
  | i, c :: r => chOk (i == 0) c && charsOk (i + 1) r
def nameOk (s : List UInt8) : Bool := charsOk 0 s && s != [] && decide (s.length ≤ 12)

theorem v81 (n : Nat) (ok : Bool) (e : Int) : s81 n ok e = some (unl ok e) := by
  unfold s81 unl
  cases ok <;> rfl
theorem v82 (n : Nat) (x lo hi : Int) : s82 n x lo hi = some (inR x lo hi) := rfl
theorem v19 (n : Nat) (x lo hi : Int) : s19 n x lo hi = some (inR x lo hi) := rfl

theorem v80 (n : Nat) (l : List Int) (hl : l.length ≤ maxLen) (hn : l.length < n) : s80 n l = some (firstErr l) := by
  unfold s80
  refine list_loop0 l (fun i => (l, (l.length : Int), (i : Int), ())) (fun _ r => some (firstErr r)) hl ?_ ?_ hn
  · intro i x r hi hx hd hg hlt hw again ih
    simp only [s80_l0, hlt, cond_true, hg, Option.bind_some, hw, ih, firstErr, bne]
    cases h : (x == 0) <;> rfl
  · intro hlt again
    simp only [s80_l0, hlt, cond_false, firstErr]

theorem zero_beq (i : Nat) : ((i : Int) == 0) = (i == 0) := by
  cases i <;> simp
  omega

theorem v98 (n : Nat) (s : List UInt8) (hl : s.length ≤ maxLen) (hn : s.length < n) : s98 n s = some (nameOk s) := by
  unfold s98
  have hb : (bytesOf s).length = s.length := by simp [bytesOf]
  rw [hb]
  refine (list_loop0 s (fun i => (s, bytesOf s, (s.length : Int), (i : Int), ())) (fun i r => some (charsOk i r && s != [] && decide (s.length ≤ 12))) hl ?_ ?_ hn)
  · intro i x r hi hx hd hg hlt hw again ih
    have hg' : geti (bytesOf s) (i : Int) = some (x.toNat : Int) := by
      rw [geti_nat]; simp [bytesOf, hx]
    simp only [s98_l0, hlt, cond_true, hg', Option.bind_some, hw, ih, charsOk, chOk, zero_beq]
    rw [bif_eq]
    split
    · rename_i h
      rw [h]; rfl
    · rename_i h
      rw [Bool.not_eq_true] at h
      rw [h]; rfl
  · intro hlt again
    simp only [s98_l0, hlt, cond_false, charsOk, Bool.true_and]
    congr 2
    simp
    omega

theorem v101 (n : Nat) (s : List UInt8) (hl : s.length ≤ maxLen) (hn : s.length < n) : s101 n s = some (nameOk s) := by
  unfold s101
  rw [bif_eq]
  split
  · rename_i h
    have : nameOk s = false := by
      unfold nameOk
      cases s with
      | nil => simp
      | cons c r =>
        simp only [Bool.or_eq_true, decide_eq_true_eq] at h
        have : ¬ (c :: r).length ≤ 12 := by rcases h with h | h <;> simp at h ⊢ <;> omega
        simp only [this, decide_false, Bool.and_false]
    rw [this]
  · rename_i h
    have h12 : 1 ≤ s.length ∧ s.length ≤ 12 := by simp at h; omega
    refine (list_loop0 s (fun i => (s, (i : Int), ())) (fun i r => some (charsOk i r)) hl ?_ ?_ hn).trans ?_
    · intro i x r hi hx hd hg hlt hw again ih
      simp only [s101_l0, hlt, cond_true, hg, Option.bind_some, hw, ih, charsOk, chOk, zero_beq]
      rw [bif_eq]
      split
      · rename_i h
        rw [h]; rfl
      · rename_i h
        rw [Bool.not_eq_true] at h
        rw [h]; rfl
    · intro hlt again
      simp only [s101_l0, hlt, cond_false, charsOk]
    · unfold nameOk
      have : s != [] := by cases s <;> simp at h12 ⊢
      simp [this, h12]

/-- The place of the first element that is so, or -1. -/
def idxF {α : Type} (p : α → Bool) : Nat → List α → Int
  | _, [] => -1
  | i, x :: r => bif p x then (i : Int) else idxF p (i + 1) r
theorem idxF_any {α : Type} (p : α → Bool) (l : List α) : ∀ i, decide (idxF p i l ≥ 0) = l.any p := by
  induction l with
  | nil => intro i; rfl
  | cons x r ih =>
    intro i
    rw [List.any_cons, ← ih (i + 1)]
    cases h : p x <;> simp [idxF, h]

theorem v143 (n : Nat) (s : List (List UInt8)) (v : List UInt8) (hl : s.length ≤ maxLen) (hn : s.length < n) : s143 n s v = some (idxF (fun x => v == x) 0 s) := by
  unfold s143
  refine list_loop0 s (fun i => (s, v, (s.length : Int), (i : Int), ())) (fun i r => some (idxF (fun x => v == x) i r)) hl ?_ ?_ hn
  · intro i x r hi hx hd hg hlt hw again ih
    simp only [s143_l0, hlt, cond_true, hg, Option.bind_some, hw, ih, idxF]
    cases h : (v == x) <;> rfl
  · intro hlt again
    simp only [s143_l0, hlt, cond_false, idxF]

theorem v129 (n : Nat) (s : List (List UInt8)) (v : List UInt8) (hl : s.length ≤ maxLen) (hn : s.length < n) : s129 n s v = some (s.any fun x => v == x) := by
  unfold s129
  rw [v143 n s v hl hn, Option.bind_some, idxF_any]

theorem v127 (n : Nat) (s : List Int) (v : Int) (hl : s.length ≤ maxLen) (hn : s.length < n) : s127 n s v = some (idxF (fun x => v == x) 0 s) := by
  unfold s127
  refine list_loop0 s (fun i => (s, v, (s.length : Int), (i : Int), ())) (fun i r => some (idxF (fun x => v == x) i r)) hl ?_ ?_ hn
  · intro i x r hi hx hd hg hlt hw again ih
    simp only [s127_l0, hlt, cond_true, hg, Option.bind_some, hw, ih, idxF]
    cases h : (v == x) <;> rfl
  · intro hlt again
    simp only [s127_l0, hlt, cond_false, idxF]

theorem v128 (n : Nat) (s : List Int) (v : Int) (hl : s.length ≤ maxLen) (hn : s.length < n) : s128 n s v = some (s.any fun x => v == x) := by
  unfold s128
  rw [v127 n s v hl hn, Option.bind_some, idxF_any]

theorem v102 (n : Nat) (s : List (List UInt8)) (v : List UInt8) (hl : s.length ≤ maxLen) (hn : s.length < n) : s102 n s v = some (s.any fun x => v == x) := by
  unfold s102
  refine list_loop0 s (fun i => (s, v, (i : Int), ())) (fun i r => some (r.any fun x => v == x)) hl ?_ ?_ hn
  · intro i x r hi hx hd hg hlt hw again ih
    simp only [s102_l0, hlt, cond_true, hg, Option.bind_some, hw, ih, List.any_cons]
    rw [BEq.comm]
    cases h : (v == x) <;> rfl
  · intro hlt again
    simp only [s102_l0, hlt, cond_false, List.any_nil]

theorem v130 (n : Nat) (s : List Int) (f : Int → Option Bool) (q : Int → Bool) (hf : ∀ x ∈ s, f x = some (q x)) (hl : s.length ≤ maxLen) (hn : s.length < n) : s130 n s f = some (idxF q 0 s) := by
  unfold s130
  refine list_loop0 s (fun i => (s, f, (s.length : Int), (i : Int), ())) (fun i r => some (idxF q i r)) hl ?_ ?_ hn
  · intro i x r hi hx hd hg hlt hw again ih
    simp only [s130_l0, hlt, cond_true, hg, Option.bind_some, hw, ih, idxF, hf x (List.mem_of_getElem? hx)]
    cases h : q x <;> rfl
  · intro hlt again
    simp only [s130_l0, hlt, cond_false, idxF]
theorem v94 (n : Nat) (s : List Int) (f : Int → Option Bool) (q : Int → Bool) (hf : ∀ x ∈ s, f x = some (q x)) (hl : s.length ≤ maxLen) (hn : s.length < n) : s94 n s f = some (s.any q) := by
  unfold s94
  rw [v130 n s f q hf hl hn, Option.bind_some, idxF_any]
theorem v131 (n : Nat) (s : List (List UInt8)) (f : List UInt8 → Option Bool) (q : List UInt8 → Bool) (hf : ∀ x ∈ s, f x = some (q x)) (hl : s.length ≤ maxLen) (hn : s.length < n) : s131 n s f = some (idxF q 0 s) := by
  unfold s131
  refine list_loop0 s (fun i => (s, f, (s.length : Int), (i : Int), ())) (fun i r => some (idxF q i r)) hl ?_ ?_ hn
  · intro i x r hi hx hd hg hlt hw again ih
    simp only [s131_l0, hlt, cond_true, hg, Option.bind_some, hw, ih, idxF, hf x (List.mem_of_getElem? hx)]
    cases h : q x <;> rfl
  · intro hlt again
    simp only [s131_l0, hlt, cond_false, idxF]
theorem v96 (n : Nat) (s : List (List UInt8)) (f : List UInt8 → Option Bool) (q : List UInt8 → Bool) (hf : ∀ x ∈ s, f x = some (q x)) (hl : s.length ≤ maxLen) (hn : s.length < n) : s96 n s f = some (s.any q) := by
  unfold s96
  rw [v131 n s f q hf hl hn, Option.bind_some, idxF_any]

end Go.Abs

set_option linter.unusedSimpArgs false
set_option linter.unusedVariables false
namespace Go.Abs
open Go

abbrev Txt := List UInt8
abbrev Cls := Txt × List Int × List Txt
abbrev Book := List Txt × Int × List Cls

def Lt {α : Type} (n : Nat) (l : List α) : Prop := l.length < n
def fitC (n : Nat) (c : Cls) : Prop := Lt n c.1 ∧ Lt n c.2.1 ∧ Lt n c.2.2 ∧ ∀ s ∈ c.2.2, Lt n s
def fitB (n : Nat) (b : Book) : Prop := Lt n b.1 ∧ (∀ s ∈ b.1, Lt n s) ∧ Lt n b.2.2 ∧ ∀ c ∈ b.2.2, fitC n c
structure Fuel (n : Nat) : Prop where
  lo : 2000 ≤ n
  hi : n ≤ 2147483648
theorem Fuel.le {n : Nat} (h : Fuel n) {α : Type} {l : List α} (hl : Lt n l) : l.length ≤ maxLen := by
  have := h.hi
  unfold Lt at hl
  unfold maxLen
  omega

def nameErrS (name : Txt) (others : List Txt) : Int := firstErr [unl (nameOk name) 4, unl (!(others.any fun x => name == x)) 5]
def marksGo (pre : List Txt) : List Txt → Int
  | [] => 0
  | m :: r => bif nameErrS m pre == 0 then marksGo (pre ++ [m]) r else nameErrS m pre
def clsErr (nm nc : Int) (pre : List Txt) (c : Cls) : Int :=
  firstErr [nameErrS c.1 pre, unl (((c.2.1.length : Int) == nm) && ((c.2.2.length : Int) == nm)) 10, unl (!(c.2.1.any fun k => !inR k 0 (nc - 1))) 6, unl (!(c.2.2.any fun s => !nameOk s)) 4]
def clsGo (nm nc : Int) : Nat → List Txt → List Cls → Int × Int
  | _, _, [] => (0, 0)
  | i, pre, c :: r => bif clsErr nm nc pre c == 0 then clsGo nm nc (i + 1) (pre ++ [c.1]) r else ((i : Int), clsErr nm nc pre c)
def sizeErr (b : Book) : Int := firstErr [unl (decide (0 < b.1.length) && decide (0 < b.2.2.length)) 10, unl (decide (b.1.length ≤ 6) && decide (b.2.2.length ≤ 8)) 8]
def bookErr (b : Book) : Int × Int :=
  bif sizeErr b == 0 then
    (bif marksGo [] b.1 == 0 then
      (bif inR b.2.1 0 ((b.2.2.length : Int) - 1) then clsGo b.1.length b.2.2.length 0 [] b.2.2 else (0, 6))
    else (0, marksGo [] b.1))
  else (0, sizeErr b)

theorem v92 (n : Nat) (name : Txt) (others : List Txt) (hf : Fuel n) (h1 : Lt n name) (h2 : Lt n others) : s92 n name others = some (nameErrS name others) := by
  unfold s92
  have := hf.lo
  rw [v98 n name (hf.le h1) h1, Option.bind_some, v81, Option.bind_some, v129 n others name (hf.le h2) h2, Option.bind_some, v81, Option.bind_some, v80 n _ (by simp [maxLen]) (by simp; omega)]
  rfl

/-- Marks, one after the other: both programs. -/
theorem v37_l0 (n : Nat) (hf : Fuel n) (marks : List Txt) (m : Int) (b1 : Int) (b2 : List Cls) (cl : Int) (h1 : Lt n marks) (h2 : ∀ s ∈ marks, Lt n s)
    (k0 : Int × List Txt × Int × List Cls × Int × Unit → Option (Int × Int)) (k1 : Int × Int × Unit → Option (Int × Int)) :
    loopG (s37_l0 n) n (m, marks, (marks.length : Int), (0 : Int), marks, b1, b2, cl, ()) (k0, k1, ()) =
      bif marksGo [] marks == 0 then k0 (m, marks, b1, b2, cl, ()) else k1 (0, marksGo [] marks, ()) := by
  refine (list_loop0 marks (fun i => (m, marks, (marks.length : Int), (i : Int), marks, b1, b2, cl, ())) (fun i r => bif marksGo (marks.take i) r == 0 then k0 (m, marks, b1, b2, cl, ()) else k1 (0, marksGo (marks.take i) r, ())) (hf.le h1) ?_ ?_ h1)
  · intro i x r hi hx hd hg hlt hw again ih
    have hx' : x ∈ marks := List.mem_of_getElem? hx
    simp only [s37_l0, hlt, cond_true, hg, Option.bind_some, hw, ih, cut_zero marks i (by omega), v92 n x (marks.take i) hf (h2 x hx') (by unfold Lt at *; simp; omega)]
    have ht : marks.take (i + 1) = marks.take i ++ [x] := by rw [List.take_add_one, hx]; rfl
    simp only [ht, bne, marksGo]
    cases h : (nameErrS x (marks.take i) == 0) <;> simp [h]
  · intro hlt again
    simp only [s37_l0, hlt, cond_false, marksGo]
    rfl

theorem v93 (n : Nat) (x c0 : Int) : s93 n x c0 = some (inR x 0 (IntKind.wrap .i64 (c0 - 1))) := rfl

theorem v37_l1 (n : Nat) (hf : Fuel n) (nm nc : Int) (isC : Int → Option Bool) (hC : ∀ x, isC x = some (inR x 0 (nc - 1))) (l : List Cls) (h1 : Lt n l) (h2 : ∀ c ∈ l, fitC n c)
    (k0 : Unit → Option (Int × Int)) (k1 : Int × Int × Unit → Option (Int × Int)) :
    loopG (s37_l1 n) n (nm, isC, l, (l.length : Int), (0 : Int), ([] : List Txt), ()) (k0, k1, ()) =
      bif (clsGo nm nc 0 [] l).2 == 0 then k0 () else k1 ((clsGo nm nc 0 [] l).1, (clsGo nm nc 0 [] l).2, ()) := by
  have hlo := hf.lo
  have hhi := hf.hi
  refine (list_loop (A := List Txt) l (fun i names => (nm, isC, l, (l.length : Int), (i : Int), names, ())) (fun i names r => bif (clsGo nm nc i names r).2 == 0 then k0 () else k1 ((clsGo nm nc i names r).1, (clsGo nm nc i names r).2, ()))
    (fun i names => names.length = i) (hf.le h1) ?_ ?_ [] rfl h1)
  · intro i names x r hi hx hd hg hlt hw hinv again ih
    obtain ⟨g1, g2, g3, g4⟩ := h2 x (List.mem_of_getElem? hx)
    have hnm : Lt n names := by unfold Lt at *; omega
    have e1 : s94 n x.2.1 (fun y0 => s95 n y0 isC) = some (x.2.1.any fun k => !inR k 0 (nc - 1)) := by
      refine v94 n _ _ (fun k => !inR k 0 (nc - 1)) (fun k _ => ?_) (hf.le g2) g2
      simp [s95, hC]
    have e2 : s96 n x.2.2 (fun x => s97 n x) = some (x.2.2.any fun s => !nameOk s) := by
      refine v96 n _ _ (fun s => !nameOk s) (fun s hs => ?_) (hf.le g3) g3
      simp [s97, v98 n s (hf.le (g4 s hs)) (g4 s hs)]
    simp only [s37_l1, hlt, cond_true, hg, Option.bind_some, hw, e1, e2, v92 n x.1 names hf g1 hnm, v81, v80 n [_, _, _, _] (by simp [maxLen]) (by simp; omega)]
    have hch : chk (names.length + ([x.1] : List Txt).length) = some () := chk_ok (by unfold Lt at *; simp; omega)
    rw [hch]
    simp only [Option.bind_some]
    rw [ih (names ++ [x.1]) (by simp [hinv])]
    have e3 : firstErr [nameErrS x.1 names, unl (((x.2.1.length : Int) == nm) && ((x.2.2.length : Int) == nm)) 10, unl (!(x.2.1.any fun k => !inR k 0 (nc - 1))) 6, unl (!(x.2.2.any fun s => !nameOk s)) 4] = clsErr nm nc names x := rfl
    rw [e3]
    simp only [clsGo, bne]
    cases h : (clsErr nm nc names x == 0) <;> simp [h]
  · intro names hlt hinv again
    simp only [s37_l1, hlt, cond_false, clsGo]
    rfl

theorem clsGo_ok (nm nc : Int) : (l : List Cls) → (i : Nat) → (pre : List Txt) → ((clsGo nm nc i pre l).2 == 0) = true → clsGo nm nc i pre l = (0, 0)
  | [], _, _, _ => rfl
  | c :: r, i, pre, h => by
    simp only [clsGo] at h ⊢
    cases hc : (clsErr nm nc pre c == 0)
    · rw [hc] at h; simp only [cond_false] at h; rw [hc] at h; cases h
    · rw [hc] at h; exact clsGo_ok nm nc r _ _ h

theorem dec_gt0 {α : Type} (l : List α) : decide (((List.length l : Nat) : Int) > (0 : Int)) = decide (0 < l.length) := by simp
theorem dec_le {α : Type} (l : List α) (k : Nat) : decide (((List.length l : Nat) : Int) ≤ (k : Int)) = decide (l.length ≤ k) := by congr 1; simp
theorem dec_gt {α : Type} (l : List α) (k : Nat) : decide (((List.length l : Nat) : Int) > (k : Int)) = !decide (l.length ≤ k) := by
  by_cases h : l.length ≤ k
  · rw [decide_eq_true h, decide_eq_false]; rfl; omega
  · rw [decide_eq_false h, decide_eq_true]; rfl; omega
theorem beq_zero {α : Type} (l : List α) : (((List.length l : Nat) : Int) == (0 : Int)) = !decide (0 < l.length) := by
  cases l <;> simp
  omega

theorem lenPred {α : Type} {n : Nat} (hf : Fuel n) {l : List α} (h : Lt n l) : IntKind.wrap .i64 ((l.length : Int) - 1) = (l.length : Int) - 1 := by
  have := hf.hi
  unfold Lt at h
  rw [wrap_id] <;> omega

theorem v37 (n : Nat) (b : Book) (hf : Fuel n) (hb : fitB n b) : s37 n b = some (bookErr b) := by
  obtain ⟨h1, h2, h3, h4⟩ := hb
  have hlo := hf.lo
  unfold s37
  simp only [v81, Option.bind_some, v80 n [_, _] (by simp [maxLen]) (by simp; omega), dec_gt0]
  have e0 : firstErr [unl (decide (0 < b.1.length) && decide (0 < b.2.2.length)) (10 : Int), unl ((decide (((List.length b.1 : Nat) : Int) ≤ (6 : Int))) && (decide (((List.length b.2.2 : Nat) : Int) ≤ (8 : Int)))) (8 : Int)] = sizeErr b := by
    unfold sizeErr
    have a3 : decide (((List.length b.1 : Nat) : Int) ≤ (6 : Int)) = decide (b.1.length ≤ 6) := dec_le b.1 6
    have a4 : decide (((List.length b.2.2 : Nat) : Int) ≤ (8 : Int)) = decide (b.2.2.length ≤ 8) := dec_le b.2.2 8
    rw [a3, a4]
  rw [e0, v37_l0 n hf b.1 _ _ _ _ h1 h2]
  unfold bookErr
  simp only [bne, v93, Option.bind_some, lenPred hf h3]
  cases hs : (sizeErr b == 0)
  · rfl
  · cases hm : (marksGo [] b.1 == 0)
    · rfl
    · cases hi : inR b.2.1 0 ((b.2.2.length : Int) - 1)
      · rfl
      · simp only [Bool.not_true, cond_false, cond_true]
        rw [v37_l1 n hf _ (b.2.2.length : Int) _ (fun x => rfl) b.2.2 h3 h4]
        cases hc : ((clsGo (b.1.length : Int) (b.2.2.length : Int) 0 [] b.2.2).2 == 0)
        · rfl
        · rw [clsGo_ok _ _ _ _ _ hc]; rfl

end Go.Abs

set_option linter.unusedSimpArgs false
set_option linter.unusedVariables false
namespace Go.Abs
open Go

theorem v79 (n : Nat) (b : Book) (hf : Fuel n) (hb : fitB n b) : s79 n b = some (b, (bookErr b).2) := by
  unfold s79
  rw [show ((b.1, (b.2.1, b.2.2)) : Book) = b from rfl, v37 n b hf hb]
  rfl

def marksErr (b : Book) (l : List Int) : Int := firstErr [unl (decide (l.length ≤ 40)) 8, unl (!(l.any fun k => !inR k 0 ((b.1.length : Int) - 1))) 6]

theorem v99 (n : Nat) (b : Book) (l : List Int) (hf : Fuel n) (hb : Lt n b.1) (hl : Lt n l) : s99 n b l = some (marksErr b l) := by
  have hlo := hf.lo
  unfold s99
  have e1 : s94 n l (fun y0 => s132 n y0 (b.1, (b.2.1, b.2.2))) = some (l.any fun k => !inR k 0 ((b.1.length : Int) - 1)) := by
    refine v94 n _ _ _ (fun k _ => ?_) (hf.le hl) hl
    simp [s132, v82, lenPred hf hb]
  rw [e1]
  simp only [Option.bind_some, v81, v80 n [_, _] (by simp [maxLen]) (by simp; omega)]
  have : decide (((List.length l : Nat) : Int) ≤ (40 : Int)) = decide (l.length ≤ 40) := dec_le l 40
  rw [this]
  rfl

def sheetErr (b : Book) (s : Txt × List Int) : Int := firstErr [unl (nameOk s.1) 4, marksErr b s.2]

theorem v104 (n : Nat) (b : Book) (s : Txt × List Int) (hf : Fuel n) (hb : fitB n b) (h1 : Lt n s.1) (h2 : Lt n s.2) :
    s104 n b s = some (b, bif (bookErr b).2 == 0 then sheetErr b s else (bookErr b).2) := by
  have hlo := hf.lo
  unfold s104
  rw [show ((b.1, (b.2.1, b.2.2)) : Book) = b from rfl, v79 n b hf hb]
  simp only [Option.bind_some, bne, v98 n s.1 (hf.le h1) h1]
  cases h : ((bookErr b).2 == 0)
  · rfl
  · simp only [Bool.not_true, cond_false, v81, Option.bind_some, cond_true]
    rw [show ((b.1, b.2.1, b.2.2) : Book) = b from rfl, v99 n b s.2 hf hb.1 h2]
    simp only [Option.bind_some, v80 n [_, _] (by simp [maxLen]) (by simp; omega)]
    rfl

/-- The classes that a right walk comes to. -/
def stepTo (cs : List Cls) (k m : Int) : Option Int := (geti cs k).bind fun c => geti c.2.1 m
def walkO (cs : List Cls) : Int → List Int → Option (List Int)
  | k, [] => some [k]
  | k, m :: r => (stepTo cs k m).bind fun k' => (walkO cs k' r).map (k :: ·)

theorem walkO_ne {cs : List Cls} : {l : List Int} → {k : Int} → {w : List Int} → walkO cs k l = some w → ∃ r, w = k :: r ∧ r.length = l.length
  | [], k, w, h => by cases h; exact ⟨[], rfl, rfl⟩
  | m :: l, k, w, h => by
    simp only [walkO] at h
    cases hk : stepTo cs k m with
    | none => rw [hk] at h; cases h
    | some k' =>
      rw [hk] at h
      cases hw : walkO cs k' l with
      | none => simp [hw] at h
      | some w' =>
        simp [hw] at h
        obtain ⟨r, rfl, h2⟩ := walkO_ne hw
        exact ⟨k' :: r, h.symm, by simp [h2]⟩

theorem v100 (n : Nat) (b : Book) (l : List Int) (w : List Int) (hf : Fuel n) (hl : l.length + 1 < n) (hw : walkO b.2.2 b.2.1 l = some w) : s100 n b l = some w := by
  have hhi := hf.hi
  have hll : Lt n l := by unfold Lt; omega
  unfold s100
  refine (list_loop (A := List Int × Int) l (fun i a => (l, (l.length : Int), (i : Int), b.1, b.2.1, b.2.2, a.1 ++ [a.2], ())) (fun i a r => (walkO b.2.2 a.2 r).map (a.1 ++ ·)) (fun i a => a.1.length = i) (hf.le hll) ?_ ?_ ([], b.2.1) rfl hll).trans ?_
  · rintro i ⟨pre, k⟩ x r hi hx hd hg hlt hw' hinv again ih
    have hlen : IntKind.wrap .i64 (((pre ++ [k]).length : Nat) - (1 : Int)) = ((pre.length : Nat) : Int) := by
      have h1 : pre.length = i := hinv
      rw [List.length_append, List.length_singleton, wrap_id] <;> omega
    have hlast : geti (pre ++ [k]) ((pre.length : Nat) : Int) = some k := by rw [geti_nat]; simp
    simp only [s100_l0, hlt, cond_true, hg, Option.bind_some, hw', hlen, hlast]
    simp only [walkO, stepTo]
    cases hc : geti b.2.2 k with
    | none => rfl
    | some c =>
      simp only [Option.bind_some]
      cases hm : geti c.2.1 x with
      | none => rfl
      | some k' =>
        have h1 : pre.length = i := hinv
        have hch : chk ((pre ++ [k]).length + ([k'] : List Int).length) = some () := chk_ok (by simp; omega)
        simp only [Option.bind_some, hch]
        rw [ih (pre ++ [k], k') (by simp [h1])]
        simp [Option.map_map, Function.comp_def]
  · rintro ⟨pre, k⟩ hlt hinv again
    simp only [s100_l0, hlt, cond_false, walkO]
    rfl
  · rw [hw]; rfl

/-! The reference. -/
theorem v103_l0 (n : Nat) (hf : Fuel n) (b0 : List Txt) (b1 : Int) (cs : List Cls) (c : Cls) (i : Nat) (hi : i ≤ cs.length) (hc : Lt n cs)
    (k0 : List Txt × Int × List Cls × Txt × List Int × List Txt × Unit → Option Int) (k1 : Int × Unit → Option Int) :
    loopG (s103_l0 n) n ((i : Int), (0 : Int), b0, b1, cs, c.1, c.2.1, c.2.2, ()) (k0, k1, ()) =
      bif ((cs.take i).any fun d => d.1 == c.1) then k1 (5, ()) else k0 (b0, b1, cs, c.1, c.2.1, c.2.2, ()) := by
  have hlen : (cs.take i).length = i := by simp; omega
  have h1 : Lt n (cs.take i) := by unfold Lt at *; omega
  refine (list_loop0 (cs.take i) (fun k => ((i : Int), (k : Int), b0, b1, cs, c.1, c.2.1, c.2.2, ())) (fun _ r => bif (r.any fun d => d.1 == c.1) then k1 (5, ()) else k0 (b0, b1, cs, c.1, c.2.1, c.2.2, ())) (hf.le h1) ?_ ?_ h1)
  · intro k x r hk hx hd hg hlt hw again ih
    rw [hlen] at hlt hk
    have hg' : geti cs (k : Int) = some x := by
      rw [geti_nat] at hg ⊢
      rw [List.getElem?_take_of_lt hk] at hg
      exact hg
    simp only [s103_l0, hlt, cond_true, hg', Option.bind_some, hw, ih, List.any_cons]
    cases h : (x.1 == c.1) <;> simp [h]
  · intro hlt again
    rw [hlen] at hlt ⊢
    simp only [s103_l0, hlt, cond_false]
    rfl

theorem v103_l1 (n : Nat) (hf : Fuel n) (b0 : List Txt) (b1 : Int) (cs : List Cls) (c : Cls) (hc : Lt n cs) (h1 : Lt n c.2.1)
    (k0 : Txt × List Int × List Txt × Unit → Option Int) (k1 : Int × Unit → Option Int) :
    loopG (s103_l1 n) n ((0 : Int), b0, b1, cs, c.1, c.2.1, c.2.2, ()) (k0, k1, ()) =
      bif (c.2.1.any fun k => !inR k 0 ((cs.length : Int) - 1)) then k1 (6, ()) else k0 (c.1, c.2.1, c.2.2, ()) := by
  refine (list_loop0 c.2.1 (fun k => ((k : Int), b0, b1, cs, c.1, c.2.1, c.2.2, ())) (fun _ r => bif (r.any fun k => !inR k 0 ((cs.length : Int) - 1)) then k1 (6, ()) else k0 (c.1, c.2.1, c.2.2, ())) (hf.le h1) ?_ ?_ h1)
  · intro k x r hk hx hd hg hlt hw again ih
    simp only [s103_l1, hlt, cond_true, hg, Option.bind_some, hw, ih, List.any_cons, v19, lenPred hf hc]
    cases h : (inR x 0 ((cs.length : Int) - 1)) <;> simp [h]
  · intro hlt again
    simp only [s103_l1, hlt, cond_false]
    rfl

theorem v103_l2 (n : Nat) (hf : Fuel n) (c : Cls) (h1 : Lt n c.2.2) (h2 : ∀ s ∈ c.2.2, Lt n s)
    (k0 : Unit → Option Int) (k1 : Int × Unit → Option Int) :
    loopG (s103_l2 n) n ((0 : Int), c.1, c.2.1, c.2.2, ()) (k0, k1, ()) =
      bif (c.2.2.any fun s => !nameOk s) then k1 (4, ()) else k0 () := by
  refine (list_loop0 c.2.2 (fun k => ((k : Int), c.1, c.2.1, c.2.2, ())) (fun _ r => bif (r.any fun s => !nameOk s) then k1 (4, ()) else k0 ()) (hf.le h1) ?_ ?_ h1)
  · intro k x r hk hx hd hg hlt hw again ih
    have hs := h2 x (List.mem_of_getElem? hx)
    simp only [s103_l2, hlt, cond_true, hg, Option.bind_some, hw, ih, List.any_cons, v101 n x (hf.le hs) hs]
    cases h : nameOk x <;> simp [h]
  · intro hlt again
    simp only [s103_l2, hlt, cond_false]
    rfl

theorem any_flip {α : Type} (l : List α) (f : α → Txt) (c : Txt) : (l.any fun d => f d == c) = (l.map f).any fun x => c == x := by
  rw [List.any_map]
  congr 1
  funext d
  exact BEq.comm

theorem ne_and (a b c : Int) : ((a != c) || (b != c)) = !((a == c) && (b == c)) := by
  simp only [bne, Bool.not_and]

theorem v103 (n : Nat) (hf : Fuel n) (b : Book) (hb : fitB n b) (i : Nat) (c : Cls) (hc : b.2.2[i]? = some c) :
    s103 n b (i : Int) = some (clsErr b.1.length b.2.2.length ((b.2.2.take i).map (·.1)) c) := by
  obtain ⟨h1, h2, h3, h4⟩ := hb
  obtain ⟨g1, g2, g3, g4⟩ := h4 c (List.mem_of_getElem? hc)
  have hi : i < b.2.2.length := (List.getElem?_eq_some_iff.1 hc).1
  unfold s103
  rw [geti_nat, hc]
  simp only [Option.bind_some, v101 n c.1 (hf.le g1) g1]
  rw [v103_l0 n hf b.1 b.2.1 b.2.2 c i (by omega) h3]
  simp only [v103_l1 n hf b.1 b.2.1 b.2.2 c h3 g2, v103_l2 n hf c g3 g4, any_flip, ne_and]
  unfold clsErr nameErrS
  cases h5 : nameOk c.1
  · rfl
  · cases h6 : ((b.2.2.take i).map (·.1)).any fun x => c.1 == x
    · cases h7 : (((c.2.1.length : Int) == (b.1.length : Int)) && ((c.2.2.length : Int) == (b.1.length : Int)))
      · rfl
      · cases h8 : c.2.1.any fun k => !inR k 0 ((b.2.2.length : Int) - 1)
        · cases h9 : c.2.2.any fun s => !nameOk s <;> rfl
        · rfl
    · rfl

theorem v39_l0 (n : Nat) (hf : Fuel n) (marks : List Txt) (b1 : Int) (b2 : List Cls) (h1 : Lt n marks) (h2 : ∀ s ∈ marks, Lt n s)
    (k0 : List Txt × Int × List Cls × Unit → Option (Int × Int)) (k1 : Int × Int × Unit → Option (Int × Int)) :
    loopG (s39_l0 n) n ((0 : Int), marks, b1, b2, ()) (k0, k1, ()) =
      bif marksGo [] marks == 0 then k0 (marks, b1, b2, ()) else k1 (0, marksGo [] marks, ()) := by
  refine (list_loop0 marks (fun i => ((i : Int), marks, b1, b2, ())) (fun i r => bif marksGo (marks.take i) r == 0 then k0 (marks, b1, b2, ()) else k1 (0, marksGo (marks.take i) r, ())) (hf.le h1) ?_ ?_ h1)
  · intro i x r hi hx hd hg hlt hw again ih
    have hx' := h2 x (List.mem_of_getElem? hx)
    have htk : Lt n (marks.take i) := by unfold Lt at *; simp; omega
    have ht : marks.take (i + 1) = marks.take i ++ [x] := by rw [List.take_add_one, hx]; rfl
    simp only [s39_l0, hlt, cond_true, hg, Option.bind_some, hw, ih, cut_zero marks i (by omega), v101 n x (hf.le hx') hx', v102 n (marks.take i) x (hf.le htk) htk, ht, marksGo, nameErrS]
    cases h5 : nameOk x
    · rfl
    · cases h6 : (marks.take i).any fun y => x == y <;> rfl
  · intro hlt again
    simp only [s39_l0, hlt, cond_false, marksGo]
    rfl

theorem v39_l1 (n : Nat) (hf : Fuel n) (b : Book) (hb : fitB n b)
    (k0 : Unit → Option (Int × Int)) (k1 : Int × Int × Unit → Option (Int × Int)) :
    loopG (s39_l1 n) n ((0 : Int), b.1, b.2.1, b.2.2, ()) (k0, k1, ()) =
      bif (clsGo b.1.length b.2.2.length 0 [] b.2.2).2 == 0 then k0 () else k1 ((clsGo b.1.length b.2.2.length 0 [] b.2.2).1, (clsGo b.1.length b.2.2.length 0 [] b.2.2).2, ()) := by
  have h3 := hb.2.2.1
  refine (list_loop0 b.2.2 (fun i => ((i : Int), b.1, b.2.1, b.2.2, ())) (fun i r => bif (clsGo b.1.length b.2.2.length i ((b.2.2.take i).map (·.1)) r).2 == 0 then k0 () else k1 ((clsGo b.1.length b.2.2.length i ((b.2.2.take i).map (·.1)) r).1, (clsGo b.1.length b.2.2.length i ((b.2.2.take i).map (·.1)) r).2, ())) (hf.le h3) ?_ ?_ h3)
  · intro i x r hi hx hd hg hlt hw again ih
    have hc := v103 n hf b hb i x hx
    have ht : ((b.2.2.take (i + 1)).map (·.1)) = (b.2.2.take i).map (·.1) ++ [x.1] := by rw [List.take_add_one, hx]; simp
    simp only [s39_l1, hlt, cond_true, Option.bind_some, hw, ih, hc, ht, clsGo, bne]
    cases h : (clsErr b.1.length b.2.2.length ((b.2.2.take i).map (·.1)) x == 0) <;> simp only [h, cond_false, cond_true, Bool.not_false, Bool.not_true]
  · intro hlt again
    simp only [s39_l1, hlt, cond_false, clsGo]
    rfl

theorem v39 (n : Nat) (b : Book) (hf : Fuel n) (hb : fitB n b) : s39 n b = some (bookErr b) := by
  have hb' := hb
  obtain ⟨h1, h2, h3, h4⟩ := hb
  unfold s39
  rw [v39_l0 n hf b.1 b.2.1 b.2.2 h1 h2]
  have a3 : decide (((List.length b.1 : Nat) : Int) > (6 : Int)) = !decide (b.1.length ≤ 6) := dec_gt b.1 6
  have a4 : decide (((List.length b.2.2 : Nat) : Int) > (8 : Int)) = !decide (b.2.2.length ≤ 8) := dec_gt b.2.2 8
  simp only [v39_l1 n hf b hb', v19, lenPred hf h3, Option.bind_some, beq_zero, a3, a4]
  unfold bookErr sizeErr
  cases z1 : decide (0 < b.1.length)
  · rfl
  · cases z2 : decide (0 < b.2.2.length)
    · rfl
    · cases z3 : decide (b.1.length ≤ 6)
      · rfl
      · cases z4 : decide (b.2.2.length ≤ 8)
        · rfl
        · simp only [Bool.not_true, Bool.or_false, cond_false]
          cases hm : (marksGo [] b.1 == 0)
          · rfl
          · cases hi : inR b.2.1 0 ((b.2.2.length : Int) - 1)
            · rfl
            · cases hc : ((clsGo (b.1.length : Int) (b.2.2.length : Int) 0 [] b.2.2).2 == 0)
              · rfl
              · rw [clsGo_ok _ _ _ _ _ hc]; rfl

theorem v17 (n : Nat) (b : Book) (hf : Fuel n) (hb : fitB n b) : s17 n b = some (bookErr b).2 := by
  unfold s17
  rw [show ((b.1, (b.2.1, b.2.2)) : Book) = b from rfl, v39 n b hf hb]
  rfl

end Go.Abs
