/-
  YtpbpgbedkmbfkaaCode: the code of the functions that this seat's laws reach, in the form of Ab1 (printed by a program out of the translation; held against it in YtpbpgbedkmbfkaaChk).
-/
import Derived.Test.YtpbpgbedkmbfkaaCodeA
set_option maxRecDepth 100000
namespace Go.Proofs.Ytpbpgbedkmbfkaa
open Go.Ab
@[go_sem] noncomputable def R_steadfastref18_End_2 (_base : Nat) (s : St) (v0 v2 v8 : V) : Option (Ex × Env × St) :=
  obind (vbin .neq v8 (.int .i64 0)) fun x0 =>
  some (.normal, [(0, v0), (2, v2), (8, v8), (14, x0)], s)
@[go_sem] theorem rc_steadfastref18_End_2 {base : Nat} {ρ : Env} {s : St} : rc D base (.reg (some [0, 2, 8, 14]) o_steadfastref18_End_2) ρ s = R_steadfastref18_End_2 base s (get ρ 0) (get ρ 2) (get ρ 8) := rc_reg_O.trans (by kernel_rfl)
@[go_sem] noncomputable def R_steadfastref18_End_3 (_base : Nat) (s : St) (v8 : V) : Option (Ex × Env × St) :=
  some (.normal, [(6, (.int .i64 0)), (7, v8)], s)
@[go_sem] theorem rc_steadfastref18_End_3 {base : Nat} {ρ : Env} {s : St} : rc D base (.reg (some [6, 7]) o_steadfastref18_End_3) ρ s = R_steadfastref18_End_3 base s (get ρ 8) := rc_reg_O.trans (by kernel_rfl)
@[go_sem] noncomputable def R_steadfastref18_End_4 (base : Nat) (s : St) (v0 v2 : V) : Option (Ex × Env × St) :=
  obind (rf D f_steadfastref07_Of [v2] s) fun x0 =>
  obind (extv 0 x0.1) fun x1 =>
  obind (extv 1 x0.1) fun x2 =>
  let x3 : V := .ptr (St.fresh x0.2 false) [] 40; let s3 : St := St.new x0.2 false (.agg 40 [(.int .i64 0), (.int .i64 0), (.int .i64 0), (.int .i64 0), (.int .i64 0)])
  obind (stv base s3 40 x1 x3) fun s4 =>
  some (.normal, [(0, v0), (2, v2), (9, x3), (10, x2)], s4)
@[go_sem] theorem rc_steadfastref18_End_4 {base : Nat} {ρ : Env} {s : St} : rc D base (.reg (some [0, 2, 9, 10]) o_steadfastref18_End_4) ρ s = R_steadfastref18_End_4 base s (get ρ 0) (get ρ 2) := rc_reg_O.trans (by kernel_rfl)
@[go_sem] noncomputable def R_steadfastref18_End_5 (_base : Nat) (s : St) (v0 v2 v9 v10 : V) : Option (Ex × Env × St) :=
  obind (vun .not v10) fun x0 =>
  oguard x0 false (
    obind (fadv 40 0 10 v9) fun x1 =>
    obind (ldv s 10 x1) fun x2 =>
    obind (vbin .neq x2 (.int .i64 1)) fun x3 =>
    oguard x3 true (
      obind (fadv 40 0 10 v9) fun x4 =>
      obind (ldv s 10 x4) fun x5 =>
      obind (vbin .neq x5 (.int .i64 2)) fun x6 =>
      some (.normal, [(0, v0), (2, v2), (9, v9), (32, x6)], s)) (
      some (.normal, [(0, v0), (2, v2), (9, v9), (32, (.bool false))], s)) (
      none)) (
    some (.normal, [(0, v0), (2, v2), (9, v9), (32, (.bool true))], s)) (
    none)
@[go_sem] theorem rc_steadfastref18_End_5 {base : Nat} {ρ : Env} {s : St} : rc D base (.reg (some [0, 2, 9, 32]) o_steadfastref18_End_5) ρ s = R_steadfastref18_End_5 base s (get ρ 0) (get ρ 2) (get ρ 9) (get ρ 10) := rc_reg_O.trans (by kernel_rfl)
@[go_sem] noncomputable def R_steadfastref18_End_6 (_base : Nat) (s : St) : Option (Ex × Env × St) :=
  some (.normal, [(6, (.int .i64 0)), (7, (.int .i64 31))], s)
@[go_sem] theorem rc_steadfastref18_End_6 {base : Nat} {ρ : Env} {s : St} : rc D base (.reg (some [6, 7]) o_steadfastref18_End_6) ρ s = R_steadfastref18_End_6 base s := rc_reg_O.trans (by kernel_rfl)
@[go_sem] noncomputable def R_steadfastref18_End_7 (_base : Nat) (s : St) (v0 v2 v9 : V) : Option (Ex × Env × St) :=
  obind (fadv 40 1 10 v9) fun x0 =>
  obind (ldv s 10 x0) fun x1 =>
  obind (vbin .and x1 (.int .i64 2)) fun x2 =>
  obind (vbin .eql x2 (.int .i64 0)) fun x3 =>
  some (.normal, [(0, v0), (2, v2), (36, x3)], s)
@[go_sem] theorem rc_steadfastref18_End_7 {base : Nat} {ρ : Env} {s : St} : rc D base (.reg (some [0, 2, 36]) o_steadfastref18_End_7) ρ s = R_steadfastref18_End_7 base s (get ρ 0) (get ρ 2) (get ρ 9) := rc_reg_O.trans (by kernel_rfl)
@[go_sem] noncomputable def R_steadfastref18_End_8 (_base : Nat) (s : St) : Option (Ex × Env × St) :=
  some (.normal, [(6, (.int .i64 0)), (7, (.int .i64 32))], s)
@[go_sem] theorem rc_steadfastref18_End_8 {base : Nat} {ρ : Env} {s : St} : rc D base (.reg (some [6, 7]) o_steadfastref18_End_8) ρ s = R_steadfastref18_End_8 base s := rc_reg_O.trans (by kernel_rfl)
@[go_sem] noncomputable def R_steadfastref18_End_9 (_base : Nat) (s : St) (v0 v2 : V) : Option (Ex × Env × St) :=
  obind (rf D f_steadfastref10_Store_Names [v0, v2] s) fun x0 =>
  obind (extv 0 x0.1) fun x1 =>
  obind (extv 1 x0.1) fun x2 =>
  some (.normal, [(6, x1), (7, x2)], x0.2)
@[go_sem] theorem rc_steadfastref18_End_9 {base : Nat} {ρ : Env} {s : St} : rc D base (.reg (some [6, 7]) o_steadfastref18_End_9) ρ s = R_steadfastref18_End_9 base s (get ρ 0) (get ρ 2) := rc_reg_O.trans (by kernel_rfl)

@[go_sem] noncomputable def R_objects_Store_End_0 (_base : Nat) (s : St) (v0 v1 : V) : Option (Ex × Env × St) :=
  some (.normal, [(0, v0), (1, v1)], s)
@[go_sem] theorem rc_objects_Store_End_0 {base : Nat} {ρ : Env} {s : St} : rc D base (.reg (some [0, 1]) o_objects_Store_End_0) ρ s = R_objects_Store_End_0 base s (get ρ 0) (get ρ 1) := rc_reg_O.trans (by kernel_rfl)
@[go_sem] noncomputable def R_objects_Store_End_1 (_base : Nat) (s : St) (v0 v1 : V) : Option (Ex × Env × St) :=
  obind (rf D f_objects_Store_is [v0, v1] s) fun x0 =>
  some (.normal, [(0, v0), (1, v1), (5, x0.1)], x0.2)
@[go_sem] theorem rc_objects_Store_End_1 {base : Nat} {ρ : Env} {s : St} : rc D base (.reg (some [0, 1, 5]) o_objects_Store_End_1) ρ s = R_objects_Store_End_1 base s (get ρ 0) (get ρ 1) := rc_reg_O.trans (by kernel_rfl)
@[go_sem] noncomputable def R_objects_Store_End_2 (_base : Nat) (s : St) (v0 v1 v5 : V) : Option (Ex × Env × St) :=
  obind (vbin .neq v5 (.int .i64 0)) fun x0 =>
  some (.normal, [(0, v0), (1, v1), (5, v5), (10, x0)], s)
@[go_sem] theorem rc_objects_Store_End_2 {base : Nat} {ρ : Env} {s : St} : rc D base (.reg (some [0, 1, 5, 10]) o_objects_Store_End_2) ρ s = R_objects_Store_End_2 base s (get ρ 0) (get ρ 1) (get ρ 5) := rc_reg_O.trans (by kernel_rfl)
@[go_sem] noncomputable def R_objects_Store_End_3 (_base : Nat) (s : St) (v5 : V) : Option (Ex × Env × St) :=
  some (.normal, [(4, v5)], s)
@[go_sem] theorem rc_objects_Store_End_3 {base : Nat} {ρ : Env} {s : St} : rc D base (.reg (some [4]) o_objects_Store_End_3) ρ s = R_objects_Store_End_3 base s (get ρ 5) := rc_reg_O.trans (by kernel_rfl)
@[go_sem] noncomputable def R_objects_Store_End_4 (_base : Nat) (s : St) (v0 v1 : V) : Option (Ex × Env × St) :=
  obind (rf D f_objects_Store_own [v0, v1] s) fun x0 =>
  some (.normal, [(0, v0), (1, v1), (14, x0.1)], x0.2)
@[go_sem] theorem rc_objects_Store_End_4 {base : Nat} {ρ : Env} {s : St} : rc D base (.reg (some [0, 1, 14]) o_objects_Store_End_4) ρ s = R_objects_Store_End_4 base s (get ρ 0) (get ρ 1) := rc_reg_O.trans (by kernel_rfl)
@[go_sem] noncomputable def R_objects_Store_End_5 (_base : Nat) (s : St) (v0 v1 : V) : Option (Ex × Env × St) :=
  obind (nilv v0) fun x0 =>
  obind (fadv 43 1 1 x0) fun x1 =>
  obind (ldv s 1 x1) fun x2 =>
  obind (nilv v0) fun x3 =>
  obind (fadv 43 2 48 x3) fun x4 =>
  obind (iadv 48 49 42 x4 v1) fun x5 =>
  obind (fadv 42 2 10 x5) fun x6 =>
  obind (ldv s 10 x6) fun x7 =>
  obind (rf D f_frames_Frames_Free [x2, x7] s) fun x8 =>
  some (.normal, [(0, v0), (1, v1)], x8.2)
@[go_sem] theorem rc_objects_Store_End_5 {base : Nat} {ρ : Env} {s : St} : rc D base (.regd (some [0, 1]) o_objects_Store_End_5) ρ s = R_objects_Store_End_5 base s (get ρ 0) (get ρ 1) := rc_regd_O.trans (by kernel_rfl)
@[go_sem] noncomputable def R_objects_Store_End_6 (base : Nat) (s : St) (v0 v1 : V) : Option (Ex × Env × St) :=
  obind (nilv v0) fun x0 =>
  obind (fadv 43 2 48 x0) fun x1 =>
  obind (iadv 48 49 42 x1 v1) fun x2 =>
  obind (ldv s 42 x2) fun x3 =>
  obind (pcallw D (pcut base [x3]) base f_entry_End [x3] s) fun x4 =>
  obind (extv 0 x4) fun x5 =>
  obind (extv 1 x4) fun _x6 =>
  obind (nilv v0) fun x7 =>
  obind (fadv 43 2 48 x7) fun x8 =>
  obind (iadv 48 49 42 x8 v1) fun x9 =>
  obind (stv base s 42 x5 x9) fun s10 =>
  some (.normal, [], s10)
@[go_sem] theorem rc_objects_Store_End_6 {base : Nat} {ρ : Env} {s : St} : rc D base (.regd (some []) o_objects_Store_End_6) ρ s = R_objects_Store_End_6 base s (get ρ 0) (get ρ 1) := rc_regd_O.trans (by kernel_rfl)
@[go_sem] noncomputable def R_objects_Store_End_7 (_base : Nat) (s : St) : Option (Ex × Env × St) :=
  some (.normal, [(4, (.int .i64 0))], s)
@[go_sem] theorem rc_objects_Store_End_7 {base : Nat} {ρ : Env} {s : St} : rc D base (.reg (some [4]) o_objects_Store_End_7) ρ s = R_objects_Store_End_7 base s := rc_reg_O.trans (by kernel_rfl)

@[go_sem] noncomputable def R_caps_Diminish_0 (_base : Nat) (s : St) (v0 v1 v2 : V) : Option (Ex × Env × St) :=
  some (.normal, [(0, v0), (1, v1), (2, v2)], s)
@[go_sem] theorem rc_caps_Diminish_0 {base : Nat} {ρ : Env} {s : St} : rc D base (.reg (some [0, 1, 2]) o_caps_Diminish_0) ρ s = R_caps_Diminish_0 base s (get ρ 0) (get ρ 1) (get ρ 2) := rc_reg_O.trans (by kernel_rfl)
@[go_sem] noncomputable def R_caps_Diminish_1 (base : Nat) (s : St) (v0 v1 v2 : V) : Option (Ex × Env × St) :=
  obind (rf D f_caps_Of [v0] s) fun x0 =>
  obind (extv 0 x0.1) fun x1 =>
  obind (extv 1 x0.1) fun x2 =>
  let x3 : V := .ptr (St.fresh x0.2 false) [] 40; let s3 : St := St.new x0.2 false (.agg 40 [(.int .i64 0), (.int .i64 0), (.int .i64 0), (.int .i64 0), (.int .i64 0)])
  obind (stv base s3 40 x1 x3) fun s4 =>
  some (.normal, [(1, v1), (2, v2), (8, x3), (9, x2)], s4)
@[go_sem] theorem rc_caps_Diminish_1 {base : Nat} {ρ : Env} {s : St} : rc D base (.reg (some [1, 2, 8, 9]) o_caps_Diminish_1) ρ s = R_caps_Diminish_1 base s (get ρ 0) (get ρ 1) (get ρ 2) := rc_reg_O.trans (by kernel_rfl)
@[go_sem] noncomputable def R_caps_Diminish_2 (_base : Nat) (s : St) (v1 v2 v8 v9 : V) : Option (Ex × Env × St) :=
  obind (vun .not v9) fun x0 =>
  some (.normal, [(1, v1), (2, v2), (8, v8), (15, x0)], s)
@[go_sem] theorem rc_caps_Diminish_2 {base : Nat} {ρ : Env} {s : St} : rc D base (.reg (some [1, 2, 8, 15]) o_caps_Diminish_2) ρ s = R_caps_Diminish_2 base s (get ρ 1) (get ρ 2) (get ρ 8) (get ρ 9) := rc_reg_O.trans (by kernel_rfl)
@[go_sem] noncomputable def R_caps_Diminish_3 (_base : Nat) (s : St) : Option (Ex × Env × St) :=
  some (.normal, [(6, (.int .u64 0)), (7, (.int .i64 31))], s)
@[go_sem] theorem rc_caps_Diminish_3 {base : Nat} {ρ : Env} {s : St} : rc D base (.reg (some [6, 7]) o_caps_Diminish_3) ρ s = R_caps_Diminish_3 base s := rc_reg_O.trans (by kernel_rfl)
@[go_sem] noncomputable def R_caps_Diminish_4 (_base : Nat) (s : St) (v1 v2 v8 : V) : Option (Ex × Env × St) :=
  obind (rf D f_caps_within [v1, (.int .i64 0), (.int .i64 15)] s) fun x0 =>
  obind (vun .not x0.1) fun x1 =>
  some (.normal, [(1, v1), (2, v2), (8, v8), (18, x1)], x0.2)
@[go_sem] theorem rc_caps_Diminish_4 {base : Nat} {ρ : Env} {s : St} : rc D base (.reg (some [1, 2, 8, 18]) o_caps_Diminish_4) ρ s = R_caps_Diminish_4 base s (get ρ 1) (get ρ 2) (get ρ 8) := rc_reg_O.trans (by kernel_rfl)
@[go_sem] noncomputable def R_caps_Diminish_5 (_base : Nat) (s : St) (v1 v2 v8 : V) : Option (Ex × Env × St) :=
  obind (rf D f_caps_within [v2, (.int .i64 0), (.int .i64 65535)] s) fun x0 =>
  obind (vun .not x0.1) fun x1 =>
  some (.normal, [(1, v1), (2, v2), (8, v8), (18, x1)], x0.2)
@[go_sem] theorem rc_caps_Diminish_5 {base : Nat} {ρ : Env} {s : St} : rc D base (.reg (some [1, 2, 8, 18]) o_caps_Diminish_5) ρ s = R_caps_Diminish_5 base s (get ρ 1) (get ρ 2) (get ρ 8) := rc_reg_O.trans (by kernel_rfl)
@[go_sem] noncomputable def R_caps_Diminish_6 (_base : Nat) (s : St) : Option (Ex × Env × St) :=
  some (.normal, [(6, (.int .u64 0)), (7, (.int .i64 1))], s)
@[go_sem] theorem rc_caps_Diminish_6 {base : Nat} {ρ : Env} {s : St} : rc D base (.reg (some [6, 7]) o_caps_Diminish_6) ρ s = R_caps_Diminish_6 base s := rc_reg_O.trans (by kernel_rfl)
@[go_sem] noncomputable def R_caps_Diminish_7 (base : Nat) (s : St) (v1 v2 v8 : V) : Option (Ex × Env × St) :=
  obind (fadv 40 1 10 v8) fun x0 =>
  obind (ldv s 10 x0) fun x1 =>
  obind (vbin .and x1 v1) fun x2 =>
  obind (fadv 40 1 10 v8) fun x3 =>
  obind (stv base s 10 x2 x3) fun s4 =>
  some (.normal, [(2, v2), (8, v8)], s4)
@[go_sem] theorem rc_caps_Diminish_7 {base : Nat} {ρ : Env} {s : St} : rc D base (.reg (some [2, 8]) o_caps_Diminish_7) ρ s = R_caps_Diminish_7 base s (get ρ 1) (get ρ 2) (get ρ 8) := rc_reg_O.trans (by kernel_rfl)
@[go_sem] noncomputable def R_caps_Diminish_8 (_base : Nat) (s : St) (v2 v8 : V) : Option (Ex × Env × St) :=
  obind (fadv 40 4 10 v8) fun x0 =>
  obind (ldv s 10 x0) fun x1 =>
  obind (vbin .eql x1 (.int .i64 0)) fun x2 =>
  some (.normal, [(2, v2), (8, v8), (32, x2)], s)
@[go_sem] theorem rc_caps_Diminish_8 {base : Nat} {ρ : Env} {s : St} : rc D base (.reg (some [2, 8, 32]) o_caps_Diminish_8) ρ s = R_caps_Diminish_8 base s (get ρ 2) (get ρ 8) := rc_reg_O.trans (by kernel_rfl)
@[go_sem] noncomputable def R_caps_Diminish_9 (base : Nat) (s : St) (v2 v8 : V) : Option (Ex × Env × St) :=
  obind (fadv 40 4 10 v8) fun x0 =>
  obind (stv base s 10 v2 x0) fun s1 =>
  some (.normal, [(8, v8)], s1)
@[go_sem] theorem rc_caps_Diminish_9 {base : Nat} {ρ : Env} {s : St} : rc D base (.reg (some [8]) o_caps_Diminish_9) ρ s = R_caps_Diminish_9 base s (get ρ 2) (get ρ 8) := rc_reg_O.trans (by kernel_rfl)
@[go_sem] noncomputable def R_caps_Diminish_10 (_base : Nat) (s : St) (v8 : V) : Option (Ex × Env × St) :=
  obind (ldv s 40 v8) fun x0 =>
  obind (rf D f_caps_Word [x0] s) fun x1 =>
  obind (extv 0 x1.1) fun x2 =>
  obind (extv 1 x1.1) fun x3 =>
  some (.normal, [(6, x2), (7, x3)], x1.2)
@[go_sem] theorem rc_caps_Diminish_10 {base : Nat} {ρ : Env} {s : St} : rc D base (.reg (some [6, 7]) o_caps_Diminish_10) ρ s = R_caps_Diminish_10 base s (get ρ 8) := rc_reg_O.trans (by kernel_rfl)

@[go_sem] noncomputable def R_steadfastref07_Word_0 (_base : Nat) (s : St) (v0 : V) : Option (Ex × Env × St) :=
  if V.ok v0 && mayNew false v0 then let x0 : V := .ptr (St.fresh s false) [] (V.tag v0); let s0 : St := St.new s false v0
  some (.normal, [(1, x0)], s0)
  else none
@[go_sem] theorem rc_steadfastref07_Word_0 {base : Nat} {ρ : Env} {s : St} : rc D base (.reg (some [1]) o_steadfastref07_Word_0) ρ s = R_steadfastref07_Word_0 base s (get ρ 0) := rc_reg_O.trans (by kernel_rfl)
@[go_sem] noncomputable def R_steadfastref07_Word_1 (_base : Nat) (s : St) (v1 : V) : Option (Ex × Env × St) :=
  obind (fadv 40 0 10 v1) fun x0 =>
  obind (ldv s 10 x0) fun x1 =>
  obind (vbin .lss x1 (.int .i64 1)) fun x2 =>
  oguard x2 false (
    obind (fadv 40 0 10 v1) fun x3 =>
    obind (ldv s 10 x3) fun x4 =>
    obind (vbin .gtr x4 (.int .i64 6)) fun x5 =>
    oguard x5 false (
      obind (fadv 40 1 10 v1) fun x6 =>
      obind (ldv s 10 x6) fun x7 =>
      obind (vbin .lss x7 (.int .i64 0)) fun x8 =>
      oguard x8 false (
        obind (fadv 40 1 10 v1) fun x9 =>
        obind (ldv s 10 x9) fun x10 =>
        obind (vbin .gtr x10 (.int .i64 15)) fun x11 =>
        oguard x11 false (
          obind (fadv 40 2 10 v1) fun x12 =>
          obind (ldv s 10 x12) fun x13 =>
          obind (vbin .lss x13 (.int .i64 0)) fun x14 =>
          oguard x14 false (
            obind (fadv 40 2 10 v1) fun x15 =>
            obind (ldv s 10 x15) fun x16 =>
            obind (vbin .geq x16 (.int .i64 49)) fun x17 =>
            oguard x17 false (
              obind (fadv 40 3 10 v1) fun x18 =>
              obind (ldv s 10 x18) fun x19 =>
              obind (vbin .lss x19 (.int .i64 0)) fun x20 =>
              oguard x20 false (
                obind (fadv 40 3 10 v1) fun x21 =>
                obind (ldv s 10 x21) fun x22 =>
                obind (vbin .gtr x22 (.int .i64 16777215)) fun x23 =>
                oguard x23 false (
                  obind (fadv 40 4 10 v1) fun x24 =>
                  obind (ldv s 10 x24) fun x25 =>
                  obind (vbin .lss x25 (.int .i64 0)) fun x26 =>
                  oguard x26 false (
                    obind (fadv 40 4 10 v1) fun x27 =>
                    obind (ldv s 10 x27) fun x28 =>
                    obind (vbin .gtr x28 (.int .i64 65535)) fun x29 =>
                    some (.normal, [(1, v1), (53, x29)], s)) (
                    some (.normal, [(1, v1), (53, (.bool true))], s)) (
                    none)) (
                  some (.normal, [(1, v1), (53, (.bool true))], s)) (
                  none)) (
                some (.normal, [(1, v1), (53, (.bool true))], s)) (
                none)) (
              some (.normal, [(1, v1), (53, (.bool true))], s)) (
              none)) (
            some (.normal, [(1, v1), (53, (.bool true))], s)) (
            none)) (
          some (.normal, [(1, v1), (53, (.bool true))], s)) (
          none)) (
        some (.normal, [(1, v1), (53, (.bool true))], s)) (
        none)) (
      some (.normal, [(1, v1), (53, (.bool true))], s)) (
      none)) (
    some (.normal, [(1, v1), (53, (.bool true))], s)) (
    none)
@[go_sem] theorem rc_steadfastref07_Word_1 {base : Nat} {ρ : Env} {s : St} : rc D base (.reg (some [1, 53]) o_steadfastref07_Word_1) ρ s = R_steadfastref07_Word_1 base s (get ρ 1) := rc_reg_O.trans (by kernel_rfl)
@[go_sem] noncomputable def R_steadfastref07_Word_2 (_base : Nat) (s : St) : Option (Ex × Env × St) :=
  some (.normal, [(2, (.int .u64 0)), (3, (.int .i64 1))], s)
@[go_sem] theorem rc_steadfastref07_Word_2 {base : Nat} {ρ : Env} {s : St} : rc D base (.reg (some [2, 3]) o_steadfastref07_Word_2) ρ s = R_steadfastref07_Word_2 base s := rc_reg_O.trans (by kernel_rfl)
@[go_sem] noncomputable def R_steadfastref07_Word_3 (_base : Nat) (s : St) (v1 : V) : Option (Ex × Env × St) :=
  obind (fadv 40 0 10 v1) fun x0 =>
  obind (ldv s 10 x0) fun x1 =>
  obind (vbin .eql x1 (.int .i64 5)) fun x2 =>
  oguard x2 false (
    obind (fadv 40 0 10 v1) fun x3 =>
    obind (ldv s 10 x3) fun x4 =>
    obind (vbin .eql x4 (.int .i64 6)) fun x5 =>
    oguard x5 true (
      obind (fadv 40 2 10 v1) fun x6 =>
      obind (ldv s 10 x6) fun x7 =>
      obind (vbin .neq x7 (.int .i64 0)) fun x8 =>
      oguard x8 false (
        obind (fadv 40 3 10 v1) fun x9 =>
        obind (ldv s 10 x9) fun x10 =>
        obind (vbin .neq x10 (.int .i64 0)) fun x11 =>
        some (.normal, [(1, v1), (71, x11)], s)) (
        some (.normal, [(1, v1), (71, (.bool true))], s)) (
        none)) (
      some (.normal, [(1, v1), (71, (.bool false))], s)) (
      none)) (
    obind (fadv 40 2 10 v1) fun x3 =>
    obind (ldv s 10 x3) fun x4 =>
    obind (vbin .neq x4 (.int .i64 0)) fun x5 =>
    oguard x5 false (
      obind (fadv 40 3 10 v1) fun x6 =>
      obind (ldv s 10 x6) fun x7 =>
      obind (vbin .neq x7 (.int .i64 0)) fun x8 =>
      some (.normal, [(1, v1), (71, x8)], s)) (
      some (.normal, [(1, v1), (71, (.bool true))], s)) (
      none)) (
    none)
@[go_sem] theorem rc_steadfastref07_Word_3 {base : Nat} {ρ : Env} {s : St} : rc D base (.reg (some [1, 71]) o_steadfastref07_Word_3) ρ s = R_steadfastref07_Word_3 base s (get ρ 1) := rc_reg_O.trans (by kernel_rfl)
@[go_sem] noncomputable def R_steadfastref07_Word_4 (_base : Nat) (s : St) : Option (Ex × Env × St) :=
  some (.normal, [(2, (.int .u64 0)), (3, (.int .i64 1))], s)
@[go_sem] theorem rc_steadfastref07_Word_4 {base : Nat} {ρ : Env} {s : St} : rc D base (.reg (some [2, 3]) o_steadfastref07_Word_4) ρ s = R_steadfastref07_Word_4 base s := rc_reg_O.trans (by kernel_rfl)
@[go_sem] noncomputable def R_steadfastref07_Word_5 (_base : Nat) (s : St) (v1 : V) : Option (Ex × Env × St) :=
  obind (fadv 40 0 10 v1) fun x0 =>
  obind (ldv s 10 x0) fun x1 =>
  obind (convv .u64 x1) fun x2 =>
  obind (rf D f_steadfastref01_With [(.int .u64 0), (.int .i64 0), (.int .i64 4), x2] s) fun x3 =>
  obind (extv 0 x3.1) fun x4 =>
  obind (extv 1 x3.1) fun _x5 =>
  some (.normal, [(1, v1), (4, x4)], x3.2)
@[go_sem] theorem rc_steadfastref07_Word_5 {base : Nat} {ρ : Env} {s : St} : rc D base (.reg (some [1, 4]) o_steadfastref07_Word_5) ρ s = R_steadfastref07_Word_5 base s (get ρ 1) := rc_reg_O.trans (by kernel_rfl)
@[go_sem] noncomputable def R_steadfastref07_Word_6 (_base : Nat) (s : St) (v1 v4 : V) : Option (Ex × Env × St) :=
  obind (fadv 40 1 10 v1) fun x0 =>
  obind (ldv s 10 x0) fun x1 =>
  obind (convv .u64 x1) fun x2 =>
  obind (rf D f_steadfastref01_With [v4, (.int .i64 4), (.int .i64 4), x2] s) fun x3 =>
  obind (extv 0 x3.1) fun x4 =>
  obind (extv 1 x3.1) fun _x5 =>
  some (.normal, [(1, v1), (4, x4)], x3.2)
@[go_sem] theorem rc_steadfastref07_Word_6 {base : Nat} {ρ : Env} {s : St} : rc D base (.reg (some [1, 4]) o_steadfastref07_Word_6) ρ s = R_steadfastref07_Word_6 base s (get ρ 1) (get ρ 4) := rc_reg_O.trans (by kernel_rfl)
@[go_sem] noncomputable def R_steadfastref07_Word_7 (_base : Nat) (s : St) (v1 v4 : V) : Option (Ex × Env × St) :=
  obind (fadv 40 2 10 v1) fun x0 =>
  obind (ldv s 10 x0) fun x1 =>
  obind (convv .u64 x1) fun x2 =>
  obind (rf D f_steadfastref01_With [v4, (.int .i64 8), (.int .i64 16), x2] s) fun x3 =>
  obind (extv 0 x3.1) fun x4 =>
  obind (extv 1 x3.1) fun _x5 =>
  some (.normal, [(1, v1), (4, x4)], x3.2)
@[go_sem] theorem rc_steadfastref07_Word_7 {base : Nat} {ρ : Env} {s : St} : rc D base (.reg (some [1, 4]) o_steadfastref07_Word_7) ρ s = R_steadfastref07_Word_7 base s (get ρ 1) (get ρ 4) := rc_reg_O.trans (by kernel_rfl)
@[go_sem] noncomputable def R_steadfastref07_Word_8 (_base : Nat) (s : St) (v1 v4 : V) : Option (Ex × Env × St) :=
  obind (fadv 40 3 10 v1) fun x0 =>
  obind (ldv s 10 x0) fun x1 =>
  obind (convv .u64 x1) fun x2 =>
  obind (rf D f_steadfastref01_With [v4, (.int .i64 24), (.int .i64 24), x2] s) fun x3 =>
  obind (extv 0 x3.1) fun x4 =>
  obind (extv 1 x3.1) fun _x5 =>
  some (.normal, [(1, v1), (4, x4)], x3.2)
@[go_sem] theorem rc_steadfastref07_Word_8 {base : Nat} {ρ : Env} {s : St} : rc D base (.reg (some [1, 4]) o_steadfastref07_Word_8) ρ s = R_steadfastref07_Word_8 base s (get ρ 1) (get ρ 4) := rc_reg_O.trans (by kernel_rfl)
@[go_sem] noncomputable def R_steadfastref07_Word_9 (_base : Nat) (s : St) (v1 v4 : V) : Option (Ex × Env × St) :=
  obind (fadv 40 4 10 v1) fun x0 =>
  obind (ldv s 10 x0) fun x1 =>
  obind (convv .u64 x1) fun x2 =>
  obind (rf D f_steadfastref01_With [v4, (.int .i64 48), (.int .i64 16), x2] s) fun x3 =>
  obind (extv 0 x3.1) fun x4 =>
  obind (extv 1 x3.1) fun _x5 =>
  some (.normal, [(4, x4)], x3.2)
@[go_sem] theorem rc_steadfastref07_Word_9 {base : Nat} {ρ : Env} {s : St} : rc D base (.reg (some [4]) o_steadfastref07_Word_9) ρ s = R_steadfastref07_Word_9 base s (get ρ 1) (get ρ 4) := rc_reg_O.trans (by kernel_rfl)
@[go_sem] noncomputable def R_steadfastref07_Word_10 (_base : Nat) (s : St) (v4 : V) : Option (Ex × Env × St) :=
  some (.normal, [(2, v4), (3, (.int .i64 0))], s)
@[go_sem] theorem rc_steadfastref07_Word_10 {base : Nat} {ρ : Env} {s : St} : rc D base (.reg (some [2, 3]) o_steadfastref07_Word_10) ρ s = R_steadfastref07_Word_10 base s (get ρ 4) := rc_reg_O.trans (by kernel_rfl)

@[go_sem] noncomputable def R_entry_Names_0 (_base : Nat) (s : St) (v0 v1 v2 : V) : Option (Ex × Env × St) :=
  if V.ok v0 && mayNew false v0 then let x0 : V := .ptr (St.fresh s false) [] (V.tag v0); let s0 : St := St.new s false v0
  some (.normal, [(1, v1), (2, v2), (3, x0)], s0)
  else none
@[go_sem] theorem rc_entry_Names_0 {base : Nat} {ρ : Env} {s : St} : rc D base (.reg (some [1, 2, 3]) o_entry_Names_0) ρ s = R_entry_Names_0 base s (get ρ 0) (get ρ 1) (get ρ 2) := rc_reg_O.trans (by kernel_rfl)
@[go_sem] noncomputable def R_entry_Names_1 (base : Nat) (s : St) (v1 v2 v3 : V) : Option (Ex × Env × St) :=
  obind (rf D f_caps_Of [v2] s) fun x0 =>
  obind (extv 0 x0.1) fun x1 =>
  obind (extv 1 x0.1) fun x2 =>
  let x3 : V := .ptr (St.fresh x0.2 false) [] 40; let s3 : St := St.new x0.2 false (.agg 40 [(.int .i64 0), (.int .i64 0), (.int .i64 0), (.int .i64 0), (.int .i64 0)])
  obind (stv base s3 40 x1 x3) fun s4 =>
  some (.normal, [(1, v1), (3, v3), (7, x3), (8, x2)], s4)
@[go_sem] theorem rc_entry_Names_1 {base : Nat} {ρ : Env} {s : St} : rc D base (.reg (some [1, 3, 7, 8]) o_entry_Names_1) ρ s = R_entry_Names_1 base s (get ρ 1) (get ρ 2) (get ρ 3) := rc_reg_O.trans (by kernel_rfl)
@[go_sem] noncomputable def R_entry_Names_2 (_base : Nat) (s : St) (v1 v3 v7 v8 : V) : Option (Ex × Env × St) :=
  obind (vun .not v8) fun x0 =>
  some (.normal, [(1, v1), (3, v3), (7, v7), (14, x0)], s)
@[go_sem] theorem rc_entry_Names_2 {base : Nat} {ρ : Env} {s : St} : rc D base (.reg (some [1, 3, 7, 14]) o_entry_Names_2) ρ s = R_entry_Names_2 base s (get ρ 1) (get ρ 3) (get ρ 7) (get ρ 8) := rc_reg_O.trans (by kernel_rfl)
@[go_sem] noncomputable def R_entry_Names_3 (_base : Nat) (s : St) (v1 v3 v7 : V) : Option (Ex × Env × St) :=
  obind (fadv 40 0 10 v7) fun x0 =>
  obind (ldv s 10 x0) fun x1 =>
  obind (vbin .gtr x1 (.int .i64 4)) fun x2 =>
  some (.normal, [(1, v1), (3, v3), (7, v7), (14, x2)], s)
@[go_sem] theorem rc_entry_Names_3 {base : Nat} {ρ : Env} {s : St} : rc D base (.reg (some [1, 3, 7, 14]) o_entry_Names_3) ρ s = R_entry_Names_3 base s (get ρ 1) (get ρ 3) (get ρ 7) := rc_reg_O.trans (by kernel_rfl)
@[go_sem] noncomputable def R_entry_Names_4 (_base : Nat) (s : St) : Option (Ex × Env × St) :=
  some (.normal, [(6, (.int .i64 31))], s)
@[go_sem] theorem rc_entry_Names_4 {base : Nat} {ρ : Env} {s : St} : rc D base (.reg (some [6]) o_entry_Names_4) ρ s = R_entry_Names_4 base s := rc_reg_O.trans (by kernel_rfl)
@[go_sem] noncomputable def R_entry_Names_5 (_base : Nat) (s : St) (v1 v3 v7 : V) : Option (Ex × Env × St) :=
  obind (fadv 40 2 10 v7) fun x0 =>
  obind (ldv s 10 x0) fun x1 =>
  obind (vbin .neq x1 v1) fun x2 =>
  some (.normal, [(3, v3), (7, v7), (20, x2)], s)
@[go_sem] theorem rc_entry_Names_5 {base : Nat} {ρ : Env} {s : St} : rc D base (.reg (some [3, 7, 20]) o_entry_Names_5) ρ s = R_entry_Names_5 base s (get ρ 1) (get ρ 3) (get ρ 7) := rc_reg_O.trans (by kernel_rfl)
@[go_sem] noncomputable def R_entry_Names_6 (_base : Nat) (s : St) : Option (Ex × Env × St) :=
  some (.normal, [(6, (.int .i64 30))], s)
@[go_sem] theorem rc_entry_Names_6 {base : Nat} {ρ : Env} {s : St} : rc D base (.reg (some [6]) o_entry_Names_6) ρ s = R_entry_Names_6 base s := rc_reg_O.trans (by kernel_rfl)
@[go_sem] noncomputable def R_entry_Names_7 (_base : Nat) (s : St) (v3 v7 : V) : Option (Ex × Env × St) :=
  obind (fadv 40 3 10 v7) fun x0 =>
  obind (ldv s 10 x0) fun x1 =>
  obind (fadv 42 1 10 v3) fun x2 =>
  obind (ldv s 10 x2) fun x3 =>
  obind (vbin .neq x1 x3) fun x4 =>
  some (.normal, [(3, v3), (7, v7), (25, x4)], s)
@[go_sem] theorem rc_entry_Names_7 {base : Nat} {ρ : Env} {s : St} : rc D base (.reg (some [3, 7, 25]) o_entry_Names_7) ρ s = R_entry_Names_7 base s (get ρ 3) (get ρ 7) := rc_reg_O.trans (by kernel_rfl)
@[go_sem] noncomputable def R_entry_Names_8 (_base : Nat) (s : St) : Option (Ex × Env × St) :=
  some (.normal, [(6, (.int .i64 33))], s)
@[go_sem] theorem rc_entry_Names_8 {base : Nat} {ρ : Env} {s : St} : rc D base (.reg (some [6]) o_entry_Names_8) ρ s = R_entry_Names_8 base s := rc_reg_O.trans (by kernel_rfl)
@[go_sem] noncomputable def R_entry_Names_9 (_base : Nat) (s : St) (v3 v7 : V) : Option (Ex × Env × St) :=
  obind (fadv 42 0 10 v3) fun x0 =>
  obind (ldv s 10 x0) fun x1 =>
  obind (vbin .eql x1 (.int .i64 0)) fun x2 =>
  some (.normal, [(3, v3), (7, v7), (31, x2)], s)
@[go_sem] theorem rc_entry_Names_9 {base : Nat} {ρ : Env} {s : St} : rc D base (.reg (some [3, 7, 31]) o_entry_Names_9) ρ s = R_entry_Names_9 base s (get ρ 3) (get ρ 7) := rc_reg_O.trans (by kernel_rfl)
@[go_sem] noncomputable def R_entry_Names_10 (_base : Nat) (s : St) : Option (Ex × Env × St) :=
  some (.normal, [(6, (.int .i64 30))], s)
@[go_sem] theorem rc_entry_Names_10 {base : Nat} {ρ : Env} {s : St} : rc D base (.reg (some [6]) o_entry_Names_10) ρ s = R_entry_Names_10 base s := rc_reg_O.trans (by kernel_rfl)
@[go_sem] noncomputable def R_entry_Names_11 (_base : Nat) (s : St) (v3 v7 : V) : Option (Ex × Env × St) :=
  obind (fadv 40 0 10 v7) fun x0 =>
  obind (ldv s 10 x0) fun x1 =>
  obind (fadv 42 0 10 v3) fun x2 =>
  obind (ldv s 10 x2) fun x3 =>
  obind (vbin .neq x1 x3) fun x4 =>
  some (.normal, [(35, x4)], s)
@[go_sem] theorem rc_entry_Names_11 {base : Nat} {ρ : Env} {s : St} : rc D base (.reg (some [35]) o_entry_Names_11) ρ s = R_entry_Names_11 base s (get ρ 3) (get ρ 7) := rc_reg_O.trans (by kernel_rfl)
@[go_sem] noncomputable def R_entry_Names_12 (_base : Nat) (s : St) : Option (Ex × Env × St) :=
  some (.normal, [(6, (.int .i64 31))], s)
@[go_sem] theorem rc_entry_Names_12 {base : Nat} {ρ : Env} {s : St} : rc D base (.reg (some [6]) o_entry_Names_12) ρ s = R_entry_Names_12 base s := rc_reg_O.trans (by kernel_rfl)
@[go_sem] noncomputable def R_entry_Names_13 (_base : Nat) (s : St) : Option (Ex × Env × St) :=
  some (.normal, [(6, (.int .i64 0))], s)
@[go_sem] theorem rc_entry_Names_13 {base : Nat} {ρ : Env} {s : St} : rc D base (.reg (some [6]) o_entry_Names_13) ρ s = R_entry_Names_13 base s := rc_reg_O.trans (by kernel_rfl)

@[go_sem] noncomputable def R_steadfastref07_Of_0 (_base : Nat) (s : St) (v0 : V) : Option (Ex × Env × St) :=
  let x0 : V := .ptr (St.fresh s false) [] 40; let s0 : St := St.new s false (.agg 40 [(.int .i64 0), (.int .i64 0), (.int .i64 0), (.int .i64 0), (.int .i64 0)])
  some (.normal, [(0, v0), (2, x0)], s0)
@[go_sem] theorem rc_steadfastref07_Of_0 {base : Nat} {ρ : Env} {s : St} : rc D base (.reg (some [0, 2]) o_steadfastref07_Of_0) ρ s = R_steadfastref07_Of_0 base s (get ρ 0) := rc_reg_O.trans (by kernel_rfl)
@[go_sem] noncomputable def R_steadfastref07_Of_1 (base : Nat) (s : St) (v0 v2 : V) : Option (Ex × Env × St) :=
  obind (rf D f_steadfastref01_Field [v0, (.int .i64 0), (.int .i64 4)] s) fun x0 =>
  obind (convv .i64 x0.1) fun x1 =>
  obind (rf D f_steadfastref01_Field [v0, (.int .i64 4), (.int .i64 4)] x0.2) fun x2 =>
  obind (convv .i64 x2.1) fun x3 =>
  obind (rf D f_steadfastref01_Field [v0, (.int .i64 8), (.int .i64 16)] x2.2) fun x4 =>
  obind (convv .i64 x4.1) fun x5 =>
  obind (rf D f_steadfastref01_Field [v0, (.int .i64 24), (.int .i64 24)] x4.2) fun x6 =>
  obind (convv .i64 x6.1) fun x7 =>
  obind (rf D f_steadfastref01_Field [v0, (.int .i64 48), (.int .i64 16)] x6.2) fun x8 =>
  obind (convv .i64 x8.1) fun x9 =>
  obind (setParts [(.int .i64 0), (.int .i64 0), (.int .i64 0), (.int .i64 0), (.int .i64 0)] [(0, x1), (1, x3), (2, x5), (3, x7), (4, x9)]) fun x10 =>
  let x11 : V := .ptr (St.fresh x8.2 false) [] 40; let s11 : St := St.new x8.2 false (.agg 40 [(.int .i64 0), (.int .i64 0), (.int .i64 0), (.int .i64 0), (.int .i64 0)])
  obind (stv base s11 40 (.agg 40 x10) x11) fun s12 =>
  some (.normal, [(0, v0), (2, v2), (4, x11)], s12)
@[go_sem] theorem rc_steadfastref07_Of_1 {base : Nat} {ρ : Env} {s : St} : rc D base (.reg (some [0, 2, 4]) o_steadfastref07_Of_1) ρ s = R_steadfastref07_Of_1 base s (get ρ 0) (get ρ 2) := rc_reg_O.trans (by kernel_rfl)
@[go_sem] noncomputable def R_steadfastref07_Of_2 (_base : Nat) (s : St) (v0 v2 v4 : V) : Option (Ex × Env × St) :=
  obind (ldv s 40 v4) fun x0 =>
  obind (rf D f_steadfastref07_Word [x0] s) fun x1 =>
  obind (extv 0 x1.1) fun x2 =>
  obind (extv 1 x1.1) fun x3 =>
  some (.normal, [(0, v0), (2, v2), (4, v4), (5, x2), (6, x3)], x1.2)
@[go_sem] theorem rc_steadfastref07_Of_2 {base : Nat} {ρ : Env} {s : St} : rc D base (.reg (some [0, 2, 4, 5, 6]) o_steadfastref07_Of_2) ρ s = R_steadfastref07_Of_2 base s (get ρ 0) (get ρ 2) (get ρ 4) := rc_reg_O.trans (by kernel_rfl)
@[go_sem] noncomputable def R_steadfastref07_Of_3 (_base : Nat) (s : St) (v0 v2 v4 v5 v6 : V) : Option (Ex × Env × St) :=
  obind (vbin .neq v6 (.int .i64 0)) fun x0 =>
  oguard x0 false (
    obind (vbin .neq v5 v0) fun x1 =>
    some (.normal, [(2, v2), (4, v4), (34, x1)], s)) (
    some (.normal, [(2, v2), (4, v4), (34, (.bool true))], s)) (
    none)
@[go_sem] theorem rc_steadfastref07_Of_3 {base : Nat} {ρ : Env} {s : St} : rc D base (.reg (some [2, 4, 34]) o_steadfastref07_Of_3) ρ s = R_steadfastref07_Of_3 base s (get ρ 0) (get ρ 2) (get ρ 4) (get ρ 5) (get ρ 6) := rc_reg_O.trans (by kernel_rfl)
@[go_sem] noncomputable def R_steadfastref07_Of_4 (base : Nat) (s : St) (v2 : V) : Option (Ex × Env × St) :=
  obind (setParts [(.int .i64 0), (.int .i64 0), (.int .i64 0), (.int .i64 0), (.int .i64 0)] []) fun x0 =>
  obind (stv base s 40 (.agg 40 x0) v2) fun s1 =>
  some (.normal, [(2, v2), (3, (.bool false))], s1)
@[go_sem] theorem rc_steadfastref07_Of_4 {base : Nat} {ρ : Env} {s : St} : rc D base (.reg (some [2, 3]) o_steadfastref07_Of_4) ρ s = R_steadfastref07_Of_4 base s (get ρ 2) := rc_reg_O.trans (by kernel_rfl)
@[go_sem] noncomputable def R_steadfastref07_Of_5 (base : Nat) (s : St) (v2 v4 : V) : Option (Ex × Env × St) :=
  obind (ldv s 40 v4) fun x0 =>
  obind (stv base s 40 x0 v2) fun s1 =>
  some (.normal, [(2, v2), (3, (.bool true))], s1)
@[go_sem] theorem rc_steadfastref07_Of_5 {base : Nat} {ρ : Env} {s : St} : rc D base (.reg (some [2, 3]) o_steadfastref07_Of_5) ρ s = R_steadfastref07_Of_5 base s (get ρ 2) (get ρ 4) := rc_reg_O.trans (by kernel_rfl)

@[go_sem] noncomputable def R_nvm_Of_0 (_base : Nat) (s : St) (v0 : V) : Option (Ex × Env × St) :=
  some (.normal, [(0, v0)], s)
@[go_sem] theorem rc_nvm_Of_0 {base : Nat} {ρ : Env} {s : St} : rc D base (.reg (some [0]) o_nvm_Of_0) ρ s = R_nvm_Of_0 base s (get ρ 0) := rc_reg_O.trans (by kernel_rfl)
@[go_sem] noncomputable def R_nvm_Of_1 (_base : Nat) (s : St) (v0 : V) : Option (Ex × Env × St) :=
  obind (V.slen false v0) fun x0 =>
  obind (rf D f_nvm_New [(.int .i64 x0)] s) fun x1 =>
  obind (extv 0 x1.1) fun x2 =>
  obind (extv 1 x1.1) fun x3 =>
  some (.normal, [(0, v0), (4, x2), (5, x3)], x1.2)
@[go_sem] theorem rc_nvm_Of_1 {base : Nat} {ρ : Env} {s : St} : rc D base (.reg (some [0, 4, 5]) o_nvm_Of_1) ρ s = R_nvm_Of_1 base s (get ρ 0) := rc_reg_O.trans (by kernel_rfl)
@[go_sem] noncomputable def R_nvm_Of_2 (_base : Nat) (s : St) (v0 v4 v5 : V) : Option (Ex × Env × St) :=
  obind (vbin .neq v5 (.int .i64 0)) fun x0 =>
  some (.normal, [(0, v0), (4, v4), (5, v5), (15, x0)], s)
@[go_sem] theorem rc_nvm_Of_2 {base : Nat} {ρ : Env} {s : St} : rc D base (.reg (some [0, 4, 5, 15]) o_nvm_Of_2) ρ s = R_nvm_Of_2 base s (get ρ 0) (get ρ 4) (get ρ 5) := rc_reg_O.trans (by kernel_rfl)
@[go_sem] noncomputable def R_nvm_Of_3 (_base : Nat) (s : St) (v5 : V) : Option (Ex × Env × St) :=
  some (.normal, [(2, .nilp), (3, v5)], s)
@[go_sem] theorem rc_nvm_Of_3 {base : Nat} {ρ : Env} {s : St} : rc D base (.reg (some [2, 3]) o_nvm_Of_3) ρ s = R_nvm_Of_3 base s (get ρ 5) := rc_reg_O.trans (by kernel_rfl)
@[go_sem] noncomputable def R_nvm_Of_4 (_base : Nat) (s : St) (v0 v4 : V) : Option (Ex × Env × St) :=
  obind (V.slen false v0) fun x0 =>
  some (.normal, [(4, v4), (17, v0), (18, (.int .i64 x0)), (19, (.int .i64 0))], s)
@[go_sem] theorem rc_nvm_Of_4 {base : Nat} {ρ : Env} {s : St} : rc D base (.reg (some [4, 17, 18, 19]) o_nvm_Of_4) ρ s = R_nvm_Of_4 base s (get ρ 0) (get ρ 4) := rc_reg_O.trans (by kernel_rfl)
@[go_sem] noncomputable def R_nvm_Of_5 (_base : Nat) (s : St) (v4 v17 v18 v19 : V) : Option (Ex × Env × St) :=
  obind (vbin .lss v19 v18) fun x0 =>
  some (.normal, [(4, v4), (17, v17), (18, v18), (19, v19), (20, x0)], s)
@[go_sem] theorem rc_nvm_Of_5 {base : Nat} {ρ : Env} {s : St} : rc D base (.reg (some [4, 17, 18, 19, 20]) o_nvm_Of_5) ρ s = R_nvm_Of_5 base s (get ρ 4) (get ρ 17) (get ρ 18) (get ρ 19) := rc_reg_O.trans (by kernel_rfl)
@[go_sem] noncomputable def R_nvm_Of_6 (base : Nat) (s : St) (v4 v17 v18 v19 : V) : Option (Ex × Env × St) :=
  obind (sadv 24 v17 v19) fun x0 =>
  obind (ldv s 24 x0) fun x1 =>
  let x2 : V := .ptr (St.fresh s false) [] 24; let s2 : St := St.new s false (.agg 24 (List.replicate 8 (.int .u64 0)))
  obind (stv base s2 24 x1 x2) fun s3 =>
  some (.normal, [(4, v4), (6, v19), (7, x2), (17, v17), (18, v18), (19, v19)], s3)
@[go_sem] theorem rc_nvm_Of_6 {base : Nat} {ρ : Env} {s : St} : rc D base (.reg (some [4, 6, 7, 17, 18, 19]) o_nvm_Of_6) ρ s = R_nvm_Of_6 base s (get ρ 4) (get ρ 17) (get ρ 18) (get ρ 19) := rc_reg_O.trans (by kernel_rfl)
@[go_sem] noncomputable def R_nvm_Of_7 (base : Nat) (s : St) (v4 v6 v7 v17 v18 v19 : V) : Option (Ex × Env × St) :=
  obind (nilv v4) fun x0 =>
  obind (fadv 59 0 1 x0) fun x1 =>
  obind (ldv s 1 x1) fun x2 =>
  obind (nilv v4) fun x3 =>
  obind (fadv 59 0 1 x3) fun x4 =>
  obind (ldv s 1 x4) fun x5 =>
  obind (ldv s 24 v7) fun x6 =>
  obind (ldv s 24 v7) fun x7 =>
  obind (sadv 55 x2 v6) fun x8 =>
  obind (fadv 55 0 24 x8) fun x9 =>
  obind (stav base s 24 x6 x9 [v7]) fun s10 =>
  obind (sadv 55 x5 v6) fun x11 =>
  obind (fadv 55 1 24 x11) fun x12 =>
  obind (stv base s10 24 x7 x12) fun s13 =>
  some (.normal, [(4, v4), (17, v17), (18, v18), (19, v19)], s13)
@[go_sem] theorem rc_nvm_Of_7 {base : Nat} {ρ : Env} {s : St} : rc D base (.regd (some [4, 17, 18, 19]) o_nvm_Of_7) ρ s = R_nvm_Of_7 base s (get ρ 4) (get ρ 6) (get ρ 7) (get ρ 17) (get ρ 18) (get ρ 19) := rc_regd_O.trans (by kernel_rfl)
@[go_sem] noncomputable def R_nvm_Of_8 (_base : Nat) (s : St) (v4 v17 v18 v19 : V) : Option (Ex × Env × St) :=
  obind (vbin .add v19 (.int .i64 1)) fun x0 =>
  some (.normal, [(4, v4), (17, v17), (18, v18), (19, x0)], s)
@[go_sem] theorem rc_nvm_Of_8 {base : Nat} {ρ : Env} {s : St} : rc D base (.reg (some [4, 17, 18, 19]) o_nvm_Of_8) ρ s = R_nvm_Of_8 base s (get ρ 4) (get ρ 17) (get ρ 18) (get ρ 19) := rc_reg_O.trans (by kernel_rfl)
@[go_sem] noncomputable def R_nvm_Of_9 (_base : Nat) (s : St) (v4 : V) : Option (Ex × Env × St) :=
  some (.normal, [(2, v4), (3, (.int .i64 0))], s)
@[go_sem] theorem rc_nvm_Of_9 {base : Nat} {ρ : Env} {s : St} : rc D base (.reg (some [2, 3]) o_nvm_Of_9) ρ s = R_nvm_Of_9 base s (get ρ 4) := rc_reg_O.trans (by kernel_rfl)

@[go_sem] noncomputable def R_steadfastref03_Of_0 (_base : Nat) (s : St) (v0 : V) : Option (Ex × Env × St) :=
  some (.normal, [(0, v0)], s)
@[go_sem] theorem rc_steadfastref03_Of_0 {base : Nat} {ρ : Env} {s : St} : rc D base (.reg (some [0]) o_steadfastref03_Of_0) ρ s = R_steadfastref03_Of_0 base s (get ρ 0) := rc_reg_O.trans (by kernel_rfl)
@[go_sem] noncomputable def R_steadfastref03_Of_1 (_base : Nat) (s : St) (v0 : V) : Option (Ex × Env × St) :=
  obind (V.slen false v0) fun x0 =>
  obind (vbin .lss (.int .i64 x0) (.int .i64 64)) fun x1 =>
  oguard x1 false (
    obind (V.slen false v0) fun x2 =>
    obind (vbin .gtr (.int .i64 x2) (.int .i64 1024)) fun x3 =>
    some (.normal, [(0, v0), (11, x3)], s)) (
    some (.normal, [(0, v0), (11, (.bool true))], s)) (
    none)
@[go_sem] theorem rc_steadfastref03_Of_1 {base : Nat} {ρ : Env} {s : St} : rc D base (.reg (some [0, 11]) o_steadfastref03_Of_1) ρ s = R_steadfastref03_Of_1 base s (get ρ 0) := rc_reg_O.trans (by kernel_rfl)
@[go_sem] noncomputable def R_steadfastref03_Of_2 (_base : Nat) (s : St) : Option (Ex × Env × St) :=
  some (.normal, [(2, .nilp), (3, (.int .i64 1))], s)
@[go_sem] theorem rc_steadfastref03_Of_2 {base : Nat} {ρ : Env} {s : St} : rc D base (.reg (some [2, 3]) o_steadfastref03_Of_2) ρ s = R_steadfastref03_Of_2 base s := rc_reg_O.trans (by kernel_rfl)
@[go_sem] noncomputable def R_steadfastref03_Of_3 (base : Nat) (s : St) (v0 : V) : Option (Ex × Env × St) :=
  obind (bslv true 58 24 0 (.agg 24 (List.replicate 8 (.int .u64 0))) s []) fun x0 =>
  obind (vappend base true 58 24 x0.1 v0 x0.2) fun x1 =>
  obind (V.slen false v0) fun x2 =>
  obind (mkslv true 53 1 .nils x1.2 (.int .i64 x2) (.int .i64 x2)) fun x3 =>
  obind (setParts [.nils, .nils, (.bool false), (.int .i64 0), (.int .i64 0)] [(0, x1.1), (1, x3.1), (3, (.int .i64 (-1)))]) fun x4 =>
  if V.ok (.agg 33 x4) && mayNew true (.agg 33 x4) then let x5 : V := .ptr (St.fresh x3.2 true) [] (V.tag (.agg 33 x4)); let s5 : St := St.new x3.2 true (.agg 33 x4)
  some (.normal, [(2, x5), (3, (.int .i64 0))], s5)
  else none
@[go_sem] theorem rc_steadfastref03_Of_3 {base : Nat} {ρ : Env} {s : St} : rc D base (.regd (some [2, 3]) o_steadfastref03_Of_3) ρ s = R_steadfastref03_Of_3 base s (get ρ 0) := rc_regd_O.trans (by kernel_rfl)

@[go_sem] noncomputable def R_objects_Of_0 (_base : Nat) (s : St) (v0 v1 v2 v3 : V) : Option (Ex × Env × St) :=
  if V.ok v2 && mayNew false v2 then let x0 : V := .ptr (St.fresh s false) [] (V.tag v2); let s0 : St := St.new s false v2
  if V.ok v3 && mayNew false v3 then let x1 : V := .ptr (St.fresh s0 false) [] (V.tag v3); let s1 : St := St.new s0 false v3
  some (.normal, [(0, v0), (1, v1), (6, x0), (7, x1)], s1)
  else none
  else none
@[go_sem] theorem rc_objects_Of_0 {base : Nat} {ρ : Env} {s : St} : rc D base (.reg (some [0, 1, 6, 7]) o_objects_Of_0) ρ s = R_objects_Of_0 base s (get ρ 0) (get ρ 1) (get ρ 2) (get ρ 3) := rc_reg_O.trans (by kernel_rfl)
@[go_sem] noncomputable def R_objects_Of_1 (_base : Nat) (s : St) (v0 v1 v6 v7 : V) : Option (Ex × Env × St) :=
  obind (rf D f_nvm_Memory_Lines [v0] s) fun x0 =>
  obind (rf D f_frames_New [v1, x0.1] x0.2) fun x1 =>
  obind (extv 0 x1.1) fun x2 =>
  obind (extv 1 x1.1) fun x3 =>
  some (.normal, [(0, v0), (6, v6), (7, v7), (10, x2), (11, x3)], x1.2)
@[go_sem] theorem rc_objects_Of_1 {base : Nat} {ρ : Env} {s : St} : rc D base (.reg (some [0, 6, 7, 10, 11]) o_objects_Of_1) ρ s = R_objects_Of_1 base s (get ρ 0) (get ρ 1) (get ρ 6) (get ρ 7) := rc_reg_O.trans (by kernel_rfl)
@[go_sem] noncomputable def R_objects_Of_2 (_base : Nat) (s : St) (v0 v6 v7 v10 v11 : V) : Option (Ex × Env × St) :=
  obind (vbin .neq v11 (.int .i64 0)) fun x0 =>
  some (.normal, [(0, v0), (6, v6), (7, v7), (10, v10), (11, v11), (25, x0)], s)
@[go_sem] theorem rc_objects_Of_2 {base : Nat} {ρ : Env} {s : St} : rc D base (.reg (some [0, 6, 7, 10, 11, 25]) o_objects_Of_2) ρ s = R_objects_Of_2 base s (get ρ 0) (get ρ 6) (get ρ 7) (get ρ 10) (get ρ 11) := rc_reg_O.trans (by kernel_rfl)
@[go_sem] noncomputable def R_objects_Of_3 (_base : Nat) (s : St) (v11 : V) : Option (Ex × Env × St) :=
  some (.normal, [(8, .nilp), (9, v11)], s)
@[go_sem] theorem rc_objects_Of_3 {base : Nat} {ρ : Env} {s : St} : rc D base (.reg (some [8, 9]) o_objects_Of_3) ρ s = R_objects_Of_3 base s (get ρ 11) := rc_reg_O.trans (by kernel_rfl)
@[go_sem] noncomputable def R_objects_Of_4 (_base : Nat) (s : St) (v0 v6 v7 v10 : V) : Option (Ex × Env × St) :=
  obind (ldv s 48 v6) fun x0 =>
  obind (ldv s 48 v6) fun x1 =>
  obind (ldv s 50 v7) fun x2 =>
  obind (setParts [.nilp, .nilp, (.agg 48 (List.replicate 49 (.agg 42 [(.int .i64 0), (.int .i64 0), (.int .i64 0)]))), (.agg 48 (List.replicate 49 (.agg 42 [(.int .i64 0), (.int .i64 0), (.int .i64 0)]))), (.agg 50 (List.replicate 8 (.int .i64 0))), (.agg 48 (List.replicate 49 (.agg 42 [(.int .i64 0), (.int .i64 0), (.int .i64 0)]))), (.bool false), (.agg 82 (List.replicate 1024 (.bool false)))] [(0, v0), (1, v10), (2, x0), (3, x1), (4, x2)]) fun x3 =>
  if V.ok (.agg 43 x3) && mayNew true (.agg 43 x3) then let x4 : V := .ptr (St.fresh s true) [] (V.tag (.agg 43 x3)); let s4 : St := St.new s true (.agg 43 x3)
  some (.normal, [(6, v6), (7, v7), (10, v10), (12, x4)], s4)
  else none
@[go_sem] theorem rc_objects_Of_4 {base : Nat} {ρ : Env} {s : St} : rc D base (.reg (some [6, 7, 10, 12]) o_objects_Of_4) ρ s = R_objects_Of_4 base s (get ρ 0) (get ρ 6) (get ρ 7) (get ρ 10) := rc_reg_O.trans (by kernel_rfl)
@[go_sem] noncomputable def R_objects_Of_5 (_base : Nat) (s : St) (v6 v7 v10 v12 : V) : Option (Ex × Env × St) :=
  obind (ldv s 48 v6) fun x0 =>
  some (.normal, [(7, v7), (10, v10), (12, v12), (34, x0), (35, (.int .i64 0))], s)
@[go_sem] theorem rc_objects_Of_5 {base : Nat} {ρ : Env} {s : St} : rc D base (.reg (some [7, 10, 12, 34, 35]) o_objects_Of_5) ρ s = R_objects_Of_5 base s (get ρ 6) (get ρ 7) (get ρ 10) (get ρ 12) := rc_reg_O.trans (by kernel_rfl)
@[go_sem] noncomputable def R_objects_Of_6 (_base : Nat) (s : St) (v7 v10 v12 v34 v35 : V) : Option (Ex × Env × St) :=
  obind (vbin .lss v35 (.int .i64 49)) fun x0 =>
  some (.normal, [(7, v7), (10, v10), (12, v12), (34, v34), (35, v35), (36, x0)], s)
@[go_sem] theorem rc_objects_Of_6 {base : Nat} {ρ : Env} {s : St} : rc D base (.reg (some [7, 10, 12, 34, 35, 36]) o_objects_Of_6) ρ s = R_objects_Of_6 base s (get ρ 7) (get ρ 10) (get ρ 12) (get ρ 34) (get ρ 35) := rc_reg_O.trans (by kernel_rfl)
@[go_sem] noncomputable def R_objects_Of_7 (base : Nat) (s : St) (v7 v10 v12 v34 v35 : V) : Option (Ex × Env × St) :=
  obind (idxv 48 49 v34 v35) fun x0 =>
  let x1 : V := .ptr (St.fresh s false) [] 42; let s1 : St := St.new s false (.agg 42 [(.int .i64 0), (.int .i64 0), (.int .i64 0)])
  obind (stv base s1 42 x0 x1) fun s2 =>
  some (.normal, [(7, v7), (10, v10), (12, v12), (14, x1), (34, v34), (35, v35)], s2)
@[go_sem] theorem rc_objects_Of_7 {base : Nat} {ρ : Env} {s : St} : rc D base (.reg (some [7, 10, 12, 14, 34, 35]) o_objects_Of_7) ρ s = R_objects_Of_7 base s (get ρ 7) (get ρ 10) (get ρ 12) (get ρ 34) (get ρ 35) := rc_reg_O.trans (by kernel_rfl)
@[go_sem] noncomputable def R_objects_Of_8 (_base : Nat) (s : St) (v7 v10 v12 v14 v34 v35 : V) : Option (Ex × Env × St) :=
  obind (fadv 42 0 10 v14) fun x0 =>
  obind (ldv s 10 x0) fun x1 =>
  obind (vbin .neq x1 (.int .i64 0)) fun x2 =>
  oguard x2 true (
    obind (fadv 42 2 10 v14) fun x3 =>
    obind (ldv s 10 x3) fun x4 =>
    obind (rf D f_frames_Frames_Take [v10, x4] s) fun x5 =>
    obind (vbin .neq x5.1 (.int .i64 0)) fun x6 =>
    some (.normal, [(7, v7), (10, v10), (12, v12), (34, v34), (35, v35), (47, x6)], x5.2)) (
    some (.normal, [(7, v7), (10, v10), (12, v12), (34, v34), (35, v35), (47, (.bool false))], s)) (
    none)
@[go_sem] theorem rc_objects_Of_8 {base : Nat} {ρ : Env} {s : St} : rc D base (.reg (some [7, 10, 12, 34, 35, 47]) o_objects_Of_8) ρ s = R_objects_Of_8 base s (get ρ 7) (get ρ 10) (get ρ 12) (get ρ 14) (get ρ 34) (get ρ 35) := rc_reg_O.trans (by kernel_rfl)
@[go_sem] noncomputable def R_objects_Of_9 (_base : Nat) (s : St) : Option (Ex × Env × St) :=
  some (.normal, [(8, .nilp), (9, (.int .i64 21))], s)
@[go_sem] theorem rc_objects_Of_9 {base : Nat} {ρ : Env} {s : St} : rc D base (.reg (some [8, 9]) o_objects_Of_9) ρ s = R_objects_Of_9 base s := rc_reg_O.trans (by kernel_rfl)
@[go_sem] noncomputable def R_objects_Of_10 (_base : Nat) (s : St) (v7 v10 v12 v34 v35 : V) : Option (Ex × Env × St) :=
  obind (vbin .add v35 (.int .i64 1)) fun x0 =>
  some (.normal, [(7, v7), (10, v10), (12, v12), (34, v34), (35, x0)], s)
@[go_sem] theorem rc_objects_Of_10 {base : Nat} {ρ : Env} {s : St} : rc D base (.reg (some [7, 10, 12, 34, 35]) o_objects_Of_10) ρ s = R_objects_Of_10 base s (get ρ 7) (get ρ 10) (get ρ 12) (get ρ 34) (get ρ 35) := rc_reg_O.trans (by kernel_rfl)
@[go_sem] noncomputable def R_objects_Of_11 (_base : Nat) (s : St) (v7 v10 v12 : V) : Option (Ex × Env × St) :=
  obind (ldv s 50 v7) fun x0 =>
  some (.normal, [(10, v10), (12, v12), (49, x0), (50, (.int .i64 0))], s)
@[go_sem] theorem rc_objects_Of_11 {base : Nat} {ρ : Env} {s : St} : rc D base (.reg (some [10, 12, 49, 50]) o_objects_Of_11) ρ s = R_objects_Of_11 base s (get ρ 7) (get ρ 10) (get ρ 12) := rc_reg_O.trans (by kernel_rfl)
@[go_sem] noncomputable def R_objects_Of_12 (_base : Nat) (s : St) (v10 v12 v49 v50 : V) : Option (Ex × Env × St) :=
  obind (vbin .lss v50 (.int .i64 8)) fun x0 =>
  some (.normal, [(10, v10), (12, v12), (49, v49), (50, v50), (51, x0)], s)
@[go_sem] theorem rc_objects_Of_12 {base : Nat} {ρ : Env} {s : St} : rc D base (.reg (some [10, 12, 49, 50, 51]) o_objects_Of_12) ρ s = R_objects_Of_12 base s (get ρ 10) (get ρ 12) (get ρ 49) (get ρ 50) := rc_reg_O.trans (by kernel_rfl)
@[go_sem] noncomputable def R_objects_Of_13 (_base : Nat) (s : St) (v10 v12 v49 v50 : V) : Option (Ex × Env × St) :=
  obind (idxv 50 8 v49 v50) fun x0 =>
  some (.normal, [(10, v10), (12, v12), (16, x0), (49, v49), (50, v50)], s)
@[go_sem] theorem rc_objects_Of_13 {base : Nat} {ρ : Env} {s : St} : rc D base (.reg (some [10, 12, 16, 49, 50]) o_objects_Of_13) ρ s = R_objects_Of_13 base s (get ρ 10) (get ρ 12) (get ρ 49) (get ρ 50) := rc_reg_O.trans (by kernel_rfl)
@[go_sem] noncomputable def R_objects_Of_14 (_base : Nat) (s : St) (v10 v12 v16 v49 v50 : V) : Option (Ex × Env × St) :=
  obind (rf D f_frames_Frames_Take [v10, v16] s) fun x0 =>
  obind (vbin .neq x0.1 (.int .i64 0)) fun x1 =>
  some (.normal, [(10, v10), (12, v12), (49, v49), (50, v50), (56, x1)], x0.2)
@[go_sem] theorem rc_objects_Of_14 {base : Nat} {ρ : Env} {s : St} : rc D base (.reg (some [10, 12, 49, 50, 56]) o_objects_Of_14) ρ s = R_objects_Of_14 base s (get ρ 10) (get ρ 12) (get ρ 16) (get ρ 49) (get ρ 50) := rc_reg_O.trans (by kernel_rfl)
@[go_sem] noncomputable def R_objects_Of_15 (_base : Nat) (s : St) : Option (Ex × Env × St) :=
  some (.normal, [(8, .nilp), (9, (.int .i64 21))], s)
@[go_sem] theorem rc_objects_Of_15 {base : Nat} {ρ : Env} {s : St} : rc D base (.reg (some [8, 9]) o_objects_Of_15) ρ s = R_objects_Of_15 base s := rc_reg_O.trans (by kernel_rfl)
@[go_sem] noncomputable def R_objects_Of_16 (_base : Nat) (s : St) (v10 v12 v49 v50 : V) : Option (Ex × Env × St) :=
  obind (vbin .add v50 (.int .i64 1)) fun x0 =>
  some (.normal, [(10, v10), (12, v12), (49, v49), (50, x0)], s)
@[go_sem] theorem rc_objects_Of_16 {base : Nat} {ρ : Env} {s : St} : rc D base (.reg (some [10, 12, 49, 50]) o_objects_Of_16) ρ s = R_objects_Of_16 base s (get ρ 10) (get ρ 12) (get ρ 49) (get ρ 50) := rc_reg_O.trans (by kernel_rfl)
@[go_sem] noncomputable def R_objects_Of_17 (_base : Nat) (s : St) (v12 : V) : Option (Ex × Env × St) :=
  obind (rf D f_objects_Store_share [v12] s) fun x0 =>
  some (.normal, [(12, v12)], x0.2)
@[go_sem] theorem rc_objects_Of_17 {base : Nat} {ρ : Env} {s : St} : rc D base (.reg (some [12]) o_objects_Of_17) ρ s = R_objects_Of_17 base s (get ρ 12) := rc_reg_O.trans (by kernel_rfl)
@[go_sem] noncomputable def R_objects_Of_18 (_base : Nat) (s : St) (v12 : V) : Option (Ex × Env × St) :=
  some (.normal, [(8, v12), (9, (.int .i64 0))], s)
@[go_sem] theorem rc_objects_Of_18 {base : Nat} {ρ : Env} {s : St} : rc D base (.reg (some [8, 9]) o_objects_Of_18) ρ s = R_objects_Of_18 base s (get ρ 12) := rc_reg_O.trans (by kernel_rfl)

@[go_sem] noncomputable def R_steadfastref10_Of_0 (_base : Nat) (s : St) (v0 v1 v2 v3 : V) : Option (Ex × Env × St) :=
  if V.ok v2 && mayNew false v2 then let x0 : V := .ptr (St.fresh s false) [] (V.tag v2); let s0 : St := St.new s false v2
  if V.ok v3 && mayNew false v3 then let x1 : V := .ptr (St.fresh s0 false) [] (V.tag v3); let s1 : St := St.new s0 false v3
  some (.normal, [(0, v0), (1, v1), (6, x0), (7, x1)], s1)
  else none
  else none
@[go_sem] theorem rc_steadfastref10_Of_0 {base : Nat} {ρ : Env} {s : St} : rc D base (.reg (some [0, 1, 6, 7]) o_steadfastref10_Of_0) ρ s = R_steadfastref10_Of_0 base s (get ρ 0) (get ρ 1) (get ρ 2) (get ρ 3) := rc_reg_O.trans (by kernel_rfl)
@[go_sem] noncomputable def R_steadfastref10_Of_1 (_base : Nat) (s : St) (v0 v1 v6 v7 : V) : Option (Ex × Env × St) :=
  obind (nilv v0) fun x0 =>
  obind (fadv 33 0 1 x0) fun x1 =>
  obind (ldv s 1 x1) fun x2 =>
  obind (V.slen false x2) fun x3 =>
  obind (rf D f_steadfastref04_New [v1, (.int .i64 x3)] s) fun x4 =>
  obind (extv 0 x4.1) fun x5 =>
  obind (extv 1 x4.1) fun x6 =>
  some (.normal, [(0, v0), (6, v6), (7, v7), (10, x5), (11, x6)], x4.2)
@[go_sem] theorem rc_steadfastref10_Of_1 {base : Nat} {ρ : Env} {s : St} : rc D base (.reg (some [0, 6, 7, 10, 11]) o_steadfastref10_Of_1) ρ s = R_steadfastref10_Of_1 base s (get ρ 0) (get ρ 1) (get ρ 6) (get ρ 7) := rc_reg_O.trans (by kernel_rfl)
@[go_sem] noncomputable def R_steadfastref10_Of_2 (_base : Nat) (s : St) (v0 v6 v7 v10 v11 : V) : Option (Ex × Env × St) :=
  obind (vbin .neq v11 (.int .i64 0)) fun x0 =>
  some (.normal, [(0, v0), (6, v6), (7, v7), (10, v10), (25, x0)], s)
@[go_sem] theorem rc_steadfastref10_Of_2 {base : Nat} {ρ : Env} {s : St} : rc D base (.reg (some [0, 6, 7, 10, 25]) o_steadfastref10_Of_2) ρ s = R_steadfastref10_Of_2 base s (get ρ 0) (get ρ 6) (get ρ 7) (get ρ 10) (get ρ 11) := rc_reg_O.trans (by kernel_rfl)
@[go_sem] noncomputable def R_steadfastref10_Of_3 (_base : Nat) (s : St) : Option (Ex × Env × St) :=
  some (.normal, [(8, .nilp), (9, (.int .i64 1))], s)
@[go_sem] theorem rc_steadfastref10_Of_3 {base : Nat} {ρ : Env} {s : St} : rc D base (.reg (some [8, 9]) o_steadfastref10_Of_3) ρ s = R_steadfastref10_Of_3 base s := rc_reg_O.trans (by kernel_rfl)
@[go_sem] noncomputable def R_steadfastref10_Of_4 (base : Nat) (s : St) (v0 v6 v7 v10 : V) : Option (Ex × Env × St) :=
  obind (ldv s 48 v6) fun x0 =>
  obind (callwv D [x0] s v7 (.fn f_steadfastref10_lines [])) fun x1 =>
  obind (slarrv x1.2 50 8 10 none none none v7) fun x2 =>
  obind (vappend base false 38 10 x1.1 x2 x1.2) fun x3 =>
  some (.normal, [(0, v0), (6, v6), (7, v7), (10, v10), (12, x3.1)], x3.2)
@[go_sem] theorem rc_steadfastref10_Of_4 {base : Nat} {ρ : Env} {s : St} : rc D base (.regd (some [0, 6, 7, 10, 12]) o_steadfastref10_Of_4) ρ s = R_steadfastref10_Of_4 base s (get ρ 0) (get ρ 6) (get ρ 7) (get ρ 10) := rc_regd_O.trans (by kernel_rfl)
@[go_sem] noncomputable def R_steadfastref10_Of_5 (_base : Nat) (s : St) (v0 v6 v7 v10 v12 : V) : Option (Ex × Env × St) :=
  some (.normal, [(0, v0), (6, v6), (7, v7), (10, v10), (12, v12), (13, (.int .i64 0))], s)
@[go_sem] theorem rc_steadfastref10_Of_5 {base : Nat} {ρ : Env} {s : St} : rc D base (.reg (some [0, 6, 7, 10, 12, 13]) o_steadfastref10_Of_5) ρ s = R_steadfastref10_Of_5 base s (get ρ 0) (get ρ 6) (get ρ 7) (get ρ 10) (get ρ 12) := rc_reg_O.trans (by kernel_rfl)
@[go_sem] noncomputable def R_steadfastref10_Of_6 (_base : Nat) (s : St) (v0 v6 v7 v10 v12 v13 : V) : Option (Ex × Env × St) :=
  obind (V.slen false v12) fun x0 =>
  obind (vbin .lss v13 (.int .i64 x0)) fun x1 =>
  some (.normal, [(0, v0), (6, v6), (7, v7), (10, v10), (12, v12), (13, v13), (33, x1)], s)
@[go_sem] theorem rc_steadfastref10_Of_6 {base : Nat} {ρ : Env} {s : St} : rc D base (.reg (some [0, 6, 7, 10, 12, 13, 33]) o_steadfastref10_Of_6) ρ s = R_steadfastref10_Of_6 base s (get ρ 0) (get ρ 6) (get ρ 7) (get ρ 10) (get ρ 12) (get ρ 13) := rc_reg_O.trans (by kernel_rfl)
@[go_sem] noncomputable def R_steadfastref10_Of_7 (_base : Nat) (s : St) (v0 v6 v7 v10 v12 v13 : V) : Option (Ex × Env × St) :=
  obind (sadv 10 v12 v13) fun x0 =>
  obind (ldv s 10 x0) fun x1 =>
  obind (rf D f_steadfastref04_Frames_Take [v10, x1] s) fun x2 =>
  obind (vbin .neq x2.1 (.int .i64 0)) fun x3 =>
  some (.normal, [(0, v0), (6, v6), (7, v7), (10, v10), (12, v12), (13, v13), (42, x3)], x2.2)
@[go_sem] theorem rc_steadfastref10_Of_7 {base : Nat} {ρ : Env} {s : St} : rc D base (.reg (some [0, 6, 7, 10, 12, 13, 42]) o_steadfastref10_Of_7) ρ s = R_steadfastref10_Of_7 base s (get ρ 0) (get ρ 6) (get ρ 7) (get ρ 10) (get ρ 12) (get ρ 13) := rc_reg_O.trans (by kernel_rfl)
@[go_sem] noncomputable def R_steadfastref10_Of_8 (_base : Nat) (s : St) : Option (Ex × Env × St) :=
  some (.normal, [(8, .nilp), (9, (.int .i64 21))], s)
@[go_sem] theorem rc_steadfastref10_Of_8 {base : Nat} {ρ : Env} {s : St} : rc D base (.reg (some [8, 9]) o_steadfastref10_Of_8) ρ s = R_steadfastref10_Of_8 base s := rc_reg_O.trans (by kernel_rfl)
@[go_sem] noncomputable def R_steadfastref10_Of_9 (_base : Nat) (s : St) (v0 v6 v7 v10 v12 v13 : V) : Option (Ex × Env × St) :=
  obind (vbin .add v13 (.int .i64 1)) fun x0 =>
  some (.normal, [(0, v0), (6, v6), (7, v7), (10, v10), (12, v12), (13, x0)], s)
@[go_sem] theorem rc_steadfastref10_Of_9 {base : Nat} {ρ : Env} {s : St} : rc D base (.reg (some [0, 6, 7, 10, 12, 13]) o_steadfastref10_Of_9) ρ s = R_steadfastref10_Of_9 base s (get ρ 0) (get ρ 6) (get ρ 7) (get ρ 10) (get ρ 12) (get ρ 13) := rc_reg_O.trans (by kernel_rfl)
@[go_sem] noncomputable def R_steadfastref10_Of_10 (_base : Nat) (s : St) (v0 v6 v7 v10 : V) : Option (Ex × Env × St) :=
  obind (ldv s 48 v6) fun x0 =>
  obind (ldv s 48 v6) fun x1 =>
  obind (ldv s 50 v7) fun x2 =>
  obind (setParts [.nilp, .nilp, (.agg 48 (List.replicate 49 (.agg 42 [(.int .i64 0), (.int .i64 0), (.int .i64 0)]))), (.agg 48 (List.replicate 49 (.agg 42 [(.int .i64 0), (.int .i64 0), (.int .i64 0)]))), (.agg 50 (List.replicate 8 (.int .i64 0))), (.agg 48 (List.replicate 49 (.agg 42 [(.int .i64 0), (.int .i64 0), (.int .i64 0)]))), (.bool false)] [(0, v0), (1, v10), (2, x0), (3, x1), (4, x2)]) fun x3 =>
  if V.ok (.agg 31 x3) && mayNew true (.agg 31 x3) then let x4 : V := .ptr (St.fresh s true) [] (V.tag (.agg 31 x3)); let s4 : St := St.new s true (.agg 31 x3)
  some (.normal, [(8, x4), (9, (.int .i64 0))], s4)
  else none
@[go_sem] theorem rc_steadfastref10_Of_10 {base : Nat} {ρ : Env} {s : St} : rc D base (.reg (some [8, 9]) o_steadfastref10_Of_10) ρ s = R_steadfastref10_Of_10 base s (get ρ 0) (get ρ 6) (get ρ 7) (get ρ 10) := rc_reg_O.trans (by kernel_rfl)

@[go_sem] noncomputable def R_caps_may_0 (_base : Nat) (s : St) (v0 : V) : Option (Ex × Env × St) :=
  if V.ok v0 && mayNew false v0 then let x0 : V := .ptr (St.fresh s false) [] (V.tag v0); let s0 : St := St.new s false v0
  some (.normal, [(1, x0)], s0)
  else none
@[go_sem] theorem rc_caps_may_0 {base : Nat} {ρ : Env} {s : St} : rc D base (.reg (some [1]) o_caps_may_0) ρ s = R_caps_may_0 base s (get ρ 0) := rc_reg_O.trans (by kernel_rfl)
@[go_sem] noncomputable def R_caps_may_1 (_base : Nat) (s : St) (v1 : V) : Option (Ex × Env × St) :=
  obind (fadv 40 0 10 v1) fun x0 =>
  obind (ldv s 10 x0) fun x1 =>
  obind (vbin .eql x1 (.int .i64 5)) fun x2 =>
  oguard x2 false (
    obind (fadv 40 0 10 v1) fun x3 =>
    obind (ldv s 10 x3) fun x4 =>
    obind (vbin .eql x4 (.int .i64 6)) fun x5 =>
    some (.normal, [(1, v1), (3, x5)], s)) (
    some (.normal, [(1, v1), (3, (.bool true))], s)) (
    none)
@[go_sem] theorem rc_caps_may_1 {base : Nat} {ρ : Env} {s : St} : rc D base (.reg (some [1, 3]) o_caps_may_1) ρ s = R_caps_may_1 base s (get ρ 1) := rc_reg_O.trans (by kernel_rfl)
@[go_sem] noncomputable def R_caps_may_2 (_base : Nat) (s : St) (v1 v3 : V) : Option (Ex × Env × St) :=
  obind (fadv 40 0 10 v1) fun x0 =>
  obind (ldv s 10 x0) fun x1 =>
  obind (rf D f_caps_within [x1, (.int .i64 1), (.int .i64 6)] s) fun x2 =>
  oguard x2.1 true (
    obind (fadv 40 1 10 v1) fun x3 =>
    obind (ldv x2.2 10 x3) fun x4 =>
    obind (rf D f_caps_within [x4, (.int .i64 0), (.int .i64 15)] x2.2) fun x5 =>
    oguard x5.1 true (
      obind (fadv 40 2 10 v1) fun x6 =>
      obind (ldv x5.2 10 x6) fun x7 =>
      obind (rf D f_caps_within [x7, (.int .i64 0), (.int .i64 48)] x5.2) fun x8 =>
      oguard x8.1 true (
        obind (fadv 40 3 10 v1) fun x9 =>
        obind (ldv x8.2 10 x9) fun x10 =>
        obind (rf D f_caps_within [x10, (.int .i64 0), (.int .i64 16777215)] x8.2) fun x11 =>
        oguard x11.1 true (
          obind (fadv 40 4 10 v1) fun x12 =>
          obind (ldv x11.2 10 x12) fun x13 =>
          obind (rf D f_caps_within [x13, (.int .i64 0), (.int .i64 65535)] x11.2) fun x14 =>
          oguard x14.1 true (
            obind (vun .not v3) fun x15 =>
            oguard x15 false (
              obind (fadv 40 2 10 v1) fun x16 =>
              obind (ldv x14.2 10 x16) fun x17 =>
              obind (vbin .eql x17 (.int .i64 0)) fun x18 =>
              oguard x18 true (
                obind (fadv 40 3 10 v1) fun x19 =>
                obind (ldv x14.2 10 x19) fun x20 =>
                obind (vbin .eql x20 (.int .i64 0)) fun x21 =>
                some (.normal, [(2, x21)], x14.2)) (
                some (.normal, [(2, (.bool false))], x14.2)) (
                none)) (
              some (.normal, [(2, (.bool true))], x14.2)) (
              none)) (
            some (.normal, [(2, (.bool false))], x14.2)) (
            none)) (
          some (.normal, [(2, (.bool false))], x11.2)) (
          none)) (
        some (.normal, [(2, (.bool false))], x8.2)) (
        none)) (
      some (.normal, [(2, (.bool false))], x5.2)) (
      none)) (
    some (.normal, [(2, (.bool false))], x2.2)) (
    none)
@[go_sem] theorem rc_caps_may_2 {base : Nat} {ρ : Env} {s : St} : rc D base (.reg (some [2]) o_caps_may_2) ρ s = R_caps_may_2 base s (get ρ 1) (get ρ 3) := rc_reg_O.trans (by kernel_rfl)

@[go_sem] noncomputable def R_bank_by_0 (_base : Nat) (s : St) (v0 : V) : Option (Ex × Env × St) :=
  some (.normal, [(0, v0)], s)
@[go_sem] theorem rc_bank_by_0 {base : Nat} {ρ : Env} {s : St} : rc D base (.reg (some [0]) o_bank_by_0) ρ s = R_bank_by_0 base s (get ρ 0) := rc_reg_O.trans (by kernel_rfl)
@[go_sem] noncomputable def R_bank_by_1 (_base : Nat) (s : St) (v0 : V) : Option (Ex × Env × St) :=
  obind (rf D f_caps_May [v0, (.int .i64 5), (.int .i64 2)] s) fun x0 =>
  some (.normal, [(2, x0.1)], x0.2)
@[go_sem] theorem rc_bank_by_1 {base : Nat} {ρ : Env} {s : St} : rc D base (.reg (some [2]) o_bank_by_1) ρ s = R_bank_by_1 base s (get ρ 0) := rc_reg_O.trans (by kernel_rfl)

@[go_sem] noncomputable def R_objects_Store_Next_0 (_base : Nat) (s : St) (v0 v1 : V) : Option (Ex × Env × St) :=
  some (.normal, [(0, v0), (1, v1)], s)
@[go_sem] theorem rc_objects_Store_Next_0 {base : Nat} {ρ : Env} {s : St} : rc D base (.reg (some [0, 1]) o_objects_Store_Next_0) ρ s = R_objects_Store_Next_0 base s (get ρ 0) (get ρ 1) := rc_reg_O.trans (by kernel_rfl)
@[go_sem] noncomputable def R_objects_Store_Next_1 (_base : Nat) (s : St) (v0 v1 : V) : Option (Ex × Env × St) :=
  some (.normal, [(0, v0), (9, v1)], s)
@[go_sem] theorem rc_objects_Store_Next_1 {base : Nat} {ρ : Env} {s : St} : rc D base (.reg (some [0, 9]) o_objects_Store_Next_1) ρ s = R_objects_Store_Next_1 base s (get ρ 0) (get ρ 1) := rc_reg_O.trans (by kernel_rfl)
@[go_sem] noncomputable def R_objects_Store_Next_2 (_base : Nat) (s : St) (v0 v9 : V) : Option (Ex × Env × St) :=
  obind (vbin .eql v9 (.int .i64 1)) fun x0 =>
  some (.normal, [(0, v0), (9, v9), (10, x0)], s)
@[go_sem] theorem rc_objects_Store_Next_2 {base : Nat} {ρ : Env} {s : St} : rc D base (.reg (some [0, 9, 10]) o_objects_Store_Next_2) ρ s = R_objects_Store_Next_2 base s (get ρ 0) (get ρ 9) := rc_reg_O.trans (by kernel_rfl)
@[go_sem] noncomputable def R_objects_Store_Next_3 (_base : Nat) (s : St) (v0 v9 : V) : Option (Ex × Env × St) :=
  obind (vbin .eql v9 (.int .i64 2)) fun x0 =>
  some (.normal, [(0, v0), (9, v9), (10, x0)], s)
@[go_sem] theorem rc_objects_Store_Next_3 {base : Nat} {ρ : Env} {s : St} : rc D base (.reg (some [0, 9, 10]) o_objects_Store_Next_3) ρ s = R_objects_Store_Next_3 base s (get ρ 0) (get ρ 9) := rc_reg_O.trans (by kernel_rfl)
@[go_sem] noncomputable def R_objects_Store_Next_4 (_base : Nat) (s : St) (v0 v9 : V) : Option (Ex × Env × St) :=
  obind (vbin .eql v9 (.int .i64 4)) fun x0 =>
  some (.normal, [(0, v0), (10, x0)], s)
@[go_sem] theorem rc_objects_Store_Next_4 {base : Nat} {ρ : Env} {s : St} : rc D base (.reg (some [0, 10]) o_objects_Store_Next_4) ρ s = R_objects_Store_Next_4 base s (get ρ 0) (get ρ 9) := rc_reg_O.trans (by kernel_rfl)
@[go_sem] noncomputable def R_objects_Store_Next_5 (_base : Nat) (s : St) : Option (Ex × Env × St) :=
  some (.normal, [(4, (.int .i64 0)), (5, (.int .i64 0)), (6, (.int .i64 1))], s)
@[go_sem] theorem rc_objects_Store_Next_5 {base : Nat} {ρ : Env} {s : St} : rc D base (.reg (some [4, 5, 6]) o_objects_Store_Next_5) ρ s = R_objects_Store_Next_5 base s := rc_reg_O.trans (by kernel_rfl)
@[go_sem] noncomputable def R_objects_Store_Next_6 (_base : Nat) (s : St) (v0 : V) : Option (Ex × Env × St) :=
  obind (nilv v0) fun x0 =>
  obind (fadv 43 2 48 x0) fun x1 =>
  obind (ldv s 48 x1) fun x2 =>
  some (.normal, [(17, x2), (18, (.int .i64 0))], s)
@[go_sem] theorem rc_objects_Store_Next_6 {base : Nat} {ρ : Env} {s : St} : rc D base (.reg (some [17, 18]) o_objects_Store_Next_6) ρ s = R_objects_Store_Next_6 base s (get ρ 0) := rc_reg_O.trans (by kernel_rfl)
@[go_sem] noncomputable def R_objects_Store_Next_7 (_base : Nat) (s : St) (v17 v18 : V) : Option (Ex × Env × St) :=
  obind (vbin .lss v18 (.int .i64 49)) fun x0 =>
  some (.normal, [(17, v17), (18, v18), (19, x0)], s)
@[go_sem] theorem rc_objects_Store_Next_7 {base : Nat} {ρ : Env} {s : St} : rc D base (.reg (some [17, 18, 19]) o_objects_Store_Next_7) ρ s = R_objects_Store_Next_7 base s (get ρ 17) (get ρ 18) := rc_reg_O.trans (by kernel_rfl)
@[go_sem] noncomputable def R_objects_Store_Next_8 (base : Nat) (s : St) (v17 v18 : V) : Option (Ex × Env × St) :=
  obind (idxv 48 49 v17 v18) fun x0 =>
  let x1 : V := .ptr (St.fresh s false) [] 42; let s1 : St := St.new s false (.agg 42 [(.int .i64 0), (.int .i64 0), (.int .i64 0)])
  obind (stv base s1 42 x0 x1) fun s2 =>
  some (.normal, [(7, v18), (8, x1), (17, v17), (18, v18)], s2)
@[go_sem] theorem rc_objects_Store_Next_8 {base : Nat} {ρ : Env} {s : St} : rc D base (.reg (some [7, 8, 17, 18]) o_objects_Store_Next_8) ρ s = R_objects_Store_Next_8 base s (get ρ 17) (get ρ 18) := rc_reg_O.trans (by kernel_rfl)
@[go_sem] noncomputable def R_objects_Store_Next_9 (_base : Nat) (s : St) (v7 v8 v17 v18 : V) : Option (Ex × Env × St) :=
  obind (ldv s 42 v8) fun x0 =>
  obind (rf D f_entry_Open [x0] s) fun x1 =>
  some (.normal, [(7, v7), (8, v8), (17, v17), (18, v18), (23, x1.1)], x1.2)
@[go_sem] theorem rc_objects_Store_Next_9 {base : Nat} {ρ : Env} {s : St} : rc D base (.reg (some [7, 8, 17, 18, 23]) o_objects_Store_Next_9) ρ s = R_objects_Store_Next_9 base s (get ρ 7) (get ρ 8) (get ρ 17) (get ρ 18) := rc_reg_O.trans (by kernel_rfl)
@[go_sem] noncomputable def R_objects_Store_Next_10 (_base : Nat) (s : St) (v7 v8 : V) : Option (Ex × Env × St) :=
  obind (fadv 42 1 10 v8) fun x0 =>
  obind (ldv s 10 x0) fun x1 =>
  some (.normal, [(4, v7), (5, x1), (6, (.int .i64 0))], s)
@[go_sem] theorem rc_objects_Store_Next_10 {base : Nat} {ρ : Env} {s : St} : rc D base (.regd (some [4, 5, 6]) o_objects_Store_Next_10) ρ s = R_objects_Store_Next_10 base s (get ρ 7) (get ρ 8) := rc_regd_O.trans (by kernel_rfl)
@[go_sem] noncomputable def R_objects_Store_Next_11 (_base : Nat) (s : St) (v17 v18 : V) : Option (Ex × Env × St) :=
  obind (vbin .add v18 (.int .i64 1)) fun x0 =>
  some (.normal, [(17, v17), (18, x0)], s)
@[go_sem] theorem rc_objects_Store_Next_11 {base : Nat} {ρ : Env} {s : St} : rc D base (.reg (some [17, 18]) o_objects_Store_Next_11) ρ s = R_objects_Store_Next_11 base s (get ρ 17) (get ρ 18) := rc_reg_O.trans (by kernel_rfl)
@[go_sem] noncomputable def R_objects_Store_Next_12 (_base : Nat) (s : St) : Option (Ex × Env × St) :=
  some (.normal, [(4, (.int .i64 0)), (5, (.int .i64 0)), (6, (.int .i64 34))], s)
@[go_sem] theorem rc_objects_Store_Next_12 {base : Nat} {ρ : Env} {s : St} : rc D base (.reg (some [4, 5, 6]) o_objects_Store_Next_12) ρ s = R_objects_Store_Next_12 base s := rc_reg_O.trans (by kernel_rfl)

@[go_sem] noncomputable def R_steadfastref10_Store_Names_0 (_base : Nat) (s : St) (v0 v1 : V) : Option (Ex × Env × St) :=
  some (.normal, [(0, v0), (1, v1)], s)
@[go_sem] theorem rc_steadfastref10_Store_Names_0 {base : Nat} {ρ : Env} {s : St} : rc D base (.reg (some [0, 1]) o_steadfastref10_Store_Names_0) ρ s = R_steadfastref10_Store_Names_0 base s (get ρ 0) (get ρ 1) := rc_reg_O.trans (by kernel_rfl)
@[go_sem] noncomputable def R_steadfastref10_Store_Names_1 (base : Nat) (s : St) (v0 v1 : V) : Option (Ex × Env × St) :=
  obind (rf D f_steadfastref07_Of [v1] s) fun x0 =>
  obind (extv 0 x0.1) fun x1 =>
  obind (extv 1 x0.1) fun x2 =>
  let x3 : V := .ptr (St.fresh x0.2 false) [] 40; let s3 : St := St.new x0.2 false (.agg 40 [(.int .i64 0), (.int .i64 0), (.int .i64 0), (.int .i64 0), (.int .i64 0)])
  obind (stv base s3 40 x1 x3) fun s4 =>
  some (.normal, [(0, v0), (1, v1), (6, x3), (7, x2)], s4)
@[go_sem] theorem rc_steadfastref10_Store_Names_1 {base : Nat} {ρ : Env} {s : St} : rc D base (.reg (some [0, 1, 6, 7]) o_steadfastref10_Store_Names_1) ρ s = R_steadfastref10_Store_Names_1 base s (get ρ 0) (get ρ 1) := rc_reg_O.trans (by kernel_rfl)
@[go_sem] noncomputable def R_steadfastref10_Store_Names_2 (_base : Nat) (s : St) (v0 v1 v6 v7 : V) : Option (Ex × Env × St) :=
  obind (vun .not v7) fun x0 =>
  some (.normal, [(0, v0), (1, v1), (6, v6), (15, x0)], s)
@[go_sem] theorem rc_steadfastref10_Store_Names_2 {base : Nat} {ρ : Env} {s : St} : rc D base (.reg (some [0, 1, 6, 15]) o_steadfastref10_Store_Names_2) ρ s = R_steadfastref10_Store_Names_2 base s (get ρ 0) (get ρ 1) (get ρ 6) (get ρ 7) := rc_reg_O.trans (by kernel_rfl)
@[go_sem] noncomputable def R_steadfastref10_Store_Names_3 (_base : Nat) (s : St) : Option (Ex × Env × St) :=
  some (.normal, [(4, (.int .i64 0)), (5, (.int .i64 31))], s)
@[go_sem] theorem rc_steadfastref10_Store_Names_3 {base : Nat} {ρ : Env} {s : St} : rc D base (.reg (some [4, 5]) o_steadfastref10_Store_Names_3) ρ s = R_steadfastref10_Store_Names_3 base s := rc_reg_O.trans (by kernel_rfl)
@[go_sem] noncomputable def R_steadfastref10_Store_Names_4 (base : Nat) (s : St) (v0 v1 v6 : V) : Option (Ex × Env × St) :=
  obind (fadv 40 2 10 v6) fun x0 =>
  obind (ldv s 10 x0) fun x1 =>
  obind (nilv v0) fun x2 =>
  obind (fadv 31 2 48 x2) fun x3 =>
  obind (iadv 48 49 42 x3 x1) fun x4 =>
  obind (ldv s 42 x4) fun x5 =>
  obind (fadv 40 2 10 v6) fun x6 =>
  obind (ldv s 10 x6) fun x7 =>
  obind (pcallw D (pcut base [x5, x7, v1]) base f_steadfastref08_Names [x5, x7, v1] s) fun x8 =>
  some (.normal, [(6, v6), (8, x8)], s)
@[go_sem] theorem rc_steadfastref10_Store_Names_4 {base : Nat} {ρ : Env} {s : St} : rc D base (.regd (some [6, 8]) o_steadfastref10_Store_Names_4) ρ s = R_steadfastref10_Store_Names_4 base s (get ρ 0) (get ρ 1) (get ρ 6) := rc_regd_O.trans (by kernel_rfl)
@[go_sem] noncomputable def R_steadfastref10_Store_Names_5 (_base : Nat) (s : St) (v6 v8 : V) : Option (Ex × Env × St) :=
  obind (vbin .neq v8 (.int .i64 0)) fun x0 =>
  some (.normal, [(6, v6), (8, v8), (28, x0)], s)
@[go_sem] theorem rc_steadfastref10_Store_Names_5 {base : Nat} {ρ : Env} {s : St} : rc D base (.reg (some [6, 8, 28]) o_steadfastref10_Store_Names_5) ρ s = R_steadfastref10_Store_Names_5 base s (get ρ 6) (get ρ 8) := rc_reg_O.trans (by kernel_rfl)
@[go_sem] noncomputable def R_steadfastref10_Store_Names_6 (_base : Nat) (s : St) (v8 : V) : Option (Ex × Env × St) :=
  some (.normal, [(4, (.int .i64 0)), (5, v8)], s)
@[go_sem] theorem rc_steadfastref10_Store_Names_6 {base : Nat} {ρ : Env} {s : St} : rc D base (.reg (some [4, 5]) o_steadfastref10_Store_Names_6) ρ s = R_steadfastref10_Store_Names_6 base s (get ρ 8) := rc_reg_O.trans (by kernel_rfl)
@[go_sem] noncomputable def R_steadfastref10_Store_Names_7 (_base : Nat) (s : St) (v6 : V) : Option (Ex × Env × St) :=
  obind (fadv 40 2 10 v6) fun x0 =>
  obind (ldv s 10 x0) fun x1 =>
  some (.normal, [(4, x1), (5, (.int .i64 0))], s)
@[go_sem] theorem rc_steadfastref10_Store_Names_7 {base : Nat} {ρ : Env} {s : St} : rc D base (.reg (some [4, 5]) o_steadfastref10_Store_Names_7) ρ s = R_steadfastref10_Store_Names_7 base s (get ρ 6) := rc_reg_O.trans (by kernel_rfl)

@[go_sem] noncomputable def R_steadfastref10_Store_Get_0 (_base : Nat) (s : St) (v0 v1 : V) : Option (Ex × Env × St) :=
  let x0 : V := .ptr (St.fresh s false) [] 26; let s0 : St := St.new s false (.agg 26 [(.int .i64 0), (.int .i64 0), (.agg 24 (List.replicate 8 (.int .u64 0)))])
  some (.normal, [(0, v0), (1, v1), (4, x0)], s0)
@[go_sem] theorem rc_steadfastref10_Store_Get_0 {base : Nat} {ρ : Env} {s : St} : rc D base (.reg (some [0, 1, 4]) o_steadfastref10_Store_Get_0) ρ s = R_steadfastref10_Store_Get_0 base s (get ρ 0) (get ρ 1) := rc_reg_O.trans (by kernel_rfl)
@[go_sem] noncomputable def R_steadfastref10_Store_Get_1 (_base : Nat) (s : St) (v0 v1 v4 : V) : Option (Ex × Env × St) :=
  obind (rf D f_steadfastref10_Store_is [v0, v1] s) fun x0 =>
  some (.normal, [(0, v0), (1, v1), (4, v4), (6, x0.1)], x0.2)
@[go_sem] theorem rc_steadfastref10_Store_Get_1 {base : Nat} {ρ : Env} {s : St} : rc D base (.reg (some [0, 1, 4, 6]) o_steadfastref10_Store_Get_1) ρ s = R_steadfastref10_Store_Get_1 base s (get ρ 0) (get ρ 1) (get ρ 4) := rc_reg_O.trans (by kernel_rfl)
@[go_sem] noncomputable def R_steadfastref10_Store_Get_2 (_base : Nat) (s : St) (v0 v1 v4 v6 : V) : Option (Ex × Env × St) :=
  obind (vbin .neq v6 (.int .i64 0)) fun x0 =>
  some (.normal, [(0, v0), (1, v1), (4, v4), (6, v6), (12, x0)], s)
@[go_sem] theorem rc_steadfastref10_Store_Get_2 {base : Nat} {ρ : Env} {s : St} : rc D base (.reg (some [0, 1, 4, 6, 12]) o_steadfastref10_Store_Get_2) ρ s = R_steadfastref10_Store_Get_2 base s (get ρ 0) (get ρ 1) (get ρ 4) (get ρ 6) := rc_reg_O.trans (by kernel_rfl)
@[go_sem] noncomputable def R_steadfastref10_Store_Get_3 (base : Nat) (s : St) (v4 v6 : V) : Option (Ex × Env × St) :=
  obind (setParts [(.int .i64 0), (.int .i64 0), (.agg 24 (List.replicate 8 (.int .u64 0)))] []) fun x0 =>
  obind (stv base s 26 (.agg 26 x0) v4) fun s1 =>
  some (.normal, [(4, v4), (5, v6)], s1)
@[go_sem] theorem rc_steadfastref10_Store_Get_3 {base : Nat} {ρ : Env} {s : St} : rc D base (.reg (some [4, 5]) o_steadfastref10_Store_Get_3) ρ s = R_steadfastref10_Store_Get_3 base s (get ρ 4) (get ρ 6) := rc_reg_O.trans (by kernel_rfl)
@[go_sem] noncomputable def R_steadfastref10_Store_Get_4 (base : Nat) (s : St) (v0 v1 v4 : V) : Option (Ex × Env × St) :=
  obind (nilv v0) fun x0 =>
  obind (fadv 31 0 1 x0) fun x1 =>
  obind (ldv s 1 x1) fun x2 =>
  obind (nilv v0) fun x3 =>
  obind (fadv 31 2 48 x3) fun x4 =>
  obind (iadv 48 49 42 x4 v1) fun x5 =>
  obind (fadv 42 2 10 x5) fun x6 =>
  obind (ldv s 10 x6) fun x7 =>
  obind (pcallw D (pcut base [x2, x7]) base f_steadfastref03_Memory_Load [x2, x7] s) fun x8 =>
  obind (extv 0 x8) fun x9 =>
  obind (extv 1 x8) fun x10 =>
  let x11 : V := .ptr (St.fresh s false) [] 24; let s11 : St := St.new s false (.agg 24 (List.replicate 8 (.int .u64 0)))
  obind (stv base s11 24 x9 x11) fun s12 =>
  some (.normal, [(0, v0), (1, v1), (4, v4), (6, x10), (7, x11)], s12)
@[go_sem] theorem rc_steadfastref10_Store_Get_4 {base : Nat} {ρ : Env} {s : St} : rc D base (.regd (some [0, 1, 4, 6, 7]) o_steadfastref10_Store_Get_4) ρ s = R_steadfastref10_Store_Get_4 base s (get ρ 0) (get ρ 1) (get ρ 4) := rc_regd_O.trans (by kernel_rfl)
@[go_sem] noncomputable def R_steadfastref10_Store_Get_5 (_base : Nat) (s : St) (v0 v1 v4 v6 v7 : V) : Option (Ex × Env × St) :=
  obind (vbin .neq v6 (.int .i64 0)) fun x0 =>
  some (.normal, [(0, v0), (1, v1), (4, v4), (6, v6), (7, v7), (31, x0)], s)
@[go_sem] theorem rc_steadfastref10_Store_Get_5 {base : Nat} {ρ : Env} {s : St} : rc D base (.reg (some [0, 1, 4, 6, 7, 31]) o_steadfastref10_Store_Get_5) ρ s = R_steadfastref10_Store_Get_5 base s (get ρ 0) (get ρ 1) (get ρ 4) (get ρ 6) (get ρ 7) := rc_reg_O.trans (by kernel_rfl)
@[go_sem] noncomputable def R_steadfastref10_Store_Get_6 (base : Nat) (s : St) (v4 v6 : V) : Option (Ex × Env × St) :=
  obind (setParts [(.int .i64 0), (.int .i64 0), (.agg 24 (List.replicate 8 (.int .u64 0)))] []) fun x0 =>
  obind (stv base s 26 (.agg 26 x0) v4) fun s1 =>
  some (.normal, [(4, v4), (5, v6)], s1)
@[go_sem] theorem rc_steadfastref10_Store_Get_6 {base : Nat} {ρ : Env} {s : St} : rc D base (.reg (some [4, 5]) o_steadfastref10_Store_Get_6) ρ s = R_steadfastref10_Store_Get_6 base s (get ρ 4) (get ρ 6) := rc_reg_O.trans (by kernel_rfl)
@[go_sem] noncomputable def R_steadfastref10_Store_Get_7 (base : Nat) (s : St) (v0 v1 v4 v7 : V) : Option (Ex × Env × St) :=
  obind (nilv v0) fun x0 =>
  obind (fadv 31 2 48 x0) fun x1 =>
  obind (iadv 48 49 42 x1 v1) fun x2 =>
  obind (fadv 42 0 10 x2) fun x3 =>
  obind (ldv s 10 x3) fun x4 =>
  obind (nilv v0) fun x5 =>
  obind (fadv 31 2 48 x5) fun x6 =>
  obind (iadv 48 49 42 x6 v1) fun x7 =>
  obind (fadv 42 1 10 x7) fun x8 =>
  obind (ldv s 10 x8) fun x9 =>
  obind (ldv s 24 v7) fun x10 =>
  obind (setParts [(.int .i64 0), (.int .i64 0), (.agg 24 (List.replicate 8 (.int .u64 0)))] [(0, x4), (1, x9), (2, x10)]) fun x11 =>
  obind (stv base s 26 (.agg 26 x11) v4) fun s12 =>
  some (.normal, [(4, v4), (5, (.int .i64 0))], s12)
@[go_sem] theorem rc_steadfastref10_Store_Get_7 {base : Nat} {ρ : Env} {s : St} : rc D base (.regd (some [4, 5]) o_steadfastref10_Store_Get_7) ρ s = R_steadfastref10_Store_Get_7 base s (get ρ 0) (get ρ 1) (get ρ 4) (get ρ 7) := rc_regd_O.trans (by kernel_rfl)

@[go_sem] noncomputable def R_objects_Store_is_0 (_base : Nat) (s : St) (v0 v1 : V) : Option (Ex × Env × St) :=
  some (.normal, [(0, v0), (1, v1)], s)
@[go_sem] theorem rc_objects_Store_is_0 {base : Nat} {ρ : Env} {s : St} : rc D base (.reg (some [0, 1]) o_objects_Store_is_0) ρ s = R_objects_Store_is_0 base s (get ρ 0) (get ρ 1) := rc_reg_O.trans (by kernel_rfl)
@[go_sem] noncomputable def R_objects_Store_is_1 (_base : Nat) (s : St) (v0 v1 : V) : Option (Ex × Env × St) :=
  obind (vbin .lss v1 (.int .i64 0)) fun x0 =>
  some (.normal, [(0, v0), (1, v1), (5, x0)], s)
@[go_sem] theorem rc_objects_Store_is_1 {base : Nat} {ρ : Env} {s : St} : rc D base (.reg (some [0, 1, 5]) o_objects_Store_is_1) ρ s = R_objects_Store_is_1 base s (get ρ 0) (get ρ 1) := rc_reg_O.trans (by kernel_rfl)
@[go_sem] noncomputable def R_objects_Store_is_2 (_base : Nat) (s : St) (v0 v1 : V) : Option (Ex × Env × St) :=
  obind (vbin .geq v1 (.int .i64 49)) fun x0 =>
  some (.normal, [(0, v0), (1, v1), (5, x0)], s)
@[go_sem] theorem rc_objects_Store_is_2 {base : Nat} {ρ : Env} {s : St} : rc D base (.reg (some [0, 1, 5]) o_objects_Store_is_2) ρ s = R_objects_Store_is_2 base s (get ρ 0) (get ρ 1) := rc_reg_O.trans (by kernel_rfl)
@[go_sem] noncomputable def R_objects_Store_is_3 (_base : Nat) (s : St) : Option (Ex × Env × St) :=
  some (.normal, [(4, (.int .i64 1))], s)
@[go_sem] theorem rc_objects_Store_is_3 {base : Nat} {ρ : Env} {s : St} : rc D base (.reg (some [4]) o_objects_Store_is_3) ρ s = R_objects_Store_is_3 base s := rc_reg_O.trans (by kernel_rfl)
@[go_sem] noncomputable def R_objects_Store_is_4 (_base : Nat) (s : St) (v0 v1 : V) : Option (Ex × Env × St) :=
  obind (nilv v0) fun x0 =>
  obind (fadv 43 2 48 x0) fun x1 =>
  obind (iadv 48 49 42 x1 v1) fun x2 =>
  obind (fadv 42 0 10 x2) fun x3 =>
  obind (ldv s 10 x3) fun x4 =>
  obind (vbin .eql x4 (.int .i64 0)) fun x5 =>
  some (.normal, [(10, x5)], s)
@[go_sem] theorem rc_objects_Store_is_4 {base : Nat} {ρ : Env} {s : St} : rc D base (.reg (some [10]) o_objects_Store_is_4) ρ s = R_objects_Store_is_4 base s (get ρ 0) (get ρ 1) := rc_reg_O.trans (by kernel_rfl)
@[go_sem] noncomputable def R_objects_Store_is_5 (_base : Nat) (s : St) : Option (Ex × Env × St) :=
  some (.normal, [(4, (.int .i64 30))], s)
@[go_sem] theorem rc_objects_Store_is_5 {base : Nat} {ρ : Env} {s : St} : rc D base (.reg (some [4]) o_objects_Store_is_5) ρ s = R_objects_Store_is_5 base s := rc_reg_O.trans (by kernel_rfl)
@[go_sem] noncomputable def R_objects_Store_is_6 (_base : Nat) (s : St) : Option (Ex × Env × St) :=
  some (.normal, [(4, (.int .i64 0))], s)
@[go_sem] theorem rc_objects_Store_is_6 {base : Nat} {ρ : Env} {s : St} : rc D base (.reg (some [4]) o_objects_Store_is_6) ρ s = R_objects_Store_is_6 base s := rc_reg_O.trans (by kernel_rfl)

@[go_sem] noncomputable def R_nvm_Memory_Load_0 (_base : Nat) (s : St) (v0 v1 : V) : Option (Ex × Env × St) :=
  let x0 : V := .ptr (St.fresh s false) [] 24; let s0 : St := St.new s false (.agg 24 (List.replicate 8 (.int .u64 0)))
  some (.normal, [(0, v0), (1, v1), (4, x0)], s0)
@[go_sem] theorem rc_nvm_Memory_Load_0 {base : Nat} {ρ : Env} {s : St} : rc D base (.reg (some [0, 1, 4]) o_nvm_Memory_Load_0) ρ s = R_nvm_Memory_Load_0 base s (get ρ 0) (get ρ 1) := rc_reg_O.trans (by kernel_rfl)
@[go_sem] noncomputable def R_nvm_Memory_Load_1 (_base : Nat) (s : St) (v0 v1 v4 : V) : Option (Ex × Env × St) :=
  obind (rf D f_nvm_Memory_at [v0, v1] s) fun x0 =>
  some (.normal, [(0, v0), (4, v4), (6, x0.1)], x0.2)
@[go_sem] theorem rc_nvm_Memory_Load_1 {base : Nat} {ρ : Env} {s : St} : rc D base (.reg (some [0, 4, 6]) o_nvm_Memory_Load_1) ρ s = R_nvm_Memory_Load_1 base s (get ρ 0) (get ρ 1) (get ρ 4) := rc_reg_O.trans (by kernel_rfl)
@[go_sem] noncomputable def R_nvm_Memory_Load_2 (_base : Nat) (s : St) (v0 v4 v6 : V) : Option (Ex × Env × St) :=
  obind (eqv false 1 v6 .nilp) fun x0 =>
  some (.normal, [(0, v0), (4, v4), (6, v6), (10, x0)], s)
@[go_sem] theorem rc_nvm_Memory_Load_2 {base : Nat} {ρ : Env} {s : St} : rc D base (.reg (some [0, 4, 6, 10]) o_nvm_Memory_Load_2) ρ s = R_nvm_Memory_Load_2 base s (get ρ 0) (get ρ 4) (get ρ 6) := rc_reg_O.trans (by kernel_rfl)
@[go_sem] noncomputable def R_nvm_Memory_Load_3 (base : Nat) (s : St) (v4 : V) : Option (Ex × Env × St) :=
  obind (setParts (List.replicate 8 (.int .u64 0)) []) fun x0 =>
  obind (stv base s 24 (.agg 24 x0) v4) fun s1 =>
  some (.normal, [(4, v4), (5, (.int .i64 1))], s1)
@[go_sem] theorem rc_nvm_Memory_Load_3 {base : Nat} {ρ : Env} {s : St} : rc D base (.reg (some [4, 5]) o_nvm_Memory_Load_3) ρ s = R_nvm_Memory_Load_3 base s (get ρ 4) := rc_reg_O.trans (by kernel_rfl)
@[go_sem] noncomputable def R_nvm_Memory_Load_4 (_base : Nat) (s : St) (v0 v4 v6 : V) : Option (Ex × Env × St) :=
  obind (nilv v0) fun x0 =>
  obind (fadv 59 1 0 x0) fun x1 =>
  obind (ldv s 0 x1) fun x2 =>
  some (.normal, [(4, v4), (6, v6), (14, x2)], s)
@[go_sem] theorem rc_nvm_Memory_Load_4 {base : Nat} {ρ : Env} {s : St} : rc D base (.reg (some [4, 6, 14]) o_nvm_Memory_Load_4) ρ s = R_nvm_Memory_Load_4 base s (get ρ 0) (get ρ 4) (get ρ 6) := rc_reg_O.trans (by kernel_rfl)
@[go_sem] noncomputable def R_nvm_Memory_Load_5 (base : Nat) (s : St) (v4 : V) : Option (Ex × Env × St) :=
  obind (setParts (List.replicate 8 (.int .u64 0)) []) fun x0 =>
  obind (stv base s 24 (.agg 24 x0) v4) fun s1 =>
  some (.normal, [(4, v4), (5, (.int .i64 4))], s1)
@[go_sem] theorem rc_nvm_Memory_Load_5 {base : Nat} {ρ : Env} {s : St} : rc D base (.reg (some [4, 5]) o_nvm_Memory_Load_5) ρ s = R_nvm_Memory_Load_5 base s (get ρ 4) := rc_reg_O.trans (by kernel_rfl)
@[go_sem] noncomputable def R_nvm_Memory_Load_6 (base : Nat) (s : St) (v4 v6 : V) : Option (Ex × Env × St) :=
  obind (nilv v6) fun x0 =>
  obind (fadv 55 0 24 x0) fun x1 =>
  obind (ldv s 24 x1) fun x2 =>
  obind (stv base s 24 x2 v4) fun s3 =>
  some (.normal, [(4, v4), (5, (.int .i64 0))], s3)
@[go_sem] theorem rc_nvm_Memory_Load_6 {base : Nat} {ρ : Env} {s : St} : rc D base (.reg (some [4, 5]) o_nvm_Memory_Load_6) ρ s = R_nvm_Memory_Load_6 base s (get ρ 4) (get ρ 6) := rc_reg_O.trans (by kernel_rfl)

@[go_sem] noncomputable def R_steadfastref07_May_0 (_base : Nat) (s : St) (v0 v1 v2 : V) : Option (Ex × Env × St) :=
  some (.normal, [(0, v0), (1, v1), (2, v2)], s)
@[go_sem] theorem rc_steadfastref07_May_0 {base : Nat} {ρ : Env} {s : St} : rc D base (.reg (some [0, 1, 2]) o_steadfastref07_May_0) ρ s = R_steadfastref07_May_0 base s (get ρ 0) (get ρ 1) (get ρ 2) := rc_reg_O.trans (by kernel_rfl)
@[go_sem] noncomputable def R_steadfastref07_May_1 (base : Nat) (s : St) (v0 v1 v2 : V) : Option (Ex × Env × St) :=
  obind (rf D f_steadfastref07_Of [v0] s) fun x0 =>
  obind (extv 0 x0.1) fun x1 =>
  obind (extv 1 x0.1) fun x2 =>
  let x3 : V := .ptr (St.fresh x0.2 false) [] 40; let s3 : St := St.new x0.2 false (.agg 40 [(.int .i64 0), (.int .i64 0), (.int .i64 0), (.int .i64 0), (.int .i64 0)])
  obind (stv base s3 40 x1 x3) fun s4 =>
  some (.normal, [(1, v1), (2, v2), (7, x3), (8, x2)], s4)
@[go_sem] theorem rc_steadfastref07_May_1 {base : Nat} {ρ : Env} {s : St} : rc D base (.reg (some [1, 2, 7, 8]) o_steadfastref07_May_1) ρ s = R_steadfastref07_May_1 base s (get ρ 0) (get ρ 1) (get ρ 2) := rc_reg_O.trans (by kernel_rfl)
@[go_sem] noncomputable def R_steadfastref07_May_2 (_base : Nat) (s : St) (v1 v2 v7 v8 : V) : Option (Ex × Env × St) :=
  obind (vun .not v8) fun x0 =>
  oguard x0 false (
    obind (fadv 40 0 10 v7) fun x1 =>
    obind (ldv s 10 x1) fun x2 =>
    obind (vbin .neq x2 v1) fun x3 =>
    some (.normal, [(2, v2), (7, v7), (21, x3)], s)) (
    some (.normal, [(2, v2), (7, v7), (21, (.bool true))], s)) (
    none)
@[go_sem] theorem rc_steadfastref07_May_2 {base : Nat} {ρ : Env} {s : St} : rc D base (.reg (some [2, 7, 21]) o_steadfastref07_May_2) ρ s = R_steadfastref07_May_2 base s (get ρ 1) (get ρ 2) (get ρ 7) (get ρ 8) := rc_reg_O.trans (by kernel_rfl)
@[go_sem] noncomputable def R_steadfastref07_May_3 (_base : Nat) (s : St) : Option (Ex × Env × St) :=
  some (.normal, [(6, (.int .i64 31))], s)
@[go_sem] theorem rc_steadfastref07_May_3 {base : Nat} {ρ : Env} {s : St} : rc D base (.reg (some [6]) o_steadfastref07_May_3) ρ s = R_steadfastref07_May_3 base s := rc_reg_O.trans (by kernel_rfl)
@[go_sem] noncomputable def R_steadfastref07_May_4 (_base : Nat) (s : St) (v2 v7 : V) : Option (Ex × Env × St) :=
  obind (fadv 40 1 10 v7) fun x0 =>
  obind (ldv s 10 x0) fun x1 =>
  obind (vbin .and x1 v2) fun x2 =>
  obind (vbin .neq x2 v2) fun x3 =>
  some (.normal, [(27, x3)], s)
@[go_sem] theorem rc_steadfastref07_May_4 {base : Nat} {ρ : Env} {s : St} : rc D base (.reg (some [27]) o_steadfastref07_May_4) ρ s = R_steadfastref07_May_4 base s (get ρ 2) (get ρ 7) := rc_reg_O.trans (by kernel_rfl)
@[go_sem] noncomputable def R_steadfastref07_May_5 (_base : Nat) (s : St) : Option (Ex × Env × St) :=
  some (.normal, [(6, (.int .i64 32))], s)
@[go_sem] theorem rc_steadfastref07_May_5 {base : Nat} {ρ : Env} {s : St} : rc D base (.reg (some [6]) o_steadfastref07_May_5) ρ s = R_steadfastref07_May_5 base s := rc_reg_O.trans (by kernel_rfl)
@[go_sem] noncomputable def R_steadfastref07_May_6 (_base : Nat) (s : St) : Option (Ex × Env × St) :=
  some (.normal, [(6, (.int .i64 0))], s)
@[go_sem] theorem rc_steadfastref07_May_6 {base : Nat} {ρ : Env} {s : St} : rc D base (.reg (some [6]) o_steadfastref07_May_6) ρ s = R_steadfastref07_May_6 base s := rc_reg_O.trans (by kernel_rfl)

@[go_sem] noncomputable def R_objects_Store_own_0 (_base : Nat) (s : St) (v0 v1 : V) : Option (Ex × Env × St) :=
  some (.normal, [(0, v0), (1, v1)], s)
@[go_sem] theorem rc_objects_Store_own_0 {base : Nat} {ρ : Env} {s : St} : rc D base (.reg (some [0, 1]) o_objects_Store_own_0) ρ s = R_objects_Store_own_0 base s (get ρ 0) (get ρ 1) := rc_reg_O.trans (by kernel_rfl)
@[go_sem] noncomputable def R_objects_Store_own_1 (_base : Nat) (s : St) (v0 v1 : V) : Option (Ex × Env × St) :=
  obind (nilv v0) fun x0 =>
  obind (fadv 43 2 48 x0) fun x1 =>
  obind (iadv 48 49 42 x1 v1) fun x2 =>
  obind (fadv 42 2 10 x2) fun x3 =>
  obind (ldv s 10 x3) fun x4 =>
  obind (nilv v0) fun x5 =>
  obind (fadv 43 7 82 x5) fun x6 =>
  obind (iadv 82 1024 0 x6 x4) fun x7 =>
  obind (ldv s 0 x7) fun x8 =>
  obind (vun .not x8) fun x9 =>
  some (.normal, [(4, x9)], s)
@[go_sem] theorem rc_objects_Store_own_1 {base : Nat} {ρ : Env} {s : St} : rc D base (.regd (some [4]) o_objects_Store_own_1) ρ s = R_objects_Store_own_1 base s (get ρ 0) (get ρ 1) := rc_regd_O.trans (by kernel_rfl)

@[go_sem] noncomputable def R_frames_Frames_Free_0 (_base : Nat) (s : St) (v0 v1 : V) : Option (Ex × Env × St) :=
  some (.normal, [(0, v0), (1, v1)], s)
@[go_sem] theorem rc_frames_Frames_Free_0 {base : Nat} {ρ : Env} {s : St} : rc D base (.reg (some [0, 1]) o_frames_Frames_Free_0) ρ s = R_frames_Frames_Free_0 base s (get ρ 0) (get ρ 1) := rc_reg_O.trans (by kernel_rfl)
@[go_sem] noncomputable def R_frames_Frames_Free_1 (_base : Nat) (s : St) (v0 v1 : V) : Option (Ex × Env × St) :=
  obind (rf D f_frames_Frames_in [v0, v1, (.int .i64 1)] s) fun x0 =>
  some (.normal, [(0, v0), (1, v1), (5, x0.1)], x0.2)
@[go_sem] theorem rc_frames_Frames_Free_1 {base : Nat} {ρ : Env} {s : St} : rc D base (.reg (some [0, 1, 5]) o_frames_Frames_Free_1) ρ s = R_frames_Frames_Free_1 base s (get ρ 0) (get ρ 1) := rc_reg_O.trans (by kernel_rfl)
@[go_sem] noncomputable def R_frames_Frames_Free_2 (_base : Nat) (s : St) (v0 v1 v5 : V) : Option (Ex × Env × St) :=
  obind (vbin .eql v5 (.int .i64 0)) fun x0 =>
  some (.normal, [(0, v0), (1, v1), (5, v5), (10, x0)], s)
@[go_sem] theorem rc_frames_Frames_Free_2 {base : Nat} {ρ : Env} {s : St} : rc D base (.reg (some [0, 1, 5, 10]) o_frames_Frames_Free_2) ρ s = R_frames_Frames_Free_2 base s (get ρ 0) (get ρ 1) (get ρ 5) := rc_reg_O.trans (by kernel_rfl)
@[go_sem] noncomputable def R_frames_Frames_Free_3 (_base : Nat) (s : St) (v0 v1 v5 : V) : Option (Ex × Env × St) :=
  obind (nilv v0) fun x0 =>
  obind (fadv 80 2 78 x0) fun x1 =>
  obind (rf D f_frames_set_turn [x1, v1] s) fun x2 =>
  some (.normal, [(5, v5)], x2.2)
@[go_sem] theorem rc_frames_Frames_Free_3 {base : Nat} {ρ : Env} {s : St} : rc D base (.reg (some [5]) o_frames_Frames_Free_3) ρ s = R_frames_Frames_Free_3 base s (get ρ 0) (get ρ 1) (get ρ 5) := rc_reg_O.trans (by kernel_rfl)
@[go_sem] noncomputable def R_frames_Frames_Free_4 (_base : Nat) (s : St) (v5 : V) : Option (Ex × Env × St) :=
  some (.normal, [(4, v5)], s)
@[go_sem] theorem rc_frames_Frames_Free_4 {base : Nat} {ρ : Env} {s : St} : rc D base (.reg (some [4]) o_frames_Frames_Free_4) ρ s = R_frames_Frames_Free_4 base s (get ρ 5) := rc_reg_O.trans (by kernel_rfl)

@[go_sem] noncomputable def R_entry_End_0 (_base : Nat) (s : St) (v0 : V) : Option (Ex × Env × St) :=
  if V.ok v0 && mayNew false v0 then let x0 : V := .ptr (St.fresh s false) [] (V.tag v0); let s0 : St := St.new s false v0
  let x1 : V := .ptr (St.fresh s0 false) [] 42; let s1 : St := St.new s0 false (.agg 42 [(.int .i64 0), (.int .i64 0), (.int .i64 0)])
  some (.normal, [(1, x0), (2, x1)], s1)
  else none
@[go_sem] theorem rc_entry_End_0 {base : Nat} {ρ : Env} {s : St} : rc D base (.reg (some [1, 2]) o_entry_End_0) ρ s = R_entry_End_0 base s (get ρ 0) := rc_reg_O.trans (by kernel_rfl)
@[go_sem] noncomputable def R_entry_End_1 (_base : Nat) (s : St) (v1 v2 : V) : Option (Ex × Env × St) :=
  obind (fadv 42 0 10 v1) fun x0 =>
  obind (ldv s 10 x0) fun x1 =>
  obind (vbin .eql x1 (.int .i64 0)) fun x2 =>
  some (.normal, [(1, v1), (2, v2), (6, x2)], s)
@[go_sem] theorem rc_entry_End_1 {base : Nat} {ρ : Env} {s : St} : rc D base (.reg (some [1, 2, 6]) o_entry_End_1) ρ s = R_entry_End_1 base s (get ρ 1) (get ρ 2) := rc_reg_O.trans (by kernel_rfl)
@[go_sem] noncomputable def R_entry_End_2 (base : Nat) (s : St) (v2 : V) : Option (Ex × Env × St) :=
  obind (setParts [(.int .i64 0), (.int .i64 0), (.int .i64 0)] []) fun x0 =>
  obind (stv base s 42 (.agg 42 x0) v2) fun s1 =>
  some (.normal, [(2, v2), (3, (.int .i64 30))], s1)
@[go_sem] theorem rc_entry_End_2 {base : Nat} {ρ : Env} {s : St} : rc D base (.reg (some [2, 3]) o_entry_End_2) ρ s = R_entry_End_2 base s (get ρ 2) := rc_reg_O.trans (by kernel_rfl)
@[go_sem] noncomputable def R_entry_End_3 (base : Nat) (s : St) (v1 v2 : V) : Option (Ex × Env × St) :=
  obind (fadv 42 1 10 v1) fun x0 =>
  obind (ldv s 10 x0) fun x1 =>
  obind (fadv 42 1 10 v1) fun x2 =>
  obind (ldv s 10 x2) fun x3 =>
  obind (vbin .sub (.int .i64 16777215) x3) fun x4 =>
  obind (vmnx false (.int .i64 1) x4) fun x5 =>
  obind (vbin .add x1 x5) fun x6 =>
  obind (setParts [(.int .i64 0), (.int .i64 0), (.int .i64 0)] [(1, x6)]) fun x7 =>
  obind (stv base s 42 (.agg 42 x7) v2) fun s8 =>
  some (.normal, [(2, v2), (3, (.int .i64 0))], s8)
@[go_sem] theorem rc_entry_End_3 {base : Nat} {ρ : Env} {s : St} : rc D base (.reg (some [2, 3]) o_entry_End_3) ρ s = R_entry_End_3 base s (get ρ 1) (get ρ 2) := rc_reg_O.trans (by kernel_rfl)

@[go_sem] noncomputable def R_caps_within_0 (_base : Nat) (s : St) (v0 v1 v2 : V) : Option (Ex × Env × St) :=
  some (.normal, [(0, v0), (1, v1), (2, v2)], s)
@[go_sem] theorem rc_caps_within_0 {base : Nat} {ρ : Env} {s : St} : rc D base (.reg (some [0, 1, 2]) o_caps_within_0) ρ s = R_caps_within_0 base s (get ρ 0) (get ρ 1) (get ρ 2) := rc_reg_O.trans (by kernel_rfl)
@[go_sem] noncomputable def R_caps_within_1 (_base : Nat) (s : St) (v0 v1 v2 : V) : Option (Ex × Env × St) :=
  obind (vbin .geq v0 v1) fun x0 =>
  oguard x0 true (
    obind (vbin .leq v0 v2) fun x1 =>
    some (.normal, [(6, x1)], s)) (
    some (.normal, [(6, (.bool false))], s)) (
    none)
@[go_sem] theorem rc_caps_within_1 {base : Nat} {ρ : Env} {s : St} : rc D base (.reg (some [6]) o_caps_within_1) ρ s = R_caps_within_1 base s (get ρ 0) (get ρ 1) (get ρ 2) := rc_reg_O.trans (by kernel_rfl)

@[go_sem] noncomputable def R_steadfastref01_With_0 (_base : Nat) (s : St) (v0 v1 v2 v3 : V) : Option (Ex × Env × St) :=
  some (.normal, [(0, v0), (1, v1), (2, v2), (3, v3)], s)
@[go_sem] theorem rc_steadfastref01_With_0 {base : Nat} {ρ : Env} {s : St} : rc D base (.reg (some [0, 1, 2, 3]) o_steadfastref01_With_0) ρ s = R_steadfastref01_With_0 base s (get ρ 0) (get ρ 1) (get ρ 2) (get ρ 3) := rc_reg_O.trans (by kernel_rfl)
@[go_sem] noncomputable def R_steadfastref01_With_1 (_base : Nat) (s : St) (v0 v1 v2 v3 : V) : Option (Ex × Env × St) :=
  obind (rf D f_steadfastref01_is [v1, v2] s) fun x0 =>
  obind (vun .not x0.1) fun x1 =>
  some (.normal, [(0, v0), (1, v1), (2, v2), (3, v3), (15, x1)], x0.2)
@[go_sem] theorem rc_steadfastref01_With_1 {base : Nat} {ρ : Env} {s : St} : rc D base (.reg (some [0, 1, 2, 3, 15]) o_steadfastref01_With_1) ρ s = R_steadfastref01_With_1 base s (get ρ 0) (get ρ 1) (get ρ 2) (get ρ 3) := rc_reg_O.trans (by kernel_rfl)
@[go_sem] noncomputable def R_steadfastref01_With_2 (_base : Nat) (s : St) : Option (Ex × Env × St) :=
  some (.normal, [(8, (.int .u64 0)), (9, (.int .i64 1))], s)
@[go_sem] theorem rc_steadfastref01_With_2 {base : Nat} {ρ : Env} {s : St} : rc D base (.reg (some [8, 9]) o_steadfastref01_With_2) ρ s = R_steadfastref01_With_2 base s := rc_reg_O.trans (by kernel_rfl)
@[go_sem] noncomputable def R_steadfastref01_With_3 (_base : Nat) (s : St) (v0 v1 v2 v3 : V) : Option (Ex × Env × St) :=
  some (.normal, [(0, v0), (1, v1), (2, v2), (3, v3), (10, v2)], s)
@[go_sem] theorem rc_steadfastref01_With_3 {base : Nat} {ρ : Env} {s : St} : rc D base (.reg (some [0, 1, 2, 3, 10]) o_steadfastref01_With_3) ρ s = R_steadfastref01_With_3 base s (get ρ 0) (get ρ 1) (get ρ 2) (get ρ 3) := rc_reg_O.trans (by kernel_rfl)
@[go_sem] noncomputable def R_steadfastref01_With_4 (_base : Nat) (s : St) (v0 v1 v2 v3 v10 : V) : Option (Ex × Env × St) :=
  obind (vbin .lss v10 (.int .i64 64)) fun x0 =>
  some (.normal, [(0, v0), (1, v1), (2, v2), (3, v3), (10, v10), (18, x0)], s)
@[go_sem] theorem rc_steadfastref01_With_4 {base : Nat} {ρ : Env} {s : St} : rc D base (.reg (some [0, 1, 2, 3, 10, 18]) o_steadfastref01_With_4) ρ s = R_steadfastref01_With_4 base s (get ρ 0) (get ρ 1) (get ρ 2) (get ρ 3) (get ρ 10) := rc_reg_O.trans (by kernel_rfl)
@[go_sem] noncomputable def R_steadfastref01_With_5 (_base : Nat) (s : St) (v0 v1 v2 v3 v10 : V) : Option (Ex × Env × St) :=
  obind (rf D f_steadfastref01_bit [v3, v10] s) fun x0 =>
  obind (vbin .eql x0.1 (.int .u64 1)) fun x1 =>
  some (.normal, [(0, v0), (1, v1), (2, v2), (3, v3), (10, v10), (24, x1)], x0.2)
@[go_sem] theorem rc_steadfastref01_With_5 {base : Nat} {ρ : Env} {s : St} : rc D base (.reg (some [0, 1, 2, 3, 10, 24]) o_steadfastref01_With_5) ρ s = R_steadfastref01_With_5 base s (get ρ 0) (get ρ 1) (get ρ 2) (get ρ 3) (get ρ 10) := rc_reg_O.trans (by kernel_rfl)
@[go_sem] noncomputable def R_steadfastref01_With_6 (_base : Nat) (s : St) : Option (Ex × Env × St) :=
  some (.normal, [(8, (.int .u64 0)), (9, (.int .i64 2))], s)
@[go_sem] theorem rc_steadfastref01_With_6 {base : Nat} {ρ : Env} {s : St} : rc D base (.reg (some [8, 9]) o_steadfastref01_With_6) ρ s = R_steadfastref01_With_6 base s := rc_reg_O.trans (by kernel_rfl)
@[go_sem] noncomputable def R_steadfastref01_With_7 (_base : Nat) (s : St) (v0 v1 v2 v3 v10 : V) : Option (Ex × Env × St) :=
  obind (vbin .add v10 (.int .i64 1)) fun x0 =>
  some (.normal, [(0, v0), (1, v1), (2, v2), (3, v3), (10, x0)], s)
@[go_sem] theorem rc_steadfastref01_With_7 {base : Nat} {ρ : Env} {s : St} : rc D base (.reg (some [0, 1, 2, 3, 10]) o_steadfastref01_With_7) ρ s = R_steadfastref01_With_7 base s (get ρ 0) (get ρ 1) (get ρ 2) (get ρ 3) (get ρ 10) := rc_reg_O.trans (by kernel_rfl)
@[go_sem] noncomputable def R_steadfastref01_With_8 (_base : Nat) (s : St) (v0 v1 v2 v3 : V) : Option (Ex × Env × St) :=
  some (.normal, [(0, v0), (1, v1), (2, v2), (3, v3), (11, (.int .i64 0))], s)
@[go_sem] theorem rc_steadfastref01_With_8 {base : Nat} {ρ : Env} {s : St} : rc D base (.reg (some [0, 1, 2, 3, 11]) o_steadfastref01_With_8) ρ s = R_steadfastref01_With_8 base s (get ρ 0) (get ρ 1) (get ρ 2) (get ρ 3) := rc_reg_O.trans (by kernel_rfl)
@[go_sem] noncomputable def R_steadfastref01_With_9 (_base : Nat) (s : St) (v0 v1 v2 v3 v11 : V) : Option (Ex × Env × St) :=
  obind (vbin .lss v11 v2) fun x0 =>
  some (.normal, [(0, v0), (1, v1), (2, v2), (3, v3), (11, v11), (27, x0)], s)
@[go_sem] theorem rc_steadfastref01_With_9 {base : Nat} {ρ : Env} {s : St} : rc D base (.reg (some [0, 1, 2, 3, 11, 27]) o_steadfastref01_With_9) ρ s = R_steadfastref01_With_9 base s (get ρ 0) (get ρ 1) (get ρ 2) (get ρ 3) (get ρ 11) := rc_reg_O.trans (by kernel_rfl)
@[go_sem] noncomputable def R_steadfastref01_With_10 (_base : Nat) (s : St) (v0 v1 v2 v3 v11 : V) : Option (Ex × Env × St) :=
  obind (rf D f_steadfastref01_bit [v3, v11] s) fun x0 =>
  obind (vbin .add v1 v11) fun x1 =>
  obind (rf D f_steadfastref01_bit [v0, x1] x0.2) fun x2 =>
  obind (vbin .neq x0.1 x2.1) fun x3 =>
  some (.normal, [(0, v0), (1, v1), (2, v2), (3, v3), (11, v11), (38, x3)], x2.2)
@[go_sem] theorem rc_steadfastref01_With_10 {base : Nat} {ρ : Env} {s : St} : rc D base (.reg (some [0, 1, 2, 3, 11, 38]) o_steadfastref01_With_10) ρ s = R_steadfastref01_With_10 base s (get ρ 0) (get ρ 1) (get ρ 2) (get ρ 3) (get ρ 11) := rc_reg_O.trans (by kernel_rfl)
@[go_sem] noncomputable def R_steadfastref01_With_11 (_base : Nat) (s : St) (v0 v1 v2 v3 v11 : V) : Option (Ex × Env × St) :=
  obind (vbin .add v1 v11) fun x0 =>
  obind (vbin .shl (.int .u64 1) x0) fun x1 =>
  obind (vbin .xor v0 x1) fun x2 =>
  some (.normal, [(0, x2), (1, v1), (2, v2), (3, v3), (11, v11)], s)
@[go_sem] theorem rc_steadfastref01_With_11 {base : Nat} {ρ : Env} {s : St} : rc D base (.reg (some [0, 1, 2, 3, 11]) o_steadfastref01_With_11) ρ s = R_steadfastref01_With_11 base s (get ρ 0) (get ρ 1) (get ρ 2) (get ρ 3) (get ρ 11) := rc_reg_O.trans (by kernel_rfl)
@[go_sem] noncomputable def R_steadfastref01_With_12 (_base : Nat) (s : St) (v0 v1 v2 v3 v11 : V) : Option (Ex × Env × St) :=
  obind (vbin .add v11 (.int .i64 1)) fun x0 =>
  some (.normal, [(0, v0), (1, v1), (2, v2), (3, v3), (11, x0)], s)
@[go_sem] theorem rc_steadfastref01_With_12 {base : Nat} {ρ : Env} {s : St} : rc D base (.reg (some [0, 1, 2, 3, 11]) o_steadfastref01_With_12) ρ s = R_steadfastref01_With_12 base s (get ρ 0) (get ρ 1) (get ρ 2) (get ρ 3) (get ρ 11) := rc_reg_O.trans (by kernel_rfl)
@[go_sem] noncomputable def R_steadfastref01_With_13 (_base : Nat) (s : St) (v0 : V) : Option (Ex × Env × St) :=
  some (.normal, [(8, v0), (9, (.int .i64 0))], s)
@[go_sem] theorem rc_steadfastref01_With_13 {base : Nat} {ρ : Env} {s : St} : rc D base (.reg (some [8, 9]) o_steadfastref01_With_13) ρ s = R_steadfastref01_With_13 base s (get ρ 0) := rc_reg_O.trans (by kernel_rfl)

@[go_sem] noncomputable def R_steadfastref01_Field_0 (_base : Nat) (s : St) (v0 v1 v2 : V) : Option (Ex × Env × St) :=
  some (.normal, [(0, v0), (1, v1), (2, v2)], s)
@[go_sem] theorem rc_steadfastref01_Field_0 {base : Nat} {ρ : Env} {s : St} : rc D base (.reg (some [0, 1, 2]) o_steadfastref01_Field_0) ρ s = R_steadfastref01_Field_0 base s (get ρ 0) (get ρ 1) (get ρ 2) := rc_reg_O.trans (by kernel_rfl)
@[go_sem] noncomputable def R_steadfastref01_Field_1 (_base : Nat) (s : St) (v0 v1 v2 : V) : Option (Ex × Env × St) :=
  some (.normal, [(0, v0), (1, v1), (2, v2), (7, (.int .u64 0))], s)
@[go_sem] theorem rc_steadfastref01_Field_1 {base : Nat} {ρ : Env} {s : St} : rc D base (.reg (some [0, 1, 2, 7]) o_steadfastref01_Field_1) ρ s = R_steadfastref01_Field_1 base s (get ρ 0) (get ρ 1) (get ρ 2) := rc_reg_O.trans (by kernel_rfl)
@[go_sem] noncomputable def R_steadfastref01_Field_2 (_base : Nat) (s : St) (v0 v1 v2 v7 : V) : Option (Ex × Env × St) :=
  obind (rf D f_steadfastref01_is [v1, v2] s) fun x0 =>
  obind (vun .not x0.1) fun x1 =>
  some (.normal, [(0, v0), (1, v1), (2, v2), (7, v7), (12, x1)], x0.2)
@[go_sem] theorem rc_steadfastref01_Field_2 {base : Nat} {ρ : Env} {s : St} : rc D base (.reg (some [0, 1, 2, 7, 12]) o_steadfastref01_Field_2) ρ s = R_steadfastref01_Field_2 base s (get ρ 0) (get ρ 1) (get ρ 2) (get ρ 7) := rc_reg_O.trans (by kernel_rfl)
@[go_sem] noncomputable def R_steadfastref01_Field_3 (_base : Nat) (s : St) : Option (Ex × Env × St) :=
  some (.normal, [(6, (.int .u64 0))], s)
@[go_sem] theorem rc_steadfastref01_Field_3 {base : Nat} {ρ : Env} {s : St} : rc D base (.reg (some [6]) o_steadfastref01_Field_3) ρ s = R_steadfastref01_Field_3 base s := rc_reg_O.trans (by kernel_rfl)
@[go_sem] noncomputable def R_steadfastref01_Field_4 (_base : Nat) (s : St) (v0 v1 v2 v7 : V) : Option (Ex × Env × St) :=
  some (.normal, [(0, v0), (1, v1), (2, v2), (7, v7), (8, (.int .i64 0))], s)
@[go_sem] theorem rc_steadfastref01_Field_4 {base : Nat} {ρ : Env} {s : St} : rc D base (.reg (some [0, 1, 2, 7, 8]) o_steadfastref01_Field_4) ρ s = R_steadfastref01_Field_4 base s (get ρ 0) (get ρ 1) (get ρ 2) (get ρ 7) := rc_reg_O.trans (by kernel_rfl)
@[go_sem] noncomputable def R_steadfastref01_Field_5 (_base : Nat) (s : St) (v0 v1 v2 v7 v8 : V) : Option (Ex × Env × St) :=
  obind (vbin .lss v8 v2) fun x0 =>
  some (.normal, [(0, v0), (1, v1), (2, v2), (7, v7), (8, v8), (15, x0)], s)
@[go_sem] theorem rc_steadfastref01_Field_5 {base : Nat} {ρ : Env} {s : St} : rc D base (.reg (some [0, 1, 2, 7, 8, 15]) o_steadfastref01_Field_5) ρ s = R_steadfastref01_Field_5 base s (get ρ 0) (get ρ 1) (get ρ 2) (get ρ 7) (get ρ 8) := rc_reg_O.trans (by kernel_rfl)
@[go_sem] noncomputable def R_steadfastref01_Field_6 (_base : Nat) (s : St) (v0 v1 v2 v7 v8 : V) : Option (Ex × Env × St) :=
  obind (vbin .add v1 v8) fun x0 =>
  obind (rf D f_steadfastref01_bit [v0, x0] s) fun x1 =>
  obind (vbin .shl x1.1 v8) fun x2 =>
  obind (vbin .or v7 x2) fun x3 =>
  some (.normal, [(0, v0), (1, v1), (2, v2), (7, x3), (8, v8)], x1.2)
@[go_sem] theorem rc_steadfastref01_Field_6 {base : Nat} {ρ : Env} {s : St} : rc D base (.reg (some [0, 1, 2, 7, 8]) o_steadfastref01_Field_6) ρ s = R_steadfastref01_Field_6 base s (get ρ 0) (get ρ 1) (get ρ 2) (get ρ 7) (get ρ 8) := rc_reg_O.trans (by kernel_rfl)
@[go_sem] noncomputable def R_steadfastref01_Field_7 (_base : Nat) (s : St) (v0 v1 v2 v7 v8 : V) : Option (Ex × Env × St) :=
  obind (vbin .add v8 (.int .i64 1)) fun x0 =>
  some (.normal, [(0, v0), (1, v1), (2, v2), (7, v7), (8, x0)], s)
@[go_sem] theorem rc_steadfastref01_Field_7 {base : Nat} {ρ : Env} {s : St} : rc D base (.reg (some [0, 1, 2, 7, 8]) o_steadfastref01_Field_7) ρ s = R_steadfastref01_Field_7 base s (get ρ 0) (get ρ 1) (get ρ 2) (get ρ 7) (get ρ 8) := rc_reg_O.trans (by kernel_rfl)
@[go_sem] noncomputable def R_steadfastref01_Field_8 (_base : Nat) (s : St) (v7 : V) : Option (Ex × Env × St) :=
  some (.normal, [(6, v7)], s)
@[go_sem] theorem rc_steadfastref01_Field_8 {base : Nat} {ρ : Env} {s : St} : rc D base (.reg (some [6]) o_steadfastref01_Field_8) ρ s = R_steadfastref01_Field_8 base s (get ρ 7) := rc_reg_O.trans (by kernel_rfl)

@[go_sem] noncomputable def R_nvm_New_0 (_base : Nat) (s : St) (v0 : V) : Option (Ex × Env × St) :=
  some (.normal, [(0, v0)], s)
@[go_sem] theorem rc_nvm_New_0 {base : Nat} {ρ : Env} {s : St} : rc D base (.reg (some [0]) o_nvm_New_0) ρ s = R_nvm_New_0 base s (get ρ 0) := rc_reg_O.trans (by kernel_rfl)
@[go_sem] noncomputable def R_nvm_New_1 (_base : Nat) (s : St) (v0 : V) : Option (Ex × Env × St) :=
  obind (vbin .lss v0 (.int .i64 64)) fun x0 =>
  oguard x0 false (
    obind (vbin .gtr v0 (.int .i64 1024)) fun x1 =>
    some (.normal, [(0, v0), (9, x1)], s)) (
    some (.normal, [(0, v0), (9, (.bool true))], s)) (
    none)
@[go_sem] theorem rc_nvm_New_1 {base : Nat} {ρ : Env} {s : St} : rc D base (.reg (some [0, 9]) o_nvm_New_1) ρ s = R_nvm_New_1 base s (get ρ 0) := rc_reg_O.trans (by kernel_rfl)
@[go_sem] noncomputable def R_nvm_New_2 (_base : Nat) (s : St) : Option (Ex × Env × St) :=
  some (.normal, [(2, .nilp), (3, (.int .i64 1))], s)
@[go_sem] theorem rc_nvm_New_2 {base : Nat} {ρ : Env} {s : St} : rc D base (.reg (some [2, 3]) o_nvm_New_2) ρ s = R_nvm_New_2 base s := rc_reg_O.trans (by kernel_rfl)
@[go_sem] noncomputable def R_nvm_New_3 (_base : Nat) (s : St) (v0 : V) : Option (Ex × Env × St) :=
  obind (mkslv true 57 55 (.agg 55 [(.agg 24 (List.replicate 8 (.int .u64 0))), (.agg 24 (List.replicate 8 (.int .u64 0))), .nils, (.agg 50 (List.replicate 8 (.int .i64 0)))]) s v0 v0) fun x0 =>
  obind (setParts [.nils, (.bool false), (.bool false), (.int .i64 0), (.int .i64 0)] [(0, x0.1)]) fun x1 =>
  if V.ok (.agg 59 x1) && mayNew true (.agg 59 x1) then let x2 : V := .ptr (St.fresh x0.2 true) [] (V.tag (.agg 59 x1)); let s2 : St := St.new x0.2 true (.agg 59 x1)
  some (.normal, [(2, x2), (3, (.int .i64 0))], s2)
  else none
@[go_sem] theorem rc_nvm_New_3 {base : Nat} {ρ : Env} {s : St} : rc D base (.reg (some [2, 3]) o_nvm_New_3) ρ s = R_nvm_New_3 base s (get ρ 0) := rc_reg_O.trans (by kernel_rfl)

@[go_sem] noncomputable def R_frames_New_0 (_base : Nat) (s : St) (v0 v1 : V) : Option (Ex × Env × St) :=
  some (.normal, [(0, v0), (1, v1)], s)
@[go_sem] theorem rc_frames_New_0 {base : Nat} {ρ : Env} {s : St} : rc D base (.reg (some [0, 1]) o_frames_New_0) ρ s = R_frames_New_0 base s (get ρ 0) (get ρ 1) := rc_reg_O.trans (by kernel_rfl)
@[go_sem] noncomputable def R_frames_New_1 (_base : Nat) (s : St) (v0 v1 : V) : Option (Ex × Env × St) :=
  obind (vbin .lss v0 (.int .i64 0)) fun x0 =>
  oguard x0 false (
    obind (vbin .gtr v0 v1) fun x1 =>
    oguard x1 false (
      obind (vbin .gtr v1 (.int .i64 1024)) fun x2 =>
      some (.normal, [(0, v0), (1, v1), (18, x2)], s)) (
      some (.normal, [(0, v0), (1, v1), (18, (.bool true))], s)) (
      none)) (
    some (.normal, [(0, v0), (1, v1), (18, (.bool true))], s)) (
    none)
@[go_sem] theorem rc_frames_New_1 {base : Nat} {ρ : Env} {s : St} : rc D base (.reg (some [0, 1, 18]) o_frames_New_1) ρ s = R_frames_New_1 base s (get ρ 0) (get ρ 1) := rc_reg_O.trans (by kernel_rfl)
@[go_sem] noncomputable def R_frames_New_2 (_base : Nat) (s : St) : Option (Ex × Env × St) :=
  some (.normal, [(4, .nilp), (5, (.int .i64 1))], s)
@[go_sem] theorem rc_frames_New_2 {base : Nat} {ρ : Env} {s : St} : rc D base (.reg (some [4, 5]) o_frames_New_2) ρ s = R_frames_New_2 base s := rc_reg_O.trans (by kernel_rfl)
@[go_sem] noncomputable def R_frames_New_3 (_base : Nat) (s : St) (v0 v1 : V) : Option (Ex × Env × St) :=
  obind (setParts [(.int .i64 0), (.int .i64 0), (.agg 78 (List.replicate 16 (.int .u64 0))), (.agg 78 (List.replicate 16 (.int .u64 0)))] [(0, v0), (1, v1)]) fun x0 =>
  if V.ok (.agg 80 x0) && mayNew true (.agg 80 x0) then let x1 : V := .ptr (St.fresh s true) [] (V.tag (.agg 80 x0)); let s1 : St := St.new s true (.agg 80 x0)
  some (.normal, [(0, v0), (1, v1), (6, x1)], s1)
  else none
@[go_sem] theorem rc_frames_New_3 {base : Nat} {ρ : Env} {s : St} : rc D base (.reg (some [0, 1, 6]) o_frames_New_3) ρ s = R_frames_New_3 base s (get ρ 0) (get ρ 1) := rc_reg_O.trans (by kernel_rfl)
@[go_sem] noncomputable def R_frames_New_4 (_base : Nat) (s : St) (v0 v1 v6 : V) : Option (Ex × Env × St) :=
  obind (vbin .sub v1 v0) fun x0 =>
  some (.normal, [(0, v0), (6, v6), (25, x0), (26, (.int .i64 0))], s)
@[go_sem] theorem rc_frames_New_4 {base : Nat} {ρ : Env} {s : St} : rc D base (.reg (some [0, 6, 25, 26]) o_frames_New_4) ρ s = R_frames_New_4 base s (get ρ 0) (get ρ 1) (get ρ 6) := rc_reg_O.trans (by kernel_rfl)
@[go_sem] noncomputable def R_frames_New_5 (_base : Nat) (s : St) (v0 v6 v25 v26 : V) : Option (Ex × Env × St) :=
  obind (vbin .lss v26 v25) fun x0 =>
  some (.normal, [(0, v0), (6, v6), (25, v25), (26, v26), (27, x0)], s)
@[go_sem] theorem rc_frames_New_5 {base : Nat} {ρ : Env} {s : St} : rc D base (.reg (some [0, 6, 25, 26, 27]) o_frames_New_5) ρ s = R_frames_New_5 base s (get ρ 0) (get ρ 6) (get ρ 25) (get ρ 26) := rc_reg_O.trans (by kernel_rfl)
@[go_sem] noncomputable def R_frames_New_6 (_base : Nat) (s : St) (v0 v6 v25 v26 : V) : Option (Ex × Env × St) :=
  some (.normal, [(0, v0), (6, v6), (7, v26), (25, v25), (26, v26)], s)
@[go_sem] theorem rc_frames_New_6 {base : Nat} {ρ : Env} {s : St} : rc D base (.reg (some [0, 6, 7, 25, 26]) o_frames_New_6) ρ s = R_frames_New_6 base s (get ρ 0) (get ρ 6) (get ρ 25) (get ρ 26) := rc_reg_O.trans (by kernel_rfl)
@[go_sem] noncomputable def R_frames_New_7 (_base : Nat) (s : St) (v0 v6 v7 v25 v26 : V) : Option (Ex × Env × St) :=
  obind (nilv v6) fun x0 =>
  obind (fadv 80 2 78 x0) fun x1 =>
  obind (vbin .add v0 v7) fun x2 =>
  obind (rf D f_frames_set_turn [x1, x2] s) fun x3 =>
  some (.normal, [(0, v0), (6, v6), (25, v25), (26, v26)], x3.2)
@[go_sem] theorem rc_frames_New_7 {base : Nat} {ρ : Env} {s : St} : rc D base (.reg (some [0, 6, 25, 26]) o_frames_New_7) ρ s = R_frames_New_7 base s (get ρ 0) (get ρ 6) (get ρ 7) (get ρ 25) (get ρ 26) := rc_reg_O.trans (by kernel_rfl)
@[go_sem] noncomputable def R_frames_New_8 (_base : Nat) (s : St) (v0 v6 v25 v26 : V) : Option (Ex × Env × St) :=
  obind (vbin .add v26 (.int .i64 1)) fun x0 =>
  some (.normal, [(0, v0), (6, v6), (25, v25), (26, x0)], s)
@[go_sem] theorem rc_frames_New_8 {base : Nat} {ρ : Env} {s : St} : rc D base (.reg (some [0, 6, 25, 26]) o_frames_New_8) ρ s = R_frames_New_8 base s (get ρ 0) (get ρ 6) (get ρ 25) (get ρ 26) := rc_reg_O.trans (by kernel_rfl)
@[go_sem] noncomputable def R_frames_New_9 (_base : Nat) (s : St) (v6 : V) : Option (Ex × Env × St) :=
  some (.normal, [(4, v6), (5, (.int .i64 0))], s)
@[go_sem] theorem rc_frames_New_9 {base : Nat} {ρ : Env} {s : St} : rc D base (.reg (some [4, 5]) o_frames_New_9) ρ s = R_frames_New_9 base s (get ρ 6) := rc_reg_O.trans (by kernel_rfl)

@[go_sem] noncomputable def R_nvm_Memory_Lines_0 (_base : Nat) (s : St) (v0 : V) : Option (Ex × Env × St) :=
  some (.normal, [(0, v0)], s)
@[go_sem] theorem rc_nvm_Memory_Lines_0 {base : Nat} {ρ : Env} {s : St} : rc D base (.reg (some [0]) o_nvm_Memory_Lines_0) ρ s = R_nvm_Memory_Lines_0 base s (get ρ 0) := rc_reg_O.trans (by kernel_rfl)
@[go_sem] noncomputable def R_nvm_Memory_Lines_1 (_base : Nat) (s : St) (v0 : V) : Option (Ex × Env × St) :=
  obind (nilv v0) fun x0 =>
  obind (fadv 59 0 1 x0) fun x1 =>
  obind (ldv s 1 x1) fun x2 =>
  obind (V.slen false x2) fun x3 =>
  some (.normal, [(2, (.int .i64 x3))], s)
@[go_sem] theorem rc_nvm_Memory_Lines_1 {base : Nat} {ρ : Env} {s : St} : rc D base (.reg (some [2]) o_nvm_Memory_Lines_1) ρ s = R_nvm_Memory_Lines_1 base s (get ρ 0) := rc_reg_O.trans (by kernel_rfl)

@[go_sem] noncomputable def R_frames_Frames_Take_0 (_base : Nat) (s : St) (v0 v1 : V) : Option (Ex × Env × St) :=
  some (.normal, [(0, v0), (1, v1)], s)
@[go_sem] theorem rc_frames_Frames_Take_0 {base : Nat} {ρ : Env} {s : St} : rc D base (.reg (some [0, 1]) o_frames_Frames_Take_0) ρ s = R_frames_Frames_Take_0 base s (get ρ 0) (get ρ 1) := rc_reg_O.trans (by kernel_rfl)
@[go_sem] noncomputable def R_frames_Frames_Take_1 (_base : Nat) (s : St) (v0 v1 : V) : Option (Ex × Env × St) :=
  obind (rf D f_frames_Frames_in [v0, v1, (.int .i64 0)] s) fun x0 =>
  some (.normal, [(0, v0), (1, v1), (5, x0.1)], x0.2)
@[go_sem] theorem rc_frames_Frames_Take_1 {base : Nat} {ρ : Env} {s : St} : rc D base (.reg (some [0, 1, 5]) o_frames_Frames_Take_1) ρ s = R_frames_Frames_Take_1 base s (get ρ 0) (get ρ 1) := rc_reg_O.trans (by kernel_rfl)
@[go_sem] noncomputable def R_frames_Frames_Take_2 (_base : Nat) (s : St) (v0 v1 v5 : V) : Option (Ex × Env × St) :=
  obind (vbin .eql v5 (.int .i64 0)) fun x0 =>
  some (.normal, [(0, v0), (1, v1), (5, v5), (10, x0)], s)
@[go_sem] theorem rc_frames_Frames_Take_2 {base : Nat} {ρ : Env} {s : St} : rc D base (.reg (some [0, 1, 5, 10]) o_frames_Frames_Take_2) ρ s = R_frames_Frames_Take_2 base s (get ρ 0) (get ρ 1) (get ρ 5) := rc_reg_O.trans (by kernel_rfl)
@[go_sem] noncomputable def R_frames_Frames_Take_3 (_base : Nat) (s : St) (v0 v1 v5 : V) : Option (Ex × Env × St) :=
  obind (nilv v0) fun x0 =>
  obind (fadv 80 2 78 x0) fun x1 =>
  obind (rf D f_frames_set_turn [x1, v1] s) fun x2 =>
  some (.normal, [(5, v5)], x2.2)
@[go_sem] theorem rc_frames_Frames_Take_3 {base : Nat} {ρ : Env} {s : St} : rc D base (.reg (some [5]) o_frames_Frames_Take_3) ρ s = R_frames_Frames_Take_3 base s (get ρ 0) (get ρ 1) (get ρ 5) := rc_reg_O.trans (by kernel_rfl)
@[go_sem] noncomputable def R_frames_Frames_Take_4 (_base : Nat) (s : St) (v5 : V) : Option (Ex × Env × St) :=
  some (.normal, [(4, v5)], s)
@[go_sem] theorem rc_frames_Frames_Take_4 {base : Nat} {ρ : Env} {s : St} : rc D base (.reg (some [4]) o_frames_Frames_Take_4) ρ s = R_frames_Frames_Take_4 base s (get ρ 5) := rc_reg_O.trans (by kernel_rfl)

@[go_sem] noncomputable def R_objects_Store_share_0 (base : Nat) (s : St) (v0 : V) : Option (Ex × Env × St) :=
  obind (setParts (List.replicate 1024 (.bool false)) []) fun x0 =>
  obind (nilv v0) fun x1 =>
  obind (fadv 43 7 82 x1) fun x2 =>
  obind (stv base s 82 (.agg 82 x0) x2) fun s3 =>
  some (.normal, [(0, v0)], s3)
@[go_sem] theorem rc_objects_Store_share_0 {base : Nat} {ρ : Env} {s : St} : rc D base (.reg (some [0]) o_objects_Store_share_0) ρ s = R_objects_Store_share_0 base s (get ρ 0) := rc_reg_O.trans (by kernel_rfl)
@[go_sem] noncomputable def R_objects_Store_share_1 (_base : Nat) (s : St) (v0 : V) : Option (Ex × Env × St) :=
  obind (nilv v0) fun x0 =>
  obind (fadv 43 7 82 x0) fun x1 =>
  obind (nilv v0) fun x2 =>
  obind (fadv 43 3 48 x2) fun x3 =>
  obind (ldv s 48 x3) fun x4 =>
  obind (rf D f_objects_lines_add [x1, x4] s) fun x5 =>
  some (.normal, [(0, v0)], x5.2)
@[go_sem] theorem rc_objects_Store_share_1 {base : Nat} {ρ : Env} {s : St} : rc D base (.regd (some [0]) o_objects_Store_share_1) ρ s = R_objects_Store_share_1 base s (get ρ 0) := rc_regd_O.trans (by kernel_rfl)
@[go_sem] noncomputable def R_objects_Store_share_2 (_base : Nat) (s : St) (v0 : V) : Option (Ex × Env × St) :=
  obind (nilv v0) fun x0 =>
  obind (fadv 43 6 0 x0) fun x1 =>
  obind (ldv s 0 x1) fun x2 =>
  some (.normal, [(0, v0), (17, x2)], s)
@[go_sem] theorem rc_objects_Store_share_2 {base : Nat} {ρ : Env} {s : St} : rc D base (.reg (some [0, 17]) o_objects_Store_share_2) ρ s = R_objects_Store_share_2 base s (get ρ 0) := rc_reg_O.trans (by kernel_rfl)
@[go_sem] noncomputable def R_objects_Store_share_3 (_base : Nat) (s : St) (v0 : V) : Option (Ex × Env × St) :=
  obind (nilv v0) fun x0 =>
  obind (fadv 43 7 82 x0) fun x1 =>
  obind (nilv v0) fun x2 =>
  obind (fadv 43 5 48 x2) fun x3 =>
  obind (ldv s 48 x3) fun x4 =>
  obind (rf D f_objects_lines_add [x1, x4] s) fun x5 =>
  some (.normal, [], x5.2)
@[go_sem] theorem rc_objects_Store_share_3 {base : Nat} {ρ : Env} {s : St} : rc D base (.regd (some []) o_objects_Store_share_3) ρ s = R_objects_Store_share_3 base s (get ρ 0) := rc_regd_O.trans (by kernel_rfl)

@[go_sem] noncomputable def R_steadfastref04_New_0 (_base : Nat) (s : St) (v0 v1 : V) : Option (Ex × Env × St) :=
  some (.normal, [(0, v0), (1, v1)], s)
@[go_sem] theorem rc_steadfastref04_New_0 {base : Nat} {ρ : Env} {s : St} : rc D base (.reg (some [0, 1]) o_steadfastref04_New_0) ρ s = R_steadfastref04_New_0 base s (get ρ 0) (get ρ 1) := rc_reg_O.trans (by kernel_rfl)
@[go_sem] noncomputable def R_steadfastref04_New_1 (_base : Nat) (s : St) (v0 v1 : V) : Option (Ex × Env × St) :=
  obind (vbin .lss v0 (.int .i64 0)) fun x0 =>
  oguard x0 false (
    obind (vbin .gtr v0 v1) fun x1 =>
    oguard x1 false (
      obind (vbin .gtr v1 (.int .i64 1024)) fun x2 =>
      some (.normal, [(0, v0), (1, v1), (16, x2)], s)) (
      some (.normal, [(0, v0), (1, v1), (16, (.bool true))], s)) (
      none)) (
    some (.normal, [(0, v0), (1, v1), (16, (.bool true))], s)) (
    none)
@[go_sem] theorem rc_steadfastref04_New_1 {base : Nat} {ρ : Env} {s : St} : rc D base (.reg (some [0, 1, 16]) o_steadfastref04_New_1) ρ s = R_steadfastref04_New_1 base s (get ρ 0) (get ρ 1) := rc_reg_O.trans (by kernel_rfl)
@[go_sem] noncomputable def R_steadfastref04_New_2 (_base : Nat) (s : St) : Option (Ex × Env × St) :=
  some (.normal, [(4, .nilp), (5, (.int .i64 1))], s)
@[go_sem] theorem rc_steadfastref04_New_2 {base : Nat} {ρ : Env} {s : St} : rc D base (.reg (some [4, 5]) o_steadfastref04_New_2) ρ s = R_steadfastref04_New_2 base s := rc_reg_O.trans (by kernel_rfl)
@[go_sem] noncomputable def R_steadfastref04_New_3 (_base : Nat) (s : St) (v0 v1 : V) : Option (Ex × Env × St) :=
  obind (vbin .sub v1 v0) fun x0 =>
  obind (mkslv true 38 10 (.int .i64 0) s x0 x0) fun x1 =>
  obind (setParts [(.int .i64 0), .nils] [(0, v0), (1, x1.1)]) fun x2 =>
  if V.ok (.agg 21 x2) && mayNew true (.agg 21 x2) then let x3 : V := .ptr (St.fresh x1.2 true) [] (V.tag (.agg 21 x2)); let s3 : St := St.new x1.2 true (.agg 21 x2)
  some (.normal, [(4, x3), (5, (.int .i64 0))], s3)
  else none
@[go_sem] theorem rc_steadfastref04_New_3 {base : Nat} {ρ : Env} {s : St} : rc D base (.reg (some [4, 5]) o_steadfastref04_New_3) ρ s = R_steadfastref04_New_3 base s (get ρ 0) (get ρ 1) := rc_reg_O.trans (by kernel_rfl)

@[go_sem] noncomputable def R_steadfastref10_lines_0 (_base : Nat) (s : St) (v0 : V) : Option (Ex × Env × St) :=
  if V.ok v0 && mayNew false v0 then let x0 : V := .ptr (St.fresh s false) [] (V.tag v0); let s0 : St := St.new s false v0
  some (.normal, [(1, x0)], s0)
  else none
@[go_sem] theorem rc_steadfastref10_lines_0 {base : Nat} {ρ : Env} {s : St} : rc D base (.reg (some [1]) o_steadfastref10_lines_0) ρ s = R_steadfastref10_lines_0 base s (get ρ 0) := rc_reg_O.trans (by kernel_rfl)
@[go_sem] noncomputable def R_steadfastref10_lines_1 (_base : Nat) (s : St) (v1 : V) : Option (Ex × Env × St) :=
  some (.normal, [(1, v1), (3, .nils)], s)
@[go_sem] theorem rc_steadfastref10_lines_1 {base : Nat} {ρ : Env} {s : St} : rc D base (.reg (some [1, 3]) o_steadfastref10_lines_1) ρ s = R_steadfastref10_lines_1 base s (get ρ 1) := rc_reg_O.trans (by kernel_rfl)
@[go_sem] noncomputable def R_steadfastref10_lines_2 (_base : Nat) (s : St) (v1 v3 : V) : Option (Ex × Env × St) :=
  some (.normal, [(1, v1), (3, v3), (4, (.int .i64 0))], s)
@[go_sem] theorem rc_steadfastref10_lines_2 {base : Nat} {ρ : Env} {s : St} : rc D base (.reg (some [1, 3, 4]) o_steadfastref10_lines_2) ρ s = R_steadfastref10_lines_2 base s (get ρ 1) (get ρ 3) := rc_reg_O.trans (by kernel_rfl)
@[go_sem] noncomputable def R_steadfastref10_lines_3 (_base : Nat) (s : St) (v1 v3 v4 : V) : Option (Ex × Env × St) :=
  obind (vbin .lss v4 (.int .i64 49)) fun x0 =>
  some (.normal, [(1, v1), (3, v3), (4, v4), (6, x0)], s)
@[go_sem] theorem rc_steadfastref10_lines_3 {base : Nat} {ρ : Env} {s : St} : rc D base (.reg (some [1, 3, 4, 6]) o_steadfastref10_lines_3) ρ s = R_steadfastref10_lines_3 base s (get ρ 1) (get ρ 3) (get ρ 4) := rc_reg_O.trans (by kernel_rfl)
@[go_sem] noncomputable def R_steadfastref10_lines_4 (_base : Nat) (s : St) (v1 v3 v4 : V) : Option (Ex × Env × St) :=
  obind (iadv 48 49 42 v1 v4) fun x0 =>
  obind (fadv 42 0 10 x0) fun x1 =>
  obind (ldv s 10 x1) fun x2 =>
  obind (vbin .neq x2 (.int .i64 0)) fun x3 =>
  some (.normal, [(1, v1), (3, v3), (4, v4), (13, x3)], s)
@[go_sem] theorem rc_steadfastref10_lines_4 {base : Nat} {ρ : Env} {s : St} : rc D base (.reg (some [1, 3, 4, 13]) o_steadfastref10_lines_4) ρ s = R_steadfastref10_lines_4 base s (get ρ 1) (get ρ 3) (get ρ 4) := rc_reg_O.trans (by kernel_rfl)
@[go_sem] noncomputable def R_steadfastref10_lines_5 (base : Nat) (s : St) (v1 v3 v4 : V) : Option (Ex × Env × St) :=
  obind (iadv 48 49 42 v1 v4) fun x0 =>
  obind (fadv 42 2 10 x0) fun x1 =>
  obind (ldv s 10 x1) fun x2 =>
  obind (bslv false 38 10 1 (.int .i64 0) s [(0, x2)]) fun x3 =>
  obind (vappend base true 38 10 v3 x3.1 x3.2) fun x4 =>
  some (.normal, [(1, v1), (3, x4.1), (4, v4)], x4.2)
@[go_sem] theorem rc_steadfastref10_lines_5 {base : Nat} {ρ : Env} {s : St} : rc D base (.reg (some [1, 3, 4]) o_steadfastref10_lines_5) ρ s = R_steadfastref10_lines_5 base s (get ρ 1) (get ρ 3) (get ρ 4) := rc_reg_O.trans (by kernel_rfl)
@[go_sem] noncomputable def R_steadfastref10_lines_6 (_base : Nat) (s : St) (v1 v3 v4 : V) : Option (Ex × Env × St) :=
  obind (vbin .add v4 (.int .i64 1)) fun x0 =>
  some (.normal, [(1, v1), (3, v3), (4, x0)], s)
@[go_sem] theorem rc_steadfastref10_lines_6 {base : Nat} {ρ : Env} {s : St} : rc D base (.reg (some [1, 3, 4]) o_steadfastref10_lines_6) ρ s = R_steadfastref10_lines_6 base s (get ρ 1) (get ρ 3) (get ρ 4) := rc_reg_O.trans (by kernel_rfl)
@[go_sem] noncomputable def R_steadfastref10_lines_7 (_base : Nat) (s : St) (v3 : V) : Option (Ex × Env × St) :=
  some (.normal, [(2, v3)], s)
@[go_sem] theorem rc_steadfastref10_lines_7 {base : Nat} {ρ : Env} {s : St} : rc D base (.reg (some [2]) o_steadfastref10_lines_7) ρ s = R_steadfastref10_lines_7 base s (get ρ 3) := rc_reg_O.trans (by kernel_rfl)

@[go_sem] noncomputable def R_steadfastref04_Frames_Take_0 (_base : Nat) (s : St) (v0 v1 : V) : Option (Ex × Env × St) :=
  some (.normal, [(0, v0), (1, v1)], s)
@[go_sem] theorem rc_steadfastref04_Frames_Take_0 {base : Nat} {ρ : Env} {s : St} : rc D base (.reg (some [0, 1]) o_steadfastref04_Frames_Take_0) ρ s = R_steadfastref04_Frames_Take_0 base s (get ρ 0) (get ρ 1) := rc_reg_O.trans (by kernel_rfl)
@[go_sem] noncomputable def R_steadfastref04_Frames_Take_1 (_base : Nat) (s : St) (v0 v1 : V) : Option (Ex × Env × St) :=
  obind (rf D f_steadfastref04_Frames_turn [v0, v1, (.int .i64 0), (.int .i64 1)] s) fun x0 =>
  some (.normal, [(4, x0.1)], x0.2)
@[go_sem] theorem rc_steadfastref04_Frames_Take_1 {base : Nat} {ρ : Env} {s : St} : rc D base (.reg (some [4]) o_steadfastref04_Frames_Take_1) ρ s = R_steadfastref04_Frames_Take_1 base s (get ρ 0) (get ρ 1) := rc_reg_O.trans (by kernel_rfl)

@[go_sem] noncomputable def R_caps_May_0 (_base : Nat) (s : St) (v0 v1 v2 : V) : Option (Ex × Env × St) :=
  some (.normal, [(0, v0), (1, v1), (2, v2)], s)
@[go_sem] theorem rc_caps_May_0 {base : Nat} {ρ : Env} {s : St} : rc D base (.reg (some [0, 1, 2]) o_caps_May_0) ρ s = R_caps_May_0 base s (get ρ 0) (get ρ 1) (get ρ 2) := rc_reg_O.trans (by kernel_rfl)
@[go_sem] noncomputable def R_caps_May_1 (base : Nat) (s : St) (v0 v1 v2 : V) : Option (Ex × Env × St) :=
  obind (rf D f_caps_Of [v0] s) fun x0 =>
  obind (extv 0 x0.1) fun x1 =>
  obind (extv 1 x0.1) fun x2 =>
  let x3 : V := .ptr (St.fresh x0.2 false) [] 40; let s3 : St := St.new x0.2 false (.agg 40 [(.int .i64 0), (.int .i64 0), (.int .i64 0), (.int .i64 0), (.int .i64 0)])
  obind (stv base s3 40 x1 x3) fun s4 =>
  some (.normal, [(1, v1), (2, v2), (7, x3), (8, x2)], s4)
@[go_sem] theorem rc_caps_May_1 {base : Nat} {ρ : Env} {s : St} : rc D base (.reg (some [1, 2, 7, 8]) o_caps_May_1) ρ s = R_caps_May_1 base s (get ρ 0) (get ρ 1) (get ρ 2) := rc_reg_O.trans (by kernel_rfl)
@[go_sem] noncomputable def R_caps_May_2 (_base : Nat) (s : St) (v1 v2 v7 v8 : V) : Option (Ex × Env × St) :=
  obind (vun .not v8) fun x0 =>
  some (.normal, [(1, v1), (2, v2), (7, v7), (14, x0)], s)
@[go_sem] theorem rc_caps_May_2 {base : Nat} {ρ : Env} {s : St} : rc D base (.reg (some [1, 2, 7, 14]) o_caps_May_2) ρ s = R_caps_May_2 base s (get ρ 1) (get ρ 2) (get ρ 7) (get ρ 8) := rc_reg_O.trans (by kernel_rfl)
@[go_sem] noncomputable def R_caps_May_3 (_base : Nat) (s : St) (v1 v2 v7 : V) : Option (Ex × Env × St) :=
  obind (fadv 40 0 10 v7) fun x0 =>
  obind (ldv s 10 x0) fun x1 =>
  obind (vbin .neq x1 v1) fun x2 =>
  some (.normal, [(2, v2), (7, v7), (14, x2)], s)
@[go_sem] theorem rc_caps_May_3 {base : Nat} {ρ : Env} {s : St} : rc D base (.reg (some [2, 7, 14]) o_caps_May_3) ρ s = R_caps_May_3 base s (get ρ 1) (get ρ 2) (get ρ 7) := rc_reg_O.trans (by kernel_rfl)
@[go_sem] noncomputable def R_caps_May_4 (_base : Nat) (s : St) : Option (Ex × Env × St) :=
  some (.normal, [(6, (.int .i64 31))], s)
@[go_sem] theorem rc_caps_May_4 {base : Nat} {ρ : Env} {s : St} : rc D base (.reg (some [6]) o_caps_May_4) ρ s = R_caps_May_4 base s := rc_reg_O.trans (by kernel_rfl)
@[go_sem] noncomputable def R_caps_May_5 (_base : Nat) (s : St) (v2 v7 : V) : Option (Ex × Env × St) :=
  obind (fadv 40 1 10 v7) fun x0 =>
  obind (ldv s 10 x0) fun x1 =>
  obind (vbin .andNot v2 x1) fun x2 =>
  obind (vbin .neq x2 (.int .i64 0)) fun x3 =>
  some (.normal, [(21, x3)], s)
@[go_sem] theorem rc_caps_May_5 {base : Nat} {ρ : Env} {s : St} : rc D base (.reg (some [21]) o_caps_May_5) ρ s = R_caps_May_5 base s (get ρ 2) (get ρ 7) := rc_reg_O.trans (by kernel_rfl)
@[go_sem] noncomputable def R_caps_May_6 (_base : Nat) (s : St) : Option (Ex × Env × St) :=
  some (.normal, [(6, (.int .i64 32))], s)
@[go_sem] theorem rc_caps_May_6 {base : Nat} {ρ : Env} {s : St} : rc D base (.reg (some [6]) o_caps_May_6) ρ s = R_caps_May_6 base s := rc_reg_O.trans (by kernel_rfl)
@[go_sem] noncomputable def R_caps_May_7 (_base : Nat) (s : St) : Option (Ex × Env × St) :=
  some (.normal, [(6, (.int .i64 0))], s)
@[go_sem] theorem rc_caps_May_7 {base : Nat} {ρ : Env} {s : St} : rc D base (.reg (some [6]) o_caps_May_7) ρ s = R_caps_May_7 base s := rc_reg_O.trans (by kernel_rfl)

@[go_sem] noncomputable def R_entry_Open_0 (_base : Nat) (s : St) (v0 : V) : Option (Ex × Env × St) :=
  if V.ok v0 && mayNew false v0 then let x0 : V := .ptr (St.fresh s false) [] (V.tag v0); let s0 : St := St.new s false v0
  some (.normal, [(1, x0)], s0)
  else none
@[go_sem] theorem rc_entry_Open_0 {base : Nat} {ρ : Env} {s : St} : rc D base (.reg (some [1]) o_entry_Open_0) ρ s = R_entry_Open_0 base s (get ρ 0) := rc_reg_O.trans (by kernel_rfl)
@[go_sem] noncomputable def R_entry_Open_1 (_base : Nat) (s : St) (v1 : V) : Option (Ex × Env × St) :=
  obind (fadv 42 0 10 v1) fun x0 =>
  obind (ldv s 10 x0) fun x1 =>
  obind (vbin .eql x1 (.int .i64 0)) fun x2 =>
  oguard x2 true (
    obind (fadv 42 1 10 v1) fun x3 =>
    obind (ldv s 10 x3) fun x4 =>
    obind (vbin .lss x4 (.int .i64 16777215)) fun x5 =>
    some (.normal, [(2, x5)], s)) (
    some (.normal, [(2, (.bool false))], s)) (
    none)
@[go_sem] theorem rc_entry_Open_1 {base : Nat} {ρ : Env} {s : St} : rc D base (.reg (some [2]) o_entry_Open_1) ρ s = R_entry_Open_1 base s (get ρ 1) := rc_reg_O.trans (by kernel_rfl)

@[go_sem] noncomputable def R_steadfastref08_Names_0 (_base : Nat) (s : St) (v0 v1 v2 : V) : Option (Ex × Env × St) :=
  if V.ok v0 && mayNew false v0 then let x0 : V := .ptr (St.fresh s false) [] (V.tag v0); let s0 : St := St.new s false v0
  some (.normal, [(1, v1), (2, v2), (3, x0)], s0)
  else none
@[go_sem] theorem rc_steadfastref08_Names_0 {base : Nat} {ρ : Env} {s : St} : rc D base (.reg (some [1, 2, 3]) o_steadfastref08_Names_0) ρ s = R_steadfastref08_Names_0 base s (get ρ 0) (get ρ 1) (get ρ 2) := rc_reg_O.trans (by kernel_rfl)
@[go_sem] noncomputable def R_steadfastref08_Names_1 (base : Nat) (s : St) (v1 v2 v3 : V) : Option (Ex × Env × St) :=
  obind (rf D f_steadfastref07_Of [v2] s) fun x0 =>
  obind (extv 0 x0.1) fun x1 =>
  obind (extv 1 x0.1) fun x2 =>
  let x3 : V := .ptr (St.fresh x0.2 false) [] 40; let s3 : St := St.new x0.2 false (.agg 40 [(.int .i64 0), (.int .i64 0), (.int .i64 0), (.int .i64 0), (.int .i64 0)])
  obind (stv base s3 40 x1 x3) fun s4 =>
  some (.normal, [(1, v1), (3, v3), (7, x3), (8, x2)], s4)
@[go_sem] theorem rc_steadfastref08_Names_1 {base : Nat} {ρ : Env} {s : St} : rc D base (.reg (some [1, 3, 7, 8]) o_steadfastref08_Names_1) ρ s = R_steadfastref08_Names_1 base s (get ρ 1) (get ρ 2) (get ρ 3) := rc_reg_O.trans (by kernel_rfl)
@[go_sem] noncomputable def R_steadfastref08_Names_2 (_base : Nat) (s : St) (v1 v3 v7 v8 : V) : Option (Ex × Env × St) :=
  obind (vun .not v8) fun x0 =>
  oguard x0 false (
    obind (fadv 40 0 10 v7) fun x1 =>
    obind (ldv s 10 x1) fun x2 =>
    obind (vbin .eql x2 (.int .i64 5)) fun x3 =>
    oguard x3 false (
      obind (fadv 40 0 10 v7) fun x4 =>
      obind (ldv s 10 x4) fun x5 =>
      obind (vbin .eql x5 (.int .i64 6)) fun x6 =>
      some (.normal, [(1, v1), (3, v3), (7, v7), (25, x6)], s)) (
      some (.normal, [(1, v1), (3, v3), (7, v7), (25, (.bool true))], s)) (
      none)) (
    some (.normal, [(1, v1), (3, v3), (7, v7), (25, (.bool true))], s)) (
    none)
@[go_sem] theorem rc_steadfastref08_Names_2 {base : Nat} {ρ : Env} {s : St} : rc D base (.reg (some [1, 3, 7, 25]) o_steadfastref08_Names_2) ρ s = R_steadfastref08_Names_2 base s (get ρ 1) (get ρ 3) (get ρ 7) (get ρ 8) := rc_reg_O.trans (by kernel_rfl)
@[go_sem] noncomputable def R_steadfastref08_Names_3 (_base : Nat) (s : St) : Option (Ex × Env × St) :=
  some (.normal, [(6, (.int .i64 31))], s)
@[go_sem] theorem rc_steadfastref08_Names_3 {base : Nat} {ρ : Env} {s : St} : rc D base (.reg (some [6]) o_steadfastref08_Names_3) ρ s = R_steadfastref08_Names_3 base s := rc_reg_O.trans (by kernel_rfl)
@[go_sem] noncomputable def R_steadfastref08_Names_4 (_base : Nat) (s : St) (v1 v3 v7 : V) : Option (Ex × Env × St) :=
  obind (fadv 40 2 10 v7) fun x0 =>
  obind (ldv s 10 x0) fun x1 =>
  obind (vbin .neq x1 v1) fun x2 =>
  some (.normal, [(3, v3), (7, v7), (29, x2)], s)
@[go_sem] theorem rc_steadfastref08_Names_4 {base : Nat} {ρ : Env} {s : St} : rc D base (.reg (some [3, 7, 29]) o_steadfastref08_Names_4) ρ s = R_steadfastref08_Names_4 base s (get ρ 1) (get ρ 3) (get ρ 7) := rc_reg_O.trans (by kernel_rfl)
@[go_sem] noncomputable def R_steadfastref08_Names_5 (_base : Nat) (s : St) : Option (Ex × Env × St) :=
  some (.normal, [(6, (.int .i64 30))], s)
@[go_sem] theorem rc_steadfastref08_Names_5 {base : Nat} {ρ : Env} {s : St} : rc D base (.reg (some [6]) o_steadfastref08_Names_5) ρ s = R_steadfastref08_Names_5 base s := rc_reg_O.trans (by kernel_rfl)
@[go_sem] noncomputable def R_steadfastref08_Names_6 (_base : Nat) (s : St) (v3 v7 : V) : Option (Ex × Env × St) :=
  obind (fadv 40 3 10 v7) fun x0 =>
  obind (ldv s 10 x0) fun x1 =>
  obind (fadv 42 1 10 v3) fun x2 =>
  obind (ldv s 10 x2) fun x3 =>
  obind (vbin .neq x1 x3) fun x4 =>
  some (.normal, [(3, v3), (7, v7), (34, x4)], s)
@[go_sem] theorem rc_steadfastref08_Names_6 {base : Nat} {ρ : Env} {s : St} : rc D base (.reg (some [3, 7, 34]) o_steadfastref08_Names_6) ρ s = R_steadfastref08_Names_6 base s (get ρ 3) (get ρ 7) := rc_reg_O.trans (by kernel_rfl)
@[go_sem] noncomputable def R_steadfastref08_Names_7 (_base : Nat) (s : St) : Option (Ex × Env × St) :=
  some (.normal, [(6, (.int .i64 33))], s)
@[go_sem] theorem rc_steadfastref08_Names_7 {base : Nat} {ρ : Env} {s : St} : rc D base (.reg (some [6]) o_steadfastref08_Names_7) ρ s = R_steadfastref08_Names_7 base s := rc_reg_O.trans (by kernel_rfl)
@[go_sem] noncomputable def R_steadfastref08_Names_8 (_base : Nat) (s : St) (v3 v7 : V) : Option (Ex × Env × St) :=
  obind (fadv 42 0 10 v3) fun x0 =>
  obind (ldv s 10 x0) fun x1 =>
  obind (vbin .eql x1 (.int .i64 0)) fun x2 =>
  some (.normal, [(3, v3), (7, v7), (37, x2)], s)
@[go_sem] theorem rc_steadfastref08_Names_8 {base : Nat} {ρ : Env} {s : St} : rc D base (.reg (some [3, 7, 37]) o_steadfastref08_Names_8) ρ s = R_steadfastref08_Names_8 base s (get ρ 3) (get ρ 7) := rc_reg_O.trans (by kernel_rfl)
@[go_sem] noncomputable def R_steadfastref08_Names_9 (_base : Nat) (s : St) : Option (Ex × Env × St) :=
  some (.normal, [(6, (.int .i64 30))], s)
@[go_sem] theorem rc_steadfastref08_Names_9 {base : Nat} {ρ : Env} {s : St} : rc D base (.reg (some [6]) o_steadfastref08_Names_9) ρ s = R_steadfastref08_Names_9 base s := rc_reg_O.trans (by kernel_rfl)
@[go_sem] noncomputable def R_steadfastref08_Names_10 (_base : Nat) (s : St) (v3 v7 : V) : Option (Ex × Env × St) :=
  obind (fadv 40 0 10 v7) fun x0 =>
  obind (ldv s 10 x0) fun x1 =>
  obind (fadv 42 0 10 v3) fun x2 =>
  obind (ldv s 10 x2) fun x3 =>
  obind (vbin .neq x1 x3) fun x4 =>
  some (.normal, [(42, x4)], s)
@[go_sem] theorem rc_steadfastref08_Names_10 {base : Nat} {ρ : Env} {s : St} : rc D base (.reg (some [42]) o_steadfastref08_Names_10) ρ s = R_steadfastref08_Names_10 base s (get ρ 3) (get ρ 7) := rc_reg_O.trans (by kernel_rfl)
@[go_sem] noncomputable def R_steadfastref08_Names_11 (_base : Nat) (s : St) : Option (Ex × Env × St) :=
  some (.normal, [(6, (.int .i64 31))], s)
@[go_sem] theorem rc_steadfastref08_Names_11 {base : Nat} {ρ : Env} {s : St} : rc D base (.reg (some [6]) o_steadfastref08_Names_11) ρ s = R_steadfastref08_Names_11 base s := rc_reg_O.trans (by kernel_rfl)
@[go_sem] noncomputable def R_steadfastref08_Names_12 (_base : Nat) (s : St) : Option (Ex × Env × St) :=
  some (.normal, [(6, (.int .i64 0))], s)
@[go_sem] theorem rc_steadfastref08_Names_12 {base : Nat} {ρ : Env} {s : St} : rc D base (.reg (some [6]) o_steadfastref08_Names_12) ρ s = R_steadfastref08_Names_12 base s := rc_reg_O.trans (by kernel_rfl)

@[go_sem] noncomputable def R_steadfastref10_Store_is_0 (_base : Nat) (s : St) (v0 v1 : V) : Option (Ex × Env × St) :=
  some (.normal, [(0, v0), (1, v1)], s)
@[go_sem] theorem rc_steadfastref10_Store_is_0 {base : Nat} {ρ : Env} {s : St} : rc D base (.reg (some [0, 1]) o_steadfastref10_Store_is_0) ρ s = R_steadfastref10_Store_is_0 base s (get ρ 0) (get ρ 1) := rc_reg_O.trans (by kernel_rfl)
@[go_sem] noncomputable def R_steadfastref10_Store_is_1 (_base : Nat) (s : St) (v0 v1 : V) : Option (Ex × Env × St) :=
  obind (vbin .lss v1 (.int .i64 0)) fun x0 =>
  oguard x0 false (
    obind (vbin .geq v1 (.int .i64 49)) fun x1 =>
    some (.normal, [(0, v0), (1, v1), (10, x1)], s)) (
    some (.normal, [(0, v0), (1, v1), (10, (.bool true))], s)) (
    none)
@[go_sem] theorem rc_steadfastref10_Store_is_1 {base : Nat} {ρ : Env} {s : St} : rc D base (.reg (some [0, 1, 10]) o_steadfastref10_Store_is_1) ρ s = R_steadfastref10_Store_is_1 base s (get ρ 0) (get ρ 1) := rc_reg_O.trans (by kernel_rfl)
@[go_sem] noncomputable def R_steadfastref10_Store_is_2 (_base : Nat) (s : St) : Option (Ex × Env × St) :=
  some (.normal, [(4, (.int .i64 1))], s)
@[go_sem] theorem rc_steadfastref10_Store_is_2 {base : Nat} {ρ : Env} {s : St} : rc D base (.reg (some [4]) o_steadfastref10_Store_is_2) ρ s = R_steadfastref10_Store_is_2 base s := rc_reg_O.trans (by kernel_rfl)
@[go_sem] noncomputable def R_steadfastref10_Store_is_3 (_base : Nat) (s : St) (v0 v1 : V) : Option (Ex × Env × St) :=
  obind (nilv v0) fun x0 =>
  obind (fadv 31 2 48 x0) fun x1 =>
  obind (iadv 48 49 42 x1 v1) fun x2 =>
  obind (fadv 42 0 10 x2) fun x3 =>
  obind (ldv s 10 x3) fun x4 =>
  obind (vbin .eql x4 (.int .i64 0)) fun x5 =>
  some (.normal, [(18, x5)], s)
@[go_sem] theorem rc_steadfastref10_Store_is_3 {base : Nat} {ρ : Env} {s : St} : rc D base (.reg (some [18]) o_steadfastref10_Store_is_3) ρ s = R_steadfastref10_Store_is_3 base s (get ρ 0) (get ρ 1) := rc_reg_O.trans (by kernel_rfl)
@[go_sem] noncomputable def R_steadfastref10_Store_is_4 (_base : Nat) (s : St) : Option (Ex × Env × St) :=
  some (.normal, [(4, (.int .i64 30))], s)
@[go_sem] theorem rc_steadfastref10_Store_is_4 {base : Nat} {ρ : Env} {s : St} : rc D base (.reg (some [4]) o_steadfastref10_Store_is_4) ρ s = R_steadfastref10_Store_is_4 base s := rc_reg_O.trans (by kernel_rfl)
@[go_sem] noncomputable def R_steadfastref10_Store_is_5 (_base : Nat) (s : St) : Option (Ex × Env × St) :=
  some (.normal, [(4, (.int .i64 0))], s)
@[go_sem] theorem rc_steadfastref10_Store_is_5 {base : Nat} {ρ : Env} {s : St} : rc D base (.reg (some [4]) o_steadfastref10_Store_is_5) ρ s = R_steadfastref10_Store_is_5 base s := rc_reg_O.trans (by kernel_rfl)

@[go_sem] noncomputable def R_steadfastref03_Memory_Load_0 (_base : Nat) (s : St) (v0 v1 : V) : Option (Ex × Env × St) :=
  let x0 : V := .ptr (St.fresh s false) [] 24; let s0 : St := St.new s false (.agg 24 (List.replicate 8 (.int .u64 0)))
  some (.normal, [(0, v0), (1, v1), (4, x0)], s0)
@[go_sem] theorem rc_steadfastref03_Memory_Load_0 {base : Nat} {ρ : Env} {s : St} : rc D base (.reg (some [0, 1, 4]) o_steadfastref03_Memory_Load_0) ρ s = R_steadfastref03_Memory_Load_0 base s (get ρ 0) (get ρ 1) := rc_reg_O.trans (by kernel_rfl)
@[go_sem] noncomputable def R_steadfastref03_Memory_Load_1 (_base : Nat) (s : St) (v0 v1 v4 : V) : Option (Ex × Env × St) :=
  obind (rf D f_steadfastref03_Memory_is [v0, v1] s) fun x0 =>
  obind (vun .not x0.1) fun x1 =>
  some (.normal, [(0, v0), (1, v1), (4, v4), (9, x1)], x0.2)
@[go_sem] theorem rc_steadfastref03_Memory_Load_1 {base : Nat} {ρ : Env} {s : St} : rc D base (.reg (some [0, 1, 4, 9]) o_steadfastref03_Memory_Load_1) ρ s = R_steadfastref03_Memory_Load_1 base s (get ρ 0) (get ρ 1) (get ρ 4) := rc_reg_O.trans (by kernel_rfl)
@[go_sem] noncomputable def R_steadfastref03_Memory_Load_2 (base : Nat) (s : St) (v4 : V) : Option (Ex × Env × St) :=
  obind (setParts (List.replicate 8 (.int .u64 0)) []) fun x0 =>
  obind (stv base s 24 (.agg 24 x0) v4) fun s1 =>
  some (.normal, [(4, v4), (5, (.int .i64 1))], s1)
@[go_sem] theorem rc_steadfastref03_Memory_Load_2 {base : Nat} {ρ : Env} {s : St} : rc D base (.reg (some [4, 5]) o_steadfastref03_Memory_Load_2) ρ s = R_steadfastref03_Memory_Load_2 base s (get ρ 4) := rc_reg_O.trans (by kernel_rfl)
@[go_sem] noncomputable def R_steadfastref03_Memory_Load_3 (_base : Nat) (s : St) (v0 v1 v4 : V) : Option (Ex × Env × St) :=
  obind (nilv v0) fun x0 =>
  obind (fadv 33 2 0 x0) fun x1 =>
  obind (ldv s 0 x1) fun x2 =>
  some (.normal, [(0, v0), (1, v1), (4, v4), (14, x2)], s)
@[go_sem] theorem rc_steadfastref03_Memory_Load_3 {base : Nat} {ρ : Env} {s : St} : rc D base (.reg (some [0, 1, 4, 14]) o_steadfastref03_Memory_Load_3) ρ s = R_steadfastref03_Memory_Load_3 base s (get ρ 0) (get ρ 1) (get ρ 4) := rc_reg_O.trans (by kernel_rfl)
@[go_sem] noncomputable def R_steadfastref03_Memory_Load_4 (base : Nat) (s : St) (v4 : V) : Option (Ex × Env × St) :=
  obind (setParts (List.replicate 8 (.int .u64 0)) []) fun x0 =>
  obind (stv base s 24 (.agg 24 x0) v4) fun s1 =>
  some (.normal, [(4, v4), (5, (.int .i64 4))], s1)
@[go_sem] theorem rc_steadfastref03_Memory_Load_4 {base : Nat} {ρ : Env} {s : St} : rc D base (.reg (some [4, 5]) o_steadfastref03_Memory_Load_4) ρ s = R_steadfastref03_Memory_Load_4 base s (get ρ 4) := rc_reg_O.trans (by kernel_rfl)
@[go_sem] noncomputable def R_steadfastref03_Memory_Load_5 (base : Nat) (s : St) (v0 v1 v4 : V) : Option (Ex × Env × St) :=
  obind (nilv v0) fun x0 =>
  obind (fadv 33 1 1 x0) fun x1 =>
  obind (ldv s 1 x1) fun x2 =>
  obind (sadv 1 x2 v1) fun x3 =>
  obind (ldv s 1 x3) fun x4 =>
  obind (V.slen false x4) fun x5 =>
  obind (rf D f_steadfastref03_Memory_has [v0, v1, (.int .i64 x5)] s) fun x6 =>
  obind (stv base x6.2 24 x6.1 v4) fun s7 =>
  some (.normal, [(4, v4), (5, (.int .i64 0))], s7)
@[go_sem] theorem rc_steadfastref03_Memory_Load_5 {base : Nat} {ρ : Env} {s : St} : rc D base (.reg (some [4, 5]) o_steadfastref03_Memory_Load_5) ρ s = R_steadfastref03_Memory_Load_5 base s (get ρ 0) (get ρ 1) (get ρ 4) := rc_reg_O.trans (by kernel_rfl)

@[go_sem] noncomputable def R_nvm_Memory_at_0 (_base : Nat) (s : St) (v0 v1 : V) : Option (Ex × Env × St) :=
  some (.normal, [(0, v0), (1, v1)], s)
@[go_sem] theorem rc_nvm_Memory_at_0 {base : Nat} {ρ : Env} {s : St} : rc D base (.reg (some [0, 1]) o_nvm_Memory_at_0) ρ s = R_nvm_Memory_at_0 base s (get ρ 0) (get ρ 1) := rc_reg_O.trans (by kernel_rfl)
@[go_sem] noncomputable def R_nvm_Memory_at_1 (_base : Nat) (s : St) (v0 v1 : V) : Option (Ex × Env × St) :=
  obind (vbin .lss v1 (.int .i64 0)) fun x0 =>
  oguard x0 false (
    obind (nilv v0) fun x1 =>
    obind (fadv 59 0 1 x1) fun x2 =>
    obind (ldv s 1 x2) fun x3 =>
    obind (V.slen false x3) fun x4 =>
    obind (vbin .geq v1 (.int .i64 x4)) fun x5 =>
    some (.normal, [(0, v0), (1, v1), (15, x5)], s)) (
    some (.normal, [(0, v0), (1, v1), (15, (.bool true))], s)) (
    none)
@[go_sem] theorem rc_nvm_Memory_at_1 {base : Nat} {ρ : Env} {s : St} : rc D base (.reg (some [0, 1, 15]) o_nvm_Memory_at_1) ρ s = R_nvm_Memory_at_1 base s (get ρ 0) (get ρ 1) := rc_reg_O.trans (by kernel_rfl)
@[go_sem] noncomputable def R_nvm_Memory_at_2 (_base : Nat) (s : St) : Option (Ex × Env × St) :=
  some (.normal, [(4, .nilp)], s)
@[go_sem] theorem rc_nvm_Memory_at_2 {base : Nat} {ρ : Env} {s : St} : rc D base (.reg (some [4]) o_nvm_Memory_at_2) ρ s = R_nvm_Memory_at_2 base s := rc_reg_O.trans (by kernel_rfl)
@[go_sem] noncomputable def R_nvm_Memory_at_3 (_base : Nat) (s : St) (v0 v1 : V) : Option (Ex × Env × St) :=
  obind (nilv v0) fun x0 =>
  obind (fadv 59 0 1 x0) fun x1 =>
  obind (ldv s 1 x1) fun x2 =>
  obind (sadv 55 x2 v1) fun x3 =>
  some (.normal, [(4, x3)], s)
@[go_sem] theorem rc_nvm_Memory_at_3 {base : Nat} {ρ : Env} {s : St} : rc D base (.reg (some [4]) o_nvm_Memory_at_3) ρ s = R_nvm_Memory_at_3 base s (get ρ 0) (get ρ 1) := rc_reg_O.trans (by kernel_rfl)

@[go_sem] noncomputable def R_frames_Frames_in_0 (_base : Nat) (s : St) (v0 v1 v2 : V) : Option (Ex × Env × St) :=
  some (.normal, [(0, v0), (1, v1), (2, v2)], s)
@[go_sem] theorem rc_frames_Frames_in_0 {base : Nat} {ρ : Env} {s : St} : rc D base (.reg (some [0, 1, 2]) o_frames_Frames_in_0) ρ s = R_frames_Frames_in_0 base s (get ρ 0) (get ρ 1) (get ρ 2) := rc_reg_O.trans (by kernel_rfl)
@[go_sem] noncomputable def R_frames_Frames_in_1 (_base : Nat) (s : St) (v0 v1 v2 : V) : Option (Ex × Env × St) :=
  obind (rf D f_frames_Frames_State [v0, v1] s) fun x0 =>
  some (.normal, [(2, v2), (9, x0.1)], x0.2)
@[go_sem] theorem rc_frames_Frames_in_1 {base : Nat} {ρ : Env} {s : St} : rc D base (.reg (some [2, 9]) o_frames_Frames_in_1) ρ s = R_frames_Frames_in_1 base s (get ρ 0) (get ρ 1) (get ρ 2) := rc_reg_O.trans (by kernel_rfl)
@[go_sem] noncomputable def R_frames_Frames_in_2 (_base : Nat) (s : St) (v2 v9 : V) : Option (Ex × Env × St) :=
  obind (vbin .eql v9 (.int .i64 (-1))) fun x0 =>
  some (.normal, [(2, v2), (9, v9), (10, x0)], s)
@[go_sem] theorem rc_frames_Frames_in_2 {base : Nat} {ρ : Env} {s : St} : rc D base (.reg (some [2, 9, 10]) o_frames_Frames_in_2) ρ s = R_frames_Frames_in_2 base s (get ρ 2) (get ρ 9) := rc_reg_O.trans (by kernel_rfl)
@[go_sem] noncomputable def R_frames_Frames_in_3 (_base : Nat) (s : St) : Option (Ex × Env × St) :=
  some (.normal, [(6, (.int .i64 1))], s)
@[go_sem] theorem rc_frames_Frames_in_3 {base : Nat} {ρ : Env} {s : St} : rc D base (.reg (some [6]) o_frames_Frames_in_3) ρ s = R_frames_Frames_in_3 base s := rc_reg_O.trans (by kernel_rfl)
@[go_sem] noncomputable def R_frames_Frames_in_4 (_base : Nat) (s : St) (v2 v9 : V) : Option (Ex × Env × St) :=
  obind (vbin .eql v9 v2) fun x0 =>
  some (.normal, [(12, x0)], s)
@[go_sem] theorem rc_frames_Frames_in_4 {base : Nat} {ρ : Env} {s : St} : rc D base (.reg (some [12]) o_frames_Frames_in_4) ρ s = R_frames_Frames_in_4 base s (get ρ 2) (get ρ 9) := rc_reg_O.trans (by kernel_rfl)
@[go_sem] noncomputable def R_frames_Frames_in_5 (_base : Nat) (s : St) : Option (Ex × Env × St) :=
  some (.normal, [(6, (.int .i64 0))], s)
@[go_sem] theorem rc_frames_Frames_in_5 {base : Nat} {ρ : Env} {s : St} : rc D base (.reg (some [6]) o_frames_Frames_in_5) ρ s = R_frames_Frames_in_5 base s := rc_reg_O.trans (by kernel_rfl)
@[go_sem] noncomputable def R_frames_Frames_in_6 (_base : Nat) (s : St) : Option (Ex × Env × St) :=
  some (.normal, [(6, (.int .i64 3))], s)
@[go_sem] theorem rc_frames_Frames_in_6 {base : Nat} {ρ : Env} {s : St} : rc D base (.reg (some [6]) o_frames_Frames_in_6) ρ s = R_frames_Frames_in_6 base s := rc_reg_O.trans (by kernel_rfl)

@[go_sem] noncomputable def R_frames_set_turn_0 (base : Nat) (s : St) (v0 v1 : V) : Option (Ex × Env × St) :=
  obind (vbin .quo v1 (.int .i64 64)) fun x0 =>
  obind (nilv v0) fun x1 =>
  obind (iadv 78 16 18 x1 x0) fun x2 =>
  obind (ldv s 18 x2) fun x3 =>
  obind (vbin .rem v1 (.int .i64 64)) fun x4 =>
  obind (vbin .shl (.int .u64 1) x4) fun x5 =>
  obind (vbin .xor x3 x5) fun x6 =>
  obind (nilv v0) fun x7 =>
  obind (iadv 78 16 18 x7 x0) fun x8 =>
  obind (stv base s 18 x6 x8) fun s9 =>
  some (.normal, [], s9)
@[go_sem] theorem rc_frames_set_turn_0 {base : Nat} {ρ : Env} {s : St} : rc D base (.regd (some []) o_frames_set_turn_0) ρ s = R_frames_set_turn_0 base s (get ρ 0) (get ρ 1) := rc_regd_O.trans (by kernel_rfl)

@[go_sem] noncomputable def R_steadfastref01_is_0 (_base : Nat) (s : St) (v0 v1 : V) : Option (Ex × Env × St) :=
  some (.normal, [(0, v0), (1, v1)], s)
@[go_sem] theorem rc_steadfastref01_is_0 {base : Nat} {ρ : Env} {s : St} : rc D base (.reg (some [0, 1]) o_steadfastref01_is_0) ρ s = R_steadfastref01_is_0 base s (get ρ 0) (get ρ 1) := rc_reg_O.trans (by kernel_rfl)
@[go_sem] noncomputable def R_steadfastref01_is_1 (_base : Nat) (s : St) (v0 v1 : V) : Option (Ex × Env × St) :=
  obind (vbin .geq v0 (.int .i64 0)) fun x0 =>
  oguard x0 true (
    obind (vbin .leq v0 (.int .i64 63)) fun x1 =>
    oguard x1 true (
      obind (vbin .geq v1 (.int .i64 1)) fun x2 =>
      oguard x2 true (
        obind (vbin .leq v1 (.int .i64 64)) fun x3 =>
        oguard x3 true (
          obind (vbin .add v0 v1) fun x4 =>
          obind (vbin .leq x4 (.int .i64 64)) fun x5 =>
          some (.normal, [(4, x5)], s)) (
          some (.normal, [(4, (.bool false))], s)) (
          none)) (
        some (.normal, [(4, (.bool false))], s)) (
        none)) (
      some (.normal, [(4, (.bool false))], s)) (
      none)) (
    some (.normal, [(4, (.bool false))], s)) (
    none)
@[go_sem] theorem rc_steadfastref01_is_1 {base : Nat} {ρ : Env} {s : St} : rc D base (.reg (some [4]) o_steadfastref01_is_1) ρ s = R_steadfastref01_is_1 base s (get ρ 0) (get ρ 1) := rc_reg_O.trans (by kernel_rfl)

@[go_sem] noncomputable def R_steadfastref01_bit_0 (_base : Nat) (s : St) (v0 v1 : V) : Option (Ex × Env × St) :=
  some (.normal, [(0, v0), (1, v1)], s)
@[go_sem] theorem rc_steadfastref01_bit_0 {base : Nat} {ρ : Env} {s : St} : rc D base (.reg (some [0, 1]) o_steadfastref01_bit_0) ρ s = R_steadfastref01_bit_0 base s (get ρ 0) (get ρ 1) := rc_reg_O.trans (by kernel_rfl)
@[go_sem] noncomputable def R_steadfastref01_bit_1 (_base : Nat) (s : St) (v0 v1 : V) : Option (Ex × Env × St) :=
  obind (vbin .shr v0 v1) fun x0 =>
  obind (vbin .and x0 (.int .u64 1)) fun x1 =>
  some (.normal, [(4, x1)], s)
@[go_sem] theorem rc_steadfastref01_bit_1 {base : Nat} {ρ : Env} {s : St} : rc D base (.reg (some [4]) o_steadfastref01_bit_1) ρ s = R_steadfastref01_bit_1 base s (get ρ 0) (get ρ 1) := rc_reg_O.trans (by kernel_rfl)

@[go_sem] noncomputable def R_objects_lines_add_0 (_base : Nat) (s : St) (v0 v1 : V) : Option (Ex × Env × St) :=
  if V.ok v1 && mayNew false v1 then let x0 : V := .ptr (St.fresh s false) [] (V.tag v1); let s0 : St := St.new s false v1
  some (.normal, [(0, v0), (3, x0)], s0)
  else none
@[go_sem] theorem rc_objects_lines_add_0 {base : Nat} {ρ : Env} {s : St} : rc D base (.reg (some [0, 3]) o_objects_lines_add_0) ρ s = R_objects_lines_add_0 base s (get ρ 0) (get ρ 1) := rc_reg_O.trans (by kernel_rfl)
@[go_sem] noncomputable def R_objects_lines_add_1 (_base : Nat) (s : St) (v0 v3 : V) : Option (Ex × Env × St) :=
  obind (ldv s 48 v3) fun x0 =>
  some (.normal, [(0, v0), (6, x0), (7, (.int .i64 0))], s)
@[go_sem] theorem rc_objects_lines_add_1 {base : Nat} {ρ : Env} {s : St} : rc D base (.reg (some [0, 6, 7]) o_objects_lines_add_1) ρ s = R_objects_lines_add_1 base s (get ρ 0) (get ρ 3) := rc_reg_O.trans (by kernel_rfl)
@[go_sem] noncomputable def R_objects_lines_add_2 (_base : Nat) (s : St) (v0 v6 v7 : V) : Option (Ex × Env × St) :=
  obind (vbin .lss v7 (.int .i64 49)) fun x0 =>
  some (.normal, [(0, v0), (6, v6), (7, v7), (8, x0)], s)
@[go_sem] theorem rc_objects_lines_add_2 {base : Nat} {ρ : Env} {s : St} : rc D base (.reg (some [0, 6, 7, 8]) o_objects_lines_add_2) ρ s = R_objects_lines_add_2 base s (get ρ 0) (get ρ 6) (get ρ 7) := rc_reg_O.trans (by kernel_rfl)
@[go_sem] noncomputable def R_objects_lines_add_3 (base : Nat) (s : St) (v0 v6 v7 : V) : Option (Ex × Env × St) :=
  obind (idxv 48 49 v6 v7) fun x0 =>
  let x1 : V := .ptr (St.fresh s false) [] 42; let s1 : St := St.new s false (.agg 42 [(.int .i64 0), (.int .i64 0), (.int .i64 0)])
  obind (stv base s1 42 x0 x1) fun s2 =>
  some (.normal, [(0, v0), (5, x1), (6, v6), (7, v7)], s2)
@[go_sem] theorem rc_objects_lines_add_3 {base : Nat} {ρ : Env} {s : St} : rc D base (.reg (some [0, 5, 6, 7]) o_objects_lines_add_3) ρ s = R_objects_lines_add_3 base s (get ρ 0) (get ρ 6) (get ρ 7) := rc_reg_O.trans (by kernel_rfl)
@[go_sem] noncomputable def R_objects_lines_add_4 (_base : Nat) (s : St) (v0 v5 v6 v7 : V) : Option (Ex × Env × St) :=
  obind (fadv 42 0 10 v5) fun x0 =>
  obind (ldv s 10 x0) fun x1 =>
  obind (vbin .neq x1 (.int .i64 0)) fun x2 =>
  some (.normal, [(0, v0), (5, v5), (6, v6), (7, v7), (12, x2)], s)
@[go_sem] theorem rc_objects_lines_add_4 {base : Nat} {ρ : Env} {s : St} : rc D base (.reg (some [0, 5, 6, 7, 12]) o_objects_lines_add_4) ρ s = R_objects_lines_add_4 base s (get ρ 0) (get ρ 5) (get ρ 6) (get ρ 7) := rc_reg_O.trans (by kernel_rfl)
@[go_sem] noncomputable def R_objects_lines_add_5 (base : Nat) (s : St) (v0 v5 v6 v7 : V) : Option (Ex × Env × St) :=
  obind (fadv 42 2 10 v5) fun x0 =>
  obind (ldv s 10 x0) fun x1 =>
  obind (nilv v0) fun x2 =>
  obind (iadv 82 1024 0 x2 x1) fun x3 =>
  obind (stv base s 0 (.bool true) x3) fun s4 =>
  some (.normal, [(0, v0), (6, v6), (7, v7)], s4)
@[go_sem] theorem rc_objects_lines_add_5 {base : Nat} {ρ : Env} {s : St} : rc D base (.regd (some [0, 6, 7]) o_objects_lines_add_5) ρ s = R_objects_lines_add_5 base s (get ρ 0) (get ρ 5) (get ρ 6) (get ρ 7) := rc_regd_O.trans (by kernel_rfl)
@[go_sem] noncomputable def R_objects_lines_add_6 (_base : Nat) (s : St) (v0 v6 v7 : V) : Option (Ex × Env × St) :=
  obind (vbin .add v7 (.int .i64 1)) fun x0 =>
  some (.normal, [(0, v0), (6, v6), (7, x0)], s)
@[go_sem] theorem rc_objects_lines_add_6 {base : Nat} {ρ : Env} {s : St} : rc D base (.reg (some [0, 6, 7]) o_objects_lines_add_6) ρ s = R_objects_lines_add_6 base s (get ρ 0) (get ρ 6) (get ρ 7) := rc_reg_O.trans (by kernel_rfl)

@[go_sem] noncomputable def R_steadfastref04_Frames_turn_0 (_base : Nat) (s : St) (v0 v1 v2 v3 : V) : Option (Ex × Env × St) :=
  some (.normal, [(0, v0), (1, v1), (2, v2), (3, v3)], s)
@[go_sem] theorem rc_steadfastref04_Frames_turn_0 {base : Nat} {ρ : Env} {s : St} : rc D base (.reg (some [0, 1, 2, 3]) o_steadfastref04_Frames_turn_0) ρ s = R_steadfastref04_Frames_turn_0 base s (get ρ 0) (get ρ 1) (get ρ 2) (get ρ 3) := rc_reg_O.trans (by kernel_rfl)
@[go_sem] noncomputable def R_steadfastref04_Frames_turn_1 (_base : Nat) (s : St) (v0 v1 v2 v3 : V) : Option (Ex × Env × St) :=
  obind (rf D f_steadfastref04_Frames_State [v0, v1] s) fun x0 =>
  some (.normal, [(0, v0), (1, v1), (2, v2), (3, v3), (9, x0.1)], x0.2)
@[go_sem] theorem rc_steadfastref04_Frames_turn_1 {base : Nat} {ρ : Env} {s : St} : rc D base (.reg (some [0, 1, 2, 3, 9]) o_steadfastref04_Frames_turn_1) ρ s = R_steadfastref04_Frames_turn_1 base s (get ρ 0) (get ρ 1) (get ρ 2) (get ρ 3) := rc_reg_O.trans (by kernel_rfl)
@[go_sem] noncomputable def R_steadfastref04_Frames_turn_2 (_base : Nat) (s : St) (v0 v1 v2 v3 v9 : V) : Option (Ex × Env × St) :=
  obind (vbin .lss v9 (.int .i64 0)) fun x0 =>
  some (.normal, [(0, v0), (1, v1), (2, v2), (3, v3), (9, v9), (14, x0)], s)
@[go_sem] theorem rc_steadfastref04_Frames_turn_2 {base : Nat} {ρ : Env} {s : St} : rc D base (.reg (some [0, 1, 2, 3, 9, 14]) o_steadfastref04_Frames_turn_2) ρ s = R_steadfastref04_Frames_turn_2 base s (get ρ 0) (get ρ 1) (get ρ 2) (get ρ 3) (get ρ 9) := rc_reg_O.trans (by kernel_rfl)
@[go_sem] noncomputable def R_steadfastref04_Frames_turn_3 (_base : Nat) (s : St) : Option (Ex × Env × St) :=
  some (.normal, [(8, (.int .i64 1))], s)
@[go_sem] theorem rc_steadfastref04_Frames_turn_3 {base : Nat} {ρ : Env} {s : St} : rc D base (.reg (some [8]) o_steadfastref04_Frames_turn_3) ρ s = R_steadfastref04_Frames_turn_3 base s := rc_reg_O.trans (by kernel_rfl)
@[go_sem] noncomputable def R_steadfastref04_Frames_turn_4 (_base : Nat) (s : St) (v0 v1 v2 v3 v9 : V) : Option (Ex × Env × St) :=
  obind (vbin .neq v9 v2) fun x0 =>
  some (.normal, [(0, v0), (1, v1), (3, v3), (17, x0)], s)
@[go_sem] theorem rc_steadfastref04_Frames_turn_4 {base : Nat} {ρ : Env} {s : St} : rc D base (.reg (some [0, 1, 3, 17]) o_steadfastref04_Frames_turn_4) ρ s = R_steadfastref04_Frames_turn_4 base s (get ρ 0) (get ρ 1) (get ρ 2) (get ρ 3) (get ρ 9) := rc_reg_O.trans (by kernel_rfl)
@[go_sem] noncomputable def R_steadfastref04_Frames_turn_5 (_base : Nat) (s : St) : Option (Ex × Env × St) :=
  some (.normal, [(8, (.int .i64 3))], s)
@[go_sem] theorem rc_steadfastref04_Frames_turn_5 {base : Nat} {ρ : Env} {s : St} : rc D base (.reg (some [8]) o_steadfastref04_Frames_turn_5) ρ s = R_steadfastref04_Frames_turn_5 base s := rc_reg_O.trans (by kernel_rfl)
@[go_sem] noncomputable def R_steadfastref04_Frames_turn_6 (base : Nat) (s : St) (v0 v1 v3 : V) : Option (Ex × Env × St) :=
  obind (nilv v0) fun x0 =>
  obind (fadv 21 1 1 x0) fun x1 =>
  obind (ldv s 1 x1) fun x2 =>
  obind (nilv v0) fun x3 =>
  obind (fadv 21 0 10 x3) fun x4 =>
  obind (ldv s 10 x4) fun x5 =>
  obind (vbin .sub v1 x5) fun x6 =>
  obind (sadv 10 x2 x6) fun x7 =>
  obind (stv base s 10 v3 x7) fun s8 =>
  some (.normal, [], s8)
@[go_sem] theorem rc_steadfastref04_Frames_turn_6 {base : Nat} {ρ : Env} {s : St} : rc D base (.regd (some []) o_steadfastref04_Frames_turn_6) ρ s = R_steadfastref04_Frames_turn_6 base s (get ρ 0) (get ρ 1) (get ρ 3) := rc_regd_O.trans (by kernel_rfl)
@[go_sem] noncomputable def R_steadfastref04_Frames_turn_7 (_base : Nat) (s : St) : Option (Ex × Env × St) :=
  some (.normal, [(8, (.int .i64 0))], s)
@[go_sem] theorem rc_steadfastref04_Frames_turn_7 {base : Nat} {ρ : Env} {s : St} : rc D base (.reg (some [8]) o_steadfastref04_Frames_turn_7) ρ s = R_steadfastref04_Frames_turn_7 base s := rc_reg_O.trans (by kernel_rfl)

@[go_sem] noncomputable def R_steadfastref03_Memory_is_0 (_base : Nat) (s : St) (v0 v1 : V) : Option (Ex × Env × St) :=
  some (.normal, [(0, v0), (1, v1)], s)
@[go_sem] theorem rc_steadfastref03_Memory_is_0 {base : Nat} {ρ : Env} {s : St} : rc D base (.reg (some [0, 1]) o_steadfastref03_Memory_is_0) ρ s = R_steadfastref03_Memory_is_0 base s (get ρ 0) (get ρ 1) := rc_reg_O.trans (by kernel_rfl)
@[go_sem] noncomputable def R_steadfastref03_Memory_is_1 (_base : Nat) (s : St) (v0 v1 : V) : Option (Ex × Env × St) :=
  obind (vbin .geq v1 (.int .i64 0)) fun x0 =>
  oguard x0 true (
    obind (nilv v0) fun x1 =>
    obind (fadv 33 0 1 x1) fun x2 =>
    obind (ldv s 1 x2) fun x3 =>
    obind (V.slen false x3) fun x4 =>
    obind (vbin .lss v1 (.int .i64 x4)) fun x5 =>
    some (.normal, [(4, x5)], s)) (
    some (.normal, [(4, (.bool false))], s)) (
    none)
@[go_sem] theorem rc_steadfastref03_Memory_is_1 {base : Nat} {ρ : Env} {s : St} : rc D base (.reg (some [4]) o_steadfastref03_Memory_is_1) ρ s = R_steadfastref03_Memory_is_1 base s (get ρ 0) (get ρ 1) := rc_reg_O.trans (by kernel_rfl)

@[go_sem] noncomputable def R_steadfastref03_Memory_has_0 (_base : Nat) (s : St) (v0 v1 v2 : V) : Option (Ex × Env × St) :=
  let x0 : V := .ptr (St.fresh s false) [] 24; let s0 : St := St.new s false (.agg 24 (List.replicate 8 (.int .u64 0)))
  some (.normal, [(0, v0), (1, v1), (2, v2), (6, x0)], s0)
@[go_sem] theorem rc_steadfastref03_Memory_has_0 {base : Nat} {ρ : Env} {s : St} : rc D base (.reg (some [0, 1, 2, 6]) o_steadfastref03_Memory_has_0) ρ s = R_steadfastref03_Memory_has_0 base s (get ρ 0) (get ρ 1) (get ρ 2) := rc_reg_O.trans (by kernel_rfl)
@[go_sem] noncomputable def R_steadfastref03_Memory_has_1 (base : Nat) (s : St) (v0 v1 v2 v6 : V) : Option (Ex × Env × St) :=
  obind (nilv v0) fun x0 =>
  obind (fadv 33 0 1 x0) fun x1 =>
  obind (ldv s 1 x1) fun x2 =>
  obind (sadv 24 x2 v1) fun x3 =>
  obind (ldv s 24 x3) fun x4 =>
  let x5 : V := .ptr (St.fresh s false) [] 24; let s5 : St := St.new s false (.agg 24 (List.replicate 8 (.int .u64 0)))
  obind (stv base s5 24 x4 x5) fun s6 =>
  some (.normal, [(0, v0), (1, v1), (2, v2), (6, v6), (7, x5)], s6)
@[go_sem] theorem rc_steadfastref03_Memory_has_1 {base : Nat} {ρ : Env} {s : St} : rc D base (.reg (some [0, 1, 2, 6, 7]) o_steadfastref03_Memory_has_1) ρ s = R_steadfastref03_Memory_has_1 base s (get ρ 0) (get ρ 1) (get ρ 2) (get ρ 6) := rc_reg_O.trans (by kernel_rfl)
@[go_sem] noncomputable def R_steadfastref03_Memory_has_2 (_base : Nat) (s : St) (v0 v1 v2 v6 v7 : V) : Option (Ex × Env × St) :=
  some (.normal, [(0, v0), (1, v1), (2, v2), (6, v6), (7, v7), (8, (.int .i64 0))], s)
@[go_sem] theorem rc_steadfastref03_Memory_has_2 {base : Nat} {ρ : Env} {s : St} : rc D base (.reg (some [0, 1, 2, 6, 7, 8]) o_steadfastref03_Memory_has_2) ρ s = R_steadfastref03_Memory_has_2 base s (get ρ 0) (get ρ 1) (get ρ 2) (get ρ 6) (get ρ 7) := rc_reg_O.trans (by kernel_rfl)
@[go_sem] noncomputable def R_steadfastref03_Memory_has_3 (_base : Nat) (s : St) (v0 v1 v2 v6 v7 v8 : V) : Option (Ex × Env × St) :=
  obind (vbin .lss v8 v2) fun x0 =>
  some (.normal, [(0, v0), (1, v1), (2, v2), (6, v6), (7, v7), (8, v8), (18, x0)], s)
@[go_sem] theorem rc_steadfastref03_Memory_has_3 {base : Nat} {ρ : Env} {s : St} : rc D base (.reg (some [0, 1, 2, 6, 7, 8, 18]) o_steadfastref03_Memory_has_3) ρ s = R_steadfastref03_Memory_has_3 base s (get ρ 0) (get ρ 1) (get ρ 2) (get ρ 6) (get ρ 7) (get ρ 8) := rc_reg_O.trans (by kernel_rfl)
@[go_sem] noncomputable def R_steadfastref03_Memory_has_4 (base : Nat) (s : St) (v0 v1 v2 v6 v7 v8 : V) : Option (Ex × Env × St) :=
  obind (nilv v0) fun x0 =>
  obind (fadv 33 1 1 x0) fun x1 =>
  obind (ldv s 1 x1) fun x2 =>
  obind (sadv 1 x2 v1) fun x3 =>
  obind (ldv s 1 x3) fun x4 =>
  obind (sadv 90 x4 v8) fun x5 =>
  obind (fadv 90 0 10 x5) fun x6 =>
  obind (ldv s 10 x6) fun x7 =>
  obind (nilv v0) fun x8 =>
  obind (fadv 33 1 1 x8) fun x9 =>
  obind (ldv s 1 x9) fun x10 =>
  obind (sadv 1 x10 v1) fun x11 =>
  obind (ldv s 1 x11) fun x12 =>
  obind (sadv 90 x12 v8) fun x13 =>
  obind (fadv 90 1 18 x13) fun x14 =>
  obind (ldv s 18 x14) fun x15 =>
  obind (iadv 24 8 18 v7 x7) fun x16 =>
  obind (stv base s 18 x15 x16) fun s17 =>
  some (.normal, [(0, v0), (1, v1), (2, v2), (6, v6), (7, v7), (8, v8)], s17)
@[go_sem] theorem rc_steadfastref03_Memory_has_4 {base : Nat} {ρ : Env} {s : St} : rc D base (.regd (some [0, 1, 2, 6, 7, 8]) o_steadfastref03_Memory_has_4) ρ s = R_steadfastref03_Memory_has_4 base s (get ρ 0) (get ρ 1) (get ρ 2) (get ρ 6) (get ρ 7) (get ρ 8) := rc_regd_O.trans (by kernel_rfl)
@[go_sem] noncomputable def R_steadfastref03_Memory_has_5 (_base : Nat) (s : St) (v0 v1 v2 v6 v7 v8 : V) : Option (Ex × Env × St) :=
  obind (vbin .add v8 (.int .i64 1)) fun x0 =>
  some (.normal, [(0, v0), (1, v1), (2, v2), (6, v6), (7, v7), (8, x0)], s)
@[go_sem] theorem rc_steadfastref03_Memory_has_5 {base : Nat} {ρ : Env} {s : St} : rc D base (.reg (some [0, 1, 2, 6, 7, 8]) o_steadfastref03_Memory_has_5) ρ s = R_steadfastref03_Memory_has_5 base s (get ρ 0) (get ρ 1) (get ρ 2) (get ρ 6) (get ρ 7) (get ρ 8) := rc_reg_O.trans (by kernel_rfl)
@[go_sem] noncomputable def R_steadfastref03_Memory_has_6 (base : Nat) (s : St) (v6 v7 : V) : Option (Ex × Env × St) :=
  obind (ldv s 24 v7) fun x0 =>
  obind (stv base s 24 x0 v6) fun s1 =>
  some (.normal, [(6, v6)], s1)
@[go_sem] theorem rc_steadfastref03_Memory_has_6 {base : Nat} {ρ : Env} {s : St} : rc D base (.reg (some [6]) o_steadfastref03_Memory_has_6) ρ s = R_steadfastref03_Memory_has_6 base s (get ρ 6) (get ρ 7) := rc_reg_O.trans (by kernel_rfl)

@[go_sem] noncomputable def R_frames_Frames_State_0 (_base : Nat) (s : St) (v0 v1 : V) : Option (Ex × Env × St) :=
  some (.normal, [(0, v0), (1, v1)], s)
@[go_sem] theorem rc_frames_Frames_State_0 {base : Nat} {ρ : Env} {s : St} : rc D base (.reg (some [0, 1]) o_frames_Frames_State_0) ρ s = R_frames_Frames_State_0 base s (get ρ 0) (get ρ 1) := rc_reg_O.trans (by kernel_rfl)
@[go_sem] noncomputable def R_frames_Frames_State_1 (_base : Nat) (s : St) (v0 v1 : V) : Option (Ex × Env × St) :=
  obind (nilv v0) fun x0 =>
  obind (fadv 80 0 10 x0) fun x1 =>
  obind (ldv s 10 x1) fun x2 =>
  obind (vbin .lss v1 x2) fun x3 =>
  some (.normal, [(0, v0), (1, v1), (5, x3)], s)
@[go_sem] theorem rc_frames_Frames_State_1 {base : Nat} {ρ : Env} {s : St} : rc D base (.reg (some [0, 1, 5]) o_frames_Frames_State_1) ρ s = R_frames_Frames_State_1 base s (get ρ 0) (get ρ 1) := rc_reg_O.trans (by kernel_rfl)
@[go_sem] noncomputable def R_frames_Frames_State_2 (_base : Nat) (s : St) (v0 v1 : V) : Option (Ex × Env × St) :=
  obind (nilv v0) fun x0 =>
  obind (fadv 80 1 10 x0) fun x1 =>
  obind (ldv s 10 x1) fun x2 =>
  obind (vbin .geq v1 x2) fun x3 =>
  some (.normal, [(0, v0), (1, v1), (5, x3)], s)
@[go_sem] theorem rc_frames_Frames_State_2 {base : Nat} {ρ : Env} {s : St} : rc D base (.reg (some [0, 1, 5]) o_frames_Frames_State_2) ρ s = R_frames_Frames_State_2 base s (get ρ 0) (get ρ 1) := rc_reg_O.trans (by kernel_rfl)
@[go_sem] noncomputable def R_frames_Frames_State_3 (_base : Nat) (s : St) : Option (Ex × Env × St) :=
  some (.normal, [(4, (.int .i64 (-1)))], s)
@[go_sem] theorem rc_frames_Frames_State_3 {base : Nat} {ρ : Env} {s : St} : rc D base (.reg (some [4]) o_frames_Frames_State_3) ρ s = R_frames_Frames_State_3 base s := rc_reg_O.trans (by kernel_rfl)
@[go_sem] noncomputable def R_frames_Frames_State_4 (_base : Nat) (s : St) (v0 v1 : V) : Option (Ex × Env × St) :=
  obind (nilv v0) fun x0 =>
  obind (fadv 80 2 78 x0) fun x1 =>
  obind (rf D f_frames_set_has [x1, v1] s) fun x2 =>
  some (.normal, [(0, v0), (1, v1), (18, x2.1)], x2.2)
@[go_sem] theorem rc_frames_Frames_State_4 {base : Nat} {ρ : Env} {s : St} : rc D base (.reg (some [0, 1, 18]) o_frames_Frames_State_4) ρ s = R_frames_Frames_State_4 base s (get ρ 0) (get ρ 1) := rc_reg_O.trans (by kernel_rfl)
@[go_sem] noncomputable def R_frames_Frames_State_5 (_base : Nat) (s : St) : Option (Ex × Env × St) :=
  some (.normal, [(4, (.int .i64 0))], s)
@[go_sem] theorem rc_frames_Frames_State_5 {base : Nat} {ρ : Env} {s : St} : rc D base (.reg (some [4]) o_frames_Frames_State_5) ρ s = R_frames_Frames_State_5 base s := rc_reg_O.trans (by kernel_rfl)
@[go_sem] noncomputable def R_frames_Frames_State_6 (_base : Nat) (s : St) (v0 v1 : V) : Option (Ex × Env × St) :=
  obind (nilv v0) fun x0 =>
  obind (fadv 80 3 78 x0) fun x1 =>
  obind (rf D f_frames_set_has [x1, v1] s) fun x2 =>
  some (.normal, [(24, x2.1)], x2.2)
@[go_sem] theorem rc_frames_Frames_State_6 {base : Nat} {ρ : Env} {s : St} : rc D base (.reg (some [24]) o_frames_Frames_State_6) ρ s = R_frames_Frames_State_6 base s (get ρ 0) (get ρ 1) := rc_reg_O.trans (by kernel_rfl)
@[go_sem] noncomputable def R_frames_Frames_State_7 (_base : Nat) (s : St) : Option (Ex × Env × St) :=
  some (.normal, [(4, (.int .i64 2))], s)
@[go_sem] theorem rc_frames_Frames_State_7 {base : Nat} {ρ : Env} {s : St} : rc D base (.reg (some [4]) o_frames_Frames_State_7) ρ s = R_frames_Frames_State_7 base s := rc_reg_O.trans (by kernel_rfl)
@[go_sem] noncomputable def R_frames_Frames_State_8 (_base : Nat) (s : St) : Option (Ex × Env × St) :=
  some (.normal, [(4, (.int .i64 1))], s)
@[go_sem] theorem rc_frames_Frames_State_8 {base : Nat} {ρ : Env} {s : St} : rc D base (.reg (some [4]) o_frames_Frames_State_8) ρ s = R_frames_Frames_State_8 base s := rc_reg_O.trans (by kernel_rfl)

@[go_sem] noncomputable def R_steadfastref04_Frames_State_0 (_base : Nat) (s : St) (v0 v1 : V) : Option (Ex × Env × St) :=
  some (.normal, [(0, v0), (1, v1)], s)
@[go_sem] theorem rc_steadfastref04_Frames_State_0 {base : Nat} {ρ : Env} {s : St} : rc D base (.reg (some [0, 1]) o_steadfastref04_Frames_State_0) ρ s = R_steadfastref04_Frames_State_0 base s (get ρ 0) (get ρ 1) := rc_reg_O.trans (by kernel_rfl)
@[go_sem] noncomputable def R_steadfastref04_Frames_State_1 (_base : Nat) (s : St) (v0 v1 : V) : Option (Ex × Env × St) :=
  obind (nilv v0) fun x0 =>
  obind (fadv 21 0 10 x0) fun x1 =>
  obind (ldv s 10 x1) fun x2 =>
  obind (vbin .lss v1 x2) fun x3 =>
  oguard x3 false (
    obind (nilv v0) fun x4 =>
    obind (fadv 21 0 10 x4) fun x5 =>
    obind (ldv s 10 x5) fun x6 =>
    obind (vbin .sub v1 x6) fun x7 =>
    obind (nilv v0) fun x8 =>
    obind (fadv 21 1 1 x8) fun x9 =>
    obind (ldv s 1 x9) fun x10 =>
    obind (V.slen false x10) fun x11 =>
    obind (vbin .geq x7 (.int .i64 x11)) fun x12 =>
    some (.normal, [(0, v0), (1, v1), (24, x12)], s)) (
    some (.normal, [(0, v0), (1, v1), (24, (.bool true))], s)) (
    none)
@[go_sem] theorem rc_steadfastref04_Frames_State_1 {base : Nat} {ρ : Env} {s : St} : rc D base (.regd (some [0, 1, 24]) o_steadfastref04_Frames_State_1) ρ s = R_steadfastref04_Frames_State_1 base s (get ρ 0) (get ρ 1) := rc_regd_O.trans (by kernel_rfl)
@[go_sem] noncomputable def R_steadfastref04_Frames_State_2 (_base : Nat) (s : St) : Option (Ex × Env × St) :=
  some (.normal, [(4, (.int .i64 (-1)))], s)
@[go_sem] theorem rc_steadfastref04_Frames_State_2 {base : Nat} {ρ : Env} {s : St} : rc D base (.reg (some [4]) o_steadfastref04_Frames_State_2) ρ s = R_steadfastref04_Frames_State_2 base s := rc_reg_O.trans (by kernel_rfl)
@[go_sem] noncomputable def R_steadfastref04_Frames_State_3 (_base : Nat) (s : St) (v0 v1 : V) : Option (Ex × Env × St) :=
  obind (nilv v0) fun x0 =>
  obind (fadv 21 1 1 x0) fun x1 =>
  obind (ldv s 1 x1) fun x2 =>
  obind (nilv v0) fun x3 =>
  obind (fadv 21 0 10 x3) fun x4 =>
  obind (ldv s 10 x4) fun x5 =>
  obind (vbin .sub v1 x5) fun x6 =>
  obind (sadv 10 x2 x6) fun x7 =>
  obind (ldv s 10 x7) fun x8 =>
  some (.normal, [(4, x8)], s)
@[go_sem] theorem rc_steadfastref04_Frames_State_3 {base : Nat} {ρ : Env} {s : St} : rc D base (.regd (some [4]) o_steadfastref04_Frames_State_3) ρ s = R_steadfastref04_Frames_State_3 base s (get ρ 0) (get ρ 1) := rc_regd_O.trans (by kernel_rfl)

@[go_sem] noncomputable def R_frames_set_has_0 (_base : Nat) (s : St) (v0 v1 : V) : Option (Ex × Env × St) :=
  some (.normal, [(0, v0), (1, v1)], s)
@[go_sem] theorem rc_frames_set_has_0 {base : Nat} {ρ : Env} {s : St} : rc D base (.reg (some [0, 1]) o_frames_set_has_0) ρ s = R_frames_set_has_0 base s (get ρ 0) (get ρ 1) := rc_reg_O.trans (by kernel_rfl)
@[go_sem] noncomputable def R_frames_set_has_1 (_base : Nat) (s : St) (v0 v1 : V) : Option (Ex × Env × St) :=
  obind (vbin .quo v1 (.int .i64 64)) fun x0 =>
  obind (nilv v0) fun x1 =>
  obind (iadv 78 16 18 x1 x0) fun x2 =>
  obind (ldv s 18 x2) fun x3 =>
  obind (vbin .rem v1 (.int .i64 64)) fun x4 =>
  obind (vbin .shr x3 x4) fun x5 =>
  obind (vbin .and x5 (.int .u64 1)) fun x6 =>
  obind (vbin .eql x6 (.int .u64 1)) fun x7 =>
  some (.normal, [(4, x7)], s)
@[go_sem] theorem rc_frames_set_has_1 {base : Nat} {ρ : Env} {s : St} : rc D base (.reg (some [4]) o_frames_set_has_1) ρ s = R_frames_set_has_1 base s (get ρ 0) (get ρ 1) := rc_reg_O.trans (by kernel_rfl)


end Go.Proofs.Ytpbpgbedkmbfkaa
