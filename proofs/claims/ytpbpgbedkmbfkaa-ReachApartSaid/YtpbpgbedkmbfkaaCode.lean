/-
  YtpbpgbedkmbfkaaCode: the code of the functions that this seat's laws reach, in the form of Ab1 (printed by a program out of the translation; held against it in YtpbpgbedkmbfkaaChk).
-/
import Derived.Test.YtpbpgbedkmbfkaaCodeA
set_option maxRecDepth 100000
namespace Go.Proofs.Ytpbpgbedkmbfkaa
open Go.Ab
@[go_sem] noncomputable def R_steadfastref07_Word_8 (_base : Nat) (s : St) (v1 v4 : V) : Option (Ex × Env × St) :=
  obind (fadv 40 3 10 v1) fun x0 =>
  obind (ldv s 10 x0) fun x1 =>
  obind (convv .u64 x1) fun x2 =>
  obind (rf D f_steadfastref01_With [v4, (.int .i64 24), (.int .i64 24), x2] s) fun x3 =>
  obind (extv 0 x3.1) fun x4 =>
  obind (extv 1 x3.1) fun _x5 =>
  some (.normal, [(1, v1), (4, x4)], x3.2)
@[go_sem] theorem rc_steadfastref07_Word_8 {base : Nat} {ρ : Env} {s : St} : rc D base (.reg (some [1, 4]) o_steadfastref07_Word_8) ρ s = R_steadfastref07_Word_8 base s (get ρ 1) (get ρ 4) := rc_reg_O.trans (by kernel_rfl)
@[go_sem] noncomputable def R_steadfastref07_Word_9 (_base : Nat) (s : St) (v1 v4 : V) : Option (Ex × Env × St) :=
  obind (fadv 40 4 10 v1) fun x0 =>
  obind (ldv s 10 x0) fun x1 =>
  obind (convv .u64 x1) fun x2 =>
  obind (rf D f_steadfastref01_With [v4, (.int .i64 48), (.int .i64 16), x2] s) fun x3 =>
  obind (extv 0 x3.1) fun x4 =>
  obind (extv 1 x3.1) fun _x5 =>
  some (.normal, [(4, x4)], x3.2)
@[go_sem] theorem rc_steadfastref07_Word_9 {base : Nat} {ρ : Env} {s : St} : rc D base (.reg (some [4]) o_steadfastref07_Word_9) ρ s = R_steadfastref07_Word_9 base s (get ρ 1) (get ρ 4) := rc_reg_O.trans (by kernel_rfl)
@[go_sem] noncomputable def R_steadfastref07_Word_10 (_base : Nat) (s : St) (v4 : V) : Option (Ex × Env × St) :=
  some (.normal, [(2, v4), (3, (.int .i64 0))], s)
@[go_sem] theorem rc_steadfastref07_Word_10 {base : Nat} {ρ : Env} {s : St} : rc D base (.reg (some [2, 3]) o_steadfastref07_Word_10) ρ s = R_steadfastref07_Word_10 base s (get ρ 4) := rc_reg_O.trans (by kernel_rfl)

@[go_sem] noncomputable def R_entry_Names_0 (_base : Nat) (s : St) (v0 v1 v2 : V) : Option (Ex × Env × St) :=
  if V.ok v0 && mayNew false v0 then let x0 : V := .ptr (St.fresh s false) [] (V.tag v0); let s0 : St := St.new s false v0
  some (.normal, [(1, v1), (2, v2), (3, x0)], s0)
  else none
@[go_sem] theorem rc_entry_Names_0 {base : Nat} {ρ : Env} {s : St} : rc D base (.reg (some [1, 2, 3]) o_entry_Names_0) ρ s = R_entry_Names_0 base s (get ρ 0) (get ρ 1) (get ρ 2) := rc_reg_O.trans (by kernel_rfl)
@[go_sem] noncomputable def R_entry_Names_1 (base : Nat) (s : St) (v1 v2 v3 : V) : Option (Ex × Env × St) :=
  obind (rf D f_caps_Of [v2] s) fun x0 =>
  obind (extv 0 x0.1) fun x1 =>
  obind (extv 1 x0.1) fun x2 =>
  let x3 : V := .ptr (St.fresh x0.2 false) [] 40; let s3 : St := St.new x0.2 false (.agg 40 [(.int .i64 0), (.int .i64 0), (.int .i64 0), (.int .i64 0), (.int .i64 0)])
  obind (stv base s3 40 x1 x3) fun s4 =>
  some (.normal, [(1, v1), (3, v3), (7, x3), (8, x2)], s4)
@[go_sem] theorem rc_entry_Names_1 {base : Nat} {ρ : Env} {s : St} : rc D base (.reg (some [1, 3, 7, 8]) o_entry_Names_1) ρ s = R_entry_Names_1 base s (get ρ 1) (get ρ 2) (get ρ 3) := rc_reg_O.trans (by kernel_rfl)
@[go_sem] noncomputable def R_entry_Names_2 (_base : Nat) (s : St) (v1 v3 v7 v8 : V) : Option (Ex × Env × St) :=
  obind (vun .not v8) fun x0 =>
  some (.normal, [(1, v1), (3, v3), (7, v7), (14, x0)], s)
@[go_sem] theorem rc_entry_Names_2 {base : Nat} {ρ : Env} {s : St} : rc D base (.reg (some [1, 3, 7, 14]) o_entry_Names_2) ρ s = R_entry_Names_2 base s (get ρ 1) (get ρ 3) (get ρ 7) (get ρ 8) := rc_reg_O.trans (by kernel_rfl)
@[go_sem] noncomputable def R_entry_Names_3 (_base : Nat) (s : St) (v1 v3 v7 : V) : Option (Ex × Env × St) :=
  obind (fadv 40 0 10 v7) fun x0 =>
  obind (ldv s 10 x0) fun x1 =>
  obind (vbin .gtr x1 (.int .i64 4)) fun x2 =>
  some (.normal, [(1, v1), (3, v3), (7, v7), (14, x2)], s)
@[go_sem] theorem rc_entry_Names_3 {base : Nat} {ρ : Env} {s : St} : rc D base (.reg (some [1, 3, 7, 14]) o_entry_Names_3) ρ s = R_entry_Names_3 base s (get ρ 1) (get ρ 3) (get ρ 7) := rc_reg_O.trans (by kernel_rfl)
@[go_sem] noncomputable def R_entry_Names_4 (_base : Nat) (s : St) : Option (Ex × Env × St) :=
  some (.normal, [(6, (.int .i64 31))], s)
@[go_sem] theorem rc_entry_Names_4 {base : Nat} {ρ : Env} {s : St} : rc D base (.reg (some [6]) o_entry_Names_4) ρ s = R_entry_Names_4 base s := rc_reg_O.trans (by kernel_rfl)
@[go_sem] noncomputable def R_entry_Names_5 (_base : Nat) (s : St) (v1 v3 v7 : V) : Option (Ex × Env × St) :=
  obind (fadv 40 2 10 v7) fun x0 =>
  obind (ldv s 10 x0) fun x1 =>
  obind (vbin .neq x1 v1) fun x2 =>
  some (.normal, [(3, v3), (7, v7), (20, x2)], s)
@[go_sem] theorem rc_entry_Names_5 {base : Nat} {ρ : Env} {s : St} : rc D base (.reg (some [3, 7, 20]) o_entry_Names_5) ρ s = R_entry_Names_5 base s (get ρ 1) (get ρ 3) (get ρ 7) := rc_reg_O.trans (by kernel_rfl)
@[go_sem] noncomputable def R_entry_Names_6 (_base : Nat) (s : St) : Option (Ex × Env × St) :=
  some (.normal, [(6, (.int .i64 30))], s)
@[go_sem] theorem rc_entry_Names_6 {base : Nat} {ρ : Env} {s : St} : rc D base (.reg (some [6]) o_entry_Names_6) ρ s = R_entry_Names_6 base s := rc_reg_O.trans (by kernel_rfl)
@[go_sem] noncomputable def R_entry_Names_7 (_base : Nat) (s : St) (v3 v7 : V) : Option (Ex × Env × St) :=
  obind (fadv 40 3 10 v7) fun x0 =>
  obind (ldv s 10 x0) fun x1 =>
  obind (fadv 42 1 10 v3) fun x2 =>
  obind (ldv s 10 x2) fun x3 =>
  obind (vbin .neq x1 x3) fun x4 =>
  some (.normal, [(3, v3), (7, v7), (25, x4)], s)
@[go_sem] theorem rc_entry_Names_7 {base : Nat} {ρ : Env} {s : St} : rc D base (.reg (some [3, 7, 25]) o_entry_Names_7) ρ s = R_entry_Names_7 base s (get ρ 3) (get ρ 7) := rc_reg_O.trans (by kernel_rfl)
@[go_sem] noncomputable def R_entry_Names_8 (_base : Nat) (s : St) : Option (Ex × Env × St) :=
  some (.normal, [(6, (.int .i64 33))], s)
@[go_sem] theorem rc_entry_Names_8 {base : Nat} {ρ : Env} {s : St} : rc D base (.reg (some [6]) o_entry_Names_8) ρ s = R_entry_Names_8 base s := rc_reg_O.trans (by kernel_rfl)
@[go_sem] noncomputable def R_entry_Names_9 (_base : Nat) (s : St) (v3 v7 : V) : Option (Ex × Env × St) :=
  obind (fadv 42 0 10 v3) fun x0 =>
  obind (ldv s 10 x0) fun x1 =>
  obind (vbin .eql x1 (.int .i64 0)) fun x2 =>
  some (.normal, [(3, v3), (7, v7), (31, x2)], s)
@[go_sem] theorem rc_entry_Names_9 {base : Nat} {ρ : Env} {s : St} : rc D base (.reg (some [3, 7, 31]) o_entry_Names_9) ρ s = R_entry_Names_9 base s (get ρ 3) (get ρ 7) := rc_reg_O.trans (by kernel_rfl)
@[go_sem] noncomputable def R_entry_Names_10 (_base : Nat) (s : St) : Option (Ex × Env × St) :=
  some (.normal, [(6, (.int .i64 30))], s)
@[go_sem] theorem rc_entry_Names_10 {base : Nat} {ρ : Env} {s : St} : rc D base (.reg (some [6]) o_entry_Names_10) ρ s = R_entry_Names_10 base s := rc_reg_O.trans (by kernel_rfl)
@[go_sem] noncomputable def R_entry_Names_11 (_base : Nat) (s : St) (v3 v7 : V) : Option (Ex × Env × St) :=
  obind (fadv 40 0 10 v7) fun x0 =>
  obind (ldv s 10 x0) fun x1 =>
  obind (fadv 42 0 10 v3) fun x2 =>
  obind (ldv s 10 x2) fun x3 =>
  obind (vbin .neq x1 x3) fun x4 =>
  some (.normal, [(35, x4)], s)
@[go_sem] theorem rc_entry_Names_11 {base : Nat} {ρ : Env} {s : St} : rc D base (.reg (some [35]) o_entry_Names_11) ρ s = R_entry_Names_11 base s (get ρ 3) (get ρ 7) := rc_reg_O.trans (by kernel_rfl)
@[go_sem] noncomputable def R_entry_Names_12 (_base : Nat) (s : St) : Option (Ex × Env × St) :=
  some (.normal, [(6, (.int .i64 31))], s)
@[go_sem] theorem rc_entry_Names_12 {base : Nat} {ρ : Env} {s : St} : rc D base (.reg (some [6]) o_entry_Names_12) ρ s = R_entry_Names_12 base s := rc_reg_O.trans (by kernel_rfl)
@[go_sem] noncomputable def R_entry_Names_13 (_base : Nat) (s : St) : Option (Ex × Env × St) :=
  some (.normal, [(6, (.int .i64 0))], s)
@[go_sem] theorem rc_entry_Names_13 {base : Nat} {ρ : Env} {s : St} : rc D base (.reg (some [6]) o_entry_Names_13) ρ s = R_entry_Names_13 base s := rc_reg_O.trans (by kernel_rfl)

@[go_sem] noncomputable def R_steadfastref07_Of_0 (_base : Nat) (s : St) (v0 : V) : Option (Ex × Env × St) :=
  let x0 : V := .ptr (St.fresh s false) [] 40; let s0 : St := St.new s false (.agg 40 [(.int .i64 0), (.int .i64 0), (.int .i64 0), (.int .i64 0), (.int .i64 0)])
  some (.normal, [(0, v0), (2, x0)], s0)
@[go_sem] theorem rc_steadfastref07_Of_0 {base : Nat} {ρ : Env} {s : St} : rc D base (.reg (some [0, 2]) o_steadfastref07_Of_0) ρ s = R_steadfastref07_Of_0 base s (get ρ 0) := rc_reg_O.trans (by kernel_rfl)
@[go_sem] noncomputable def R_steadfastref07_Of_1 (base : Nat) (s : St) (v0 v2 : V) : Option (Ex × Env × St) :=
  obind (rf D f_steadfastref01_Field [v0, (.int .i64 0), (.int .i64 4)] s) fun x0 =>
  obind (convv .i64 x0.1) fun x1 =>
  obind (rf D f_steadfastref01_Field [v0, (.int .i64 4), (.int .i64 4)] x0.2) fun x2 =>
  obind (convv .i64 x2.1) fun x3 =>
  obind (rf D f_steadfastref01_Field [v0, (.int .i64 8), (.int .i64 16)] x2.2) fun x4 =>
  obind (convv .i64 x4.1) fun x5 =>
  obind (rf D f_steadfastref01_Field [v0, (.int .i64 24), (.int .i64 24)] x4.2) fun x6 =>
  obind (convv .i64 x6.1) fun x7 =>
  obind (rf D f_steadfastref01_Field [v0, (.int .i64 48), (.int .i64 16)] x6.2) fun x8 =>
  obind (convv .i64 x8.1) fun x9 =>
  obind (setParts [(.int .i64 0), (.int .i64 0), (.int .i64 0), (.int .i64 0), (.int .i64 0)] [(0, x1), (1, x3), (2, x5), (3, x7), (4, x9)]) fun x10 =>
  let x11 : V := .ptr (St.fresh x8.2 false) [] 40; let s11 : St := St.new x8.2 false (.agg 40 [(.int .i64 0), (.int .i64 0), (.int .i64 0), (.int .i64 0), (.int .i64 0)])
  obind (stv base s11 40 (.agg 40 x10) x11) fun s12 =>
  some (.normal, [(0, v0), (2, v2), (4, x11)], s12)
@[go_sem] theorem rc_steadfastref07_Of_1 {base : Nat} {ρ : Env} {s : St} : rc D base (.reg (some [0, 2, 4]) o_steadfastref07_Of_1) ρ s = R_steadfastref07_Of_1 base s (get ρ 0) (get ρ 2) := rc_reg_O.trans (by kernel_rfl)
@[go_sem] noncomputable def R_steadfastref07_Of_2 (_base : Nat) (s : St) (v0 v2 v4 : V) : Option (Ex × Env × St) :=
  obind (ldv s 40 v4) fun x0 =>
  obind (rf D f_steadfastref07_Word [x0] s) fun x1 =>
  obind (extv 0 x1.1) fun x2 =>
  obind (extv 1 x1.1) fun x3 =>
  some (.normal, [(0, v0), (2, v2), (4, v4), (5, x2), (6, x3)], x1.2)
@[go_sem] theorem rc_steadfastref07_Of_2 {base : Nat} {ρ : Env} {s : St} : rc D base (.reg (some [0, 2, 4, 5, 6]) o_steadfastref07_Of_2) ρ s = R_steadfastref07_Of_2 base s (get ρ 0) (get ρ 2) (get ρ 4) := rc_reg_O.trans (by kernel_rfl)
@[go_sem] noncomputable def R_steadfastref07_Of_3 (_base : Nat) (s : St) (v0 v2 v4 v5 v6 : V) : Option (Ex × Env × St) :=
  obind (vbin .neq v6 (.int .i64 0)) fun x0 =>
  oguard x0 false (
    obind (vbin .neq v5 v0) fun x1 =>
    some (.normal, [(2, v2), (4, v4), (34, x1)], s)) (
    some (.normal, [(2, v2), (4, v4), (34, (.bool true))], s)) (
    none)
@[go_sem] theorem rc_steadfastref07_Of_3 {base : Nat} {ρ : Env} {s : St} : rc D base (.reg (some [2, 4, 34]) o_steadfastref07_Of_3) ρ s = R_steadfastref07_Of_3 base s (get ρ 0) (get ρ 2) (get ρ 4) (get ρ 5) (get ρ 6) := rc_reg_O.trans (by kernel_rfl)
@[go_sem] noncomputable def R_steadfastref07_Of_4 (base : Nat) (s : St) (v2 : V) : Option (Ex × Env × St) :=
  obind (setParts [(.int .i64 0), (.int .i64 0), (.int .i64 0), (.int .i64 0), (.int .i64 0)] []) fun x0 =>
  obind (stv base s 40 (.agg 40 x0) v2) fun s1 =>
  some (.normal, [(2, v2), (3, (.bool false))], s1)
@[go_sem] theorem rc_steadfastref07_Of_4 {base : Nat} {ρ : Env} {s : St} : rc D base (.reg (some [2, 3]) o_steadfastref07_Of_4) ρ s = R_steadfastref07_Of_4 base s (get ρ 2) := rc_reg_O.trans (by kernel_rfl)
@[go_sem] noncomputable def R_steadfastref07_Of_5 (base : Nat) (s : St) (v2 v4 : V) : Option (Ex × Env × St) :=
  obind (ldv s 40 v4) fun x0 =>
  obind (stv base s 40 x0 v2) fun s1 =>
  some (.normal, [(2, v2), (3, (.bool true))], s1)
@[go_sem] theorem rc_steadfastref07_Of_5 {base : Nat} {ρ : Env} {s : St} : rc D base (.reg (some [2, 3]) o_steadfastref07_Of_5) ρ s = R_steadfastref07_Of_5 base s (get ρ 2) (get ρ 4) := rc_reg_O.trans (by kernel_rfl)

@[go_sem] noncomputable def R_reach_From_1_0 (_base : Nat) (s : St) (v0 v1 v2 v3 : V) : Option (Ex × Env × St) :=
  obind (ldv s 30 v1) fun x0 =>
  obind (rf D f_reach_Names [x0, v0] s) fun x1 =>
  obind (extv 0 x1.1) fun x2 =>
  obind (extv 1 x1.1) fun x3 =>
  some (.normal, [(1, v1), (2, v2), (3, v3), (5, x2), (6, x3)], x1.2)
@[go_sem] theorem rc_reach_From_1_0 {base : Nat} {ρ : Env} {s : St} : rc D base (.reg (some [1, 2, 3, 5, 6]) o_reach_From_1_0) ρ s = R_reach_From_1_0 base s (get ρ 0) (get ρ 1) (get ρ 2) (get ρ 3) := rc_reg_O.trans (by kernel_rfl)
@[go_sem] noncomputable def R_reach_From_1_1 (_base : Nat) (s : St) (v1 v2 v3 v5 v6 : V) : Option (Ex × Env × St) :=
  obind (vun .not v6) fun x0 =>
  oguard x0 false (
    obind (iadv 32 49 0 v2 v5) fun x1 =>
    obind (ldv s 0 x1) fun x2 =>
    some (.normal, [(1, v1), (2, v2), (3, v3), (5, v5), (21, x2)], s)) (
    some (.normal, [(1, v1), (2, v2), (3, v3), (5, v5), (21, (.bool true))], s)) (
    none)
@[go_sem] theorem rc_reach_From_1_1 {base : Nat} {ρ : Env} {s : St} : rc D base (.reg (some [1, 2, 3, 5, 21]) o_reach_From_1_1) ρ s = R_reach_From_1_1 base s (get ρ 1) (get ρ 2) (get ρ 3) (get ρ 5) (get ρ 6) := rc_reg_O.trans (by kernel_rfl)
@[go_sem] noncomputable def R_reach_From_1_2 (base : Nat) (s : St) (v1 v2 v3 v5 : V) : Option (Ex × Env × St) :=
  obind (iadv 32 49 0 v2 v5) fun x0 =>
  obind (stv base s 0 (.bool true) x0) fun s1 =>
  some (.normal, [(1, v1), (3, v3), (5, v5)], s1)
@[go_sem] theorem rc_reach_From_1_2 {base : Nat} {ρ : Env} {s : St} : rc D base (.reg (some [1, 3, 5]) o_reach_From_1_2) ρ s = R_reach_From_1_2 base s (get ρ 1) (get ρ 2) (get ρ 3) (get ρ 5) := rc_reg_O.trans (by kernel_rfl)
@[go_sem] noncomputable def R_reach_From_1_3 (_base : Nat) (s : St) (v1 v3 v5 : V) : Option (Ex × Env × St) :=
  obind (iadv 30 49 26 v1 v5) fun x0 =>
  obind (fadv 26 0 10 x0) fun x1 =>
  obind (ldv s 10 x1) fun x2 =>
  obind (vbin .eql x2 (.int .i64 2)) fun x3 =>
  some (.normal, [(1, v1), (3, v3), (5, v5), (28, x3)], s)
@[go_sem] theorem rc_reach_From_1_3 {base : Nat} {ρ : Env} {s : St} : rc D base (.reg (some [1, 3, 5, 28]) o_reach_From_1_3) ρ s = R_reach_From_1_3 base s (get ρ 1) (get ρ 3) (get ρ 5) := rc_reg_O.trans (by kernel_rfl)
@[go_sem] noncomputable def R_reach_From_1_4 (_base : Nat) (s : St) (v1 v3 v5 : V) : Option (Ex × Env × St) :=
  obind (iadv 30 49 26 v1 v5) fun x0 =>
  obind (fadv 26 2 24 x0) fun x1 =>
  obind (ldv s 24 x1) fun x2 =>
  some (.normal, [(3, v3), (32, x2), (33, (.int .i64 0))], s)
@[go_sem] theorem rc_reach_From_1_4 {base : Nat} {ρ : Env} {s : St} : rc D base (.reg (some [3, 32, 33]) o_reach_From_1_4) ρ s = R_reach_From_1_4 base s (get ρ 1) (get ρ 3) (get ρ 5) := rc_reg_O.trans (by kernel_rfl)
@[go_sem] noncomputable def R_reach_From_1_5 (_base : Nat) (s : St) (v3 v32 v33 : V) : Option (Ex × Env × St) :=
  obind (vbin .lss v33 (.int .i64 8)) fun x0 =>
  some (.normal, [(3, v3), (32, v32), (33, v33), (34, x0)], s)
@[go_sem] theorem rc_reach_From_1_5 {base : Nat} {ρ : Env} {s : St} : rc D base (.reg (some [3, 32, 33, 34]) o_reach_From_1_5) ρ s = R_reach_From_1_5 base s (get ρ 3) (get ρ 32) (get ρ 33) := rc_reg_O.trans (by kernel_rfl)
@[go_sem] noncomputable def R_reach_From_1_6 (_base : Nat) (s : St) (v3 v32 v33 : V) : Option (Ex × Env × St) :=
  obind (idxv 24 8 v32 v33) fun x0 =>
  some (.normal, [(3, v3), (8, x0), (32, v32), (33, v33)], s)
@[go_sem] theorem rc_reach_From_1_6 {base : Nat} {ρ : Env} {s : St} : rc D base (.reg (some [3, 8, 32, 33]) o_reach_From_1_6) ρ s = R_reach_From_1_6 base s (get ρ 3) (get ρ 32) (get ρ 33) := rc_reg_O.trans (by kernel_rfl)
@[go_sem] noncomputable def R_reach_From_1_7 (_base : Nat) (s : St) (v3 v8 v32 v33 : V) : Option (Ex × Env × St) :=
  obind (ldv s 1 v3) fun x0 =>
  obind (callv D [v8] s x0) fun x1 =>
  some (.normal, [(3, v3), (32, v32), (33, v33)], x1.2)
@[go_sem] theorem rc_reach_From_1_7 {base : Nat} {ρ : Env} {s : St} : rc D base (.reg (some [3, 32, 33]) o_reach_From_1_7) ρ s = R_reach_From_1_7 base s (get ρ 3) (get ρ 8) (get ρ 32) (get ρ 33) := rc_reg_O.trans (by kernel_rfl)
@[go_sem] noncomputable def R_reach_From_1_8 (_base : Nat) (s : St) (v3 v32 v33 : V) : Option (Ex × Env × St) :=
  obind (vbin .add v33 (.int .i64 1)) fun x0 =>
  some (.normal, [(3, v3), (32, v32), (33, x0)], s)
@[go_sem] theorem rc_reach_From_1_8 {base : Nat} {ρ : Env} {s : St} : rc D base (.reg (some [3, 32, 33]) o_reach_From_1_8) ρ s = R_reach_From_1_8 base s (get ρ 3) (get ρ 32) (get ρ 33) := rc_reg_O.trans (by kernel_rfl)

@[go_sem] noncomputable def R_regs_Of_0 (_base : Nat) (s : St) (v0 : V) : Option (Ex × Env × St) :=
  if V.ok v0 && mayNew false v0 then let x0 : V := .ptr (St.fresh s false) [] (V.tag v0); let s0 : St := St.new s false v0
  let x1 : V := .ptr (St.fresh s0 false) [] 64; let s1 : St := St.new s0 false (.agg 64 [(.int .i64 0), (.agg 62 (List.replicate 4 (.int .u64 0))), (.int .u64 0), (.int .u64 0), (.int .i64 0), (.int .i64 0), (.int .i64 0), (.int .i64 0)])
  some (.normal, [(1, x0), (2, x1)], s1)
  else none
@[go_sem] theorem rc_regs_Of_0 {base : Nat} {ρ : Env} {s : St} : rc D base (.reg (some [1, 2]) o_regs_Of_0) ρ s = R_regs_Of_0 base s (get ρ 0) := rc_reg_O.trans (by kernel_rfl)
@[go_sem] noncomputable def R_regs_Of_1 (_base : Nat) (s : St) (v1 v2 : V) : Option (Ex × Env × St) :=
  obind (iadv 24 8 18 v1 (.int .i64 0)) fun x0 =>
  obind (ldv s 18 x0) fun x1 =>
  obind (rf D f_word_Number [x1, (.int .i64 1099511627776)] s) fun x2 =>
  obind (extv 0 x2.1) fun x3 =>
  obind (extv 1 x2.1) fun x4 =>
  some (.normal, [(1, v1), (2, v2), (4, x3), (5, x4)], x2.2)
@[go_sem] theorem rc_regs_Of_1 {base : Nat} {ρ : Env} {s : St} : rc D base (.reg (some [1, 2, 4, 5]) o_regs_Of_1) ρ s = R_regs_Of_1 base s (get ρ 1) (get ρ 2) := rc_reg_O.trans (by kernel_rfl)
@[go_sem] noncomputable def R_regs_Of_2 (_base : Nat) (s : St) (v1 v2 v4 v5 : V) : Option (Ex × Env × St) :=
  obind (vbin .neq v5 (.int .i64 0)) fun x0 =>
  some (.normal, [(1, v1), (2, v2), (4, v4), (17, x0)], s)
@[go_sem] theorem rc_regs_Of_2 {base : Nat} {ρ : Env} {s : St} : rc D base (.reg (some [1, 2, 4, 17]) o_regs_Of_2) ρ s = R_regs_Of_2 base s (get ρ 1) (get ρ 2) (get ρ 4) (get ρ 5) := rc_reg_O.trans (by kernel_rfl)
@[go_sem] noncomputable def R_regs_Of_3 (base : Nat) (s : St) (v2 : V) : Option (Ex × Env × St) :=
  obind (setParts [(.int .i64 0), (.agg 62 (List.replicate 4 (.int .u64 0))), (.int .u64 0), (.int .u64 0), (.int .i64 0), (.int .i64 0), (.int .i64 0), (.int .i64 0)] []) fun x0 =>
  obind (stv base s 64 (.agg 64 x0) v2) fun s1 =>
  some (.normal, [(2, v2), (3, (.bool false))], s1)
@[go_sem] theorem rc_regs_Of_3 {base : Nat} {ρ : Env} {s : St} : rc D base (.reg (some [2, 3]) o_regs_Of_3) ρ s = R_regs_Of_3 base s (get ρ 2) := rc_reg_O.trans (by kernel_rfl)
@[go_sem] noncomputable def R_regs_Of_4 (_base : Nat) (s : St) (v1 v2 v4 : V) : Option (Ex × Env × St) :=
  obind (mkfnv f_regs_Of_1 [v1]) fun x0 =>
  some (.normal, [(1, v1), (2, v2), (4, v4), (6, x0)], s)
@[go_sem] theorem rc_regs_Of_4 {base : Nat} {ρ : Env} {s : St} : rc D base (.reg (some [1, 2, 4, 6]) o_regs_Of_4) ρ s = R_regs_Of_4 base s (get ρ 1) (get ρ 2) (get ρ 4) := rc_reg_O.trans (by kernel_rfl)
@[go_sem] noncomputable def R_regs_Of_5 (base : Nat) (s : St) (v1 v2 v4 v6 : V) : Option (Ex × Env × St) :=
  obind (iadv 24 8 18 v1 (.int .i64 5)) fun x0 =>
  obind (ldv s 18 x0) fun x1 =>
  obind (iadv 24 8 18 v1 (.int .i64 6)) fun x2 =>
  obind (ldv s 18 x2) fun x3 =>
  obind (pcallv D base [(.int .i64 0), (.int .i64 4)] s v6) fun x4 =>
  obind (pcallv D base [(.int .i64 4), (.int .i64 16)] s v6) fun x5 =>
  obind (pcallv D base [(.int .i64 20), (.int .i64 4)] s v6) fun x6 =>
  obind (pcallv D base [(.int .i64 24), (.int .i64 1)] s v6) fun x7 =>
  obind (setParts [(.int .i64 0), (.agg 62 (List.replicate 4 (.int .u64 0))), (.int .u64 0), (.int .u64 0), (.int .i64 0), (.int .i64 0), (.int .i64 0), (.int .i64 0)] [(0, v4), (2, x1), (3, x3), (4, x4), (5, x5), (6, x6), (7, x7)]) fun x8 =>
  let x9 : V := .ptr (St.fresh s false) [] 64; let s9 : St := St.new s false (.agg 64 [(.int .i64 0), (.agg 62 (List.replicate 4 (.int .u64 0))), (.int .u64 0), (.int .u64 0), (.int .i64 0), (.int .i64 0), (.int .i64 0), (.int .i64 0)])
  obind (stv base s9 64 (.agg 64 x8) x9) fun s10 =>
  some (.normal, [(1, v1), (2, v2), (7, x9)], s10)
@[go_sem] theorem rc_regs_Of_5 {base : Nat} {ρ : Env} {s : St} : rc D base (.regd (some [1, 2, 7]) o_regs_Of_5) ρ s = R_regs_Of_5 base s (get ρ 1) (get ρ 2) (get ρ 4) (get ρ 6) := rc_regd_O.trans (by kernel_rfl)
@[go_sem] noncomputable def R_regs_Of_6 (base : Nat) (s : St) (v1 v2 v7 : V) : Option (Ex × Env × St) :=
  obind (fadv 64 1 62 v7) fun x0 =>
  obind (slarrv s 62 4 18 none none none x0) fun x1 =>
  obind (slarrv s 24 8 18 (some (.int .i64 1)) none none v1) fun x2 =>
  obind (vcopy base 18 x1 x2 s) fun x3 =>
  some (.normal, [(1, v1), (2, v2), (7, v7)], x3.2)
@[go_sem] theorem rc_regs_Of_6 {base : Nat} {ρ : Env} {s : St} : rc D base (.regd (some [1, 2, 7]) o_regs_Of_6) ρ s = R_regs_Of_6 base s (get ρ 1) (get ρ 2) (get ρ 7) := rc_regd_O.trans (by kernel_rfl)
@[go_sem] noncomputable def R_regs_Of_7 (base : Nat) (s : St) (v1 v2 v7 : V) : Option (Ex × Env × St) :=
  obind (ldv s 64 v7) fun x0 =>
  obind (rf D f_regs_Line [x0] s) fun x1 =>
  obind (extv 0 x1.1) fun x2 =>
  obind (extv 1 x1.1) fun x3 =>
  let x4 : V := .ptr (St.fresh x1.2 false) [] 24; let s4 : St := St.new x1.2 false (.agg 24 (List.replicate 8 (.int .u64 0)))
  obind (stv base s4 24 x2 x4) fun s5 =>
  some (.normal, [(1, v1), (2, v2), (7, v7), (8, x4), (9, x3)], s5)
@[go_sem] theorem rc_regs_Of_7 {base : Nat} {ρ : Env} {s : St} : rc D base (.reg (some [1, 2, 7, 8, 9]) o_regs_Of_7) ρ s = R_regs_Of_7 base s (get ρ 1) (get ρ 2) (get ρ 7) := rc_reg_O.trans (by kernel_rfl)
@[go_sem] noncomputable def R_regs_Of_8 (_base : Nat) (s : St) (v1 v2 v7 v8 v9 : V) : Option (Ex × Env × St) :=
  obind (vbin .neq v9 (.int .i64 0)) fun x0 =>
  oguard x0 false (
    obind (ldv s 24 v8) fun x1 =>
    obind (ldv s 24 v1) fun x2 =>
    obind (eqv true 24 x1 x2) fun x3 =>
    some (.normal, [(2, v2), (7, v7), (49, x3)], s)) (
    some (.normal, [(2, v2), (7, v7), (49, (.bool true))], s)) (
    none)
@[go_sem] theorem rc_regs_Of_8 {base : Nat} {ρ : Env} {s : St} : rc D base (.reg (some [2, 7, 49]) o_regs_Of_8) ρ s = R_regs_Of_8 base s (get ρ 1) (get ρ 2) (get ρ 7) (get ρ 8) (get ρ 9) := rc_reg_O.trans (by kernel_rfl)
@[go_sem] noncomputable def R_regs_Of_9 (base : Nat) (s : St) (v2 : V) : Option (Ex × Env × St) :=
  obind (setParts [(.int .i64 0), (.agg 62 (List.replicate 4 (.int .u64 0))), (.int .u64 0), (.int .u64 0), (.int .i64 0), (.int .i64 0), (.int .i64 0), (.int .i64 0)] []) fun x0 =>
  obind (stv base s 64 (.agg 64 x0) v2) fun s1 =>
  some (.normal, [(2, v2), (3, (.bool false))], s1)
@[go_sem] theorem rc_regs_Of_9 {base : Nat} {ρ : Env} {s : St} : rc D base (.reg (some [2, 3]) o_regs_Of_9) ρ s = R_regs_Of_9 base s (get ρ 2) := rc_reg_O.trans (by kernel_rfl)
@[go_sem] noncomputable def R_regs_Of_10 (base : Nat) (s : St) (v2 v7 : V) : Option (Ex × Env × St) :=
  obind (ldv s 64 v7) fun x0 =>
  obind (stv base s 64 x0 v2) fun s1 =>
  some (.normal, [(2, v2), (3, (.bool true))], s1)
@[go_sem] theorem rc_regs_Of_10 {base : Nat} {ρ : Env} {s : St} : rc D base (.reg (some [2, 3]) o_regs_Of_10) ρ s = R_regs_Of_10 base s (get ρ 2) (get ρ 7) := rc_reg_O.trans (by kernel_rfl)

@[go_sem] noncomputable def R_steadfastref14_Of_0 (_base : Nat) (s : St) (v0 : V) : Option (Ex × Env × St) :=
  if V.ok v0 && mayNew false v0 then let x0 : V := .ptr (St.fresh s false) [] (V.tag v0); let s0 : St := St.new s false v0
  let x1 : V := .ptr (St.fresh s0 false) [] 64; let s1 : St := St.new s0 false (.agg 64 [(.int .i64 0), (.agg 62 (List.replicate 4 (.int .u64 0))), (.int .u64 0), (.int .u64 0), (.int .i64 0), (.int .i64 0), (.int .i64 0), (.int .i64 0)])
  some (.normal, [(1, x0), (2, x1)], s1)
  else none
@[go_sem] theorem rc_steadfastref14_Of_0 {base : Nat} {ρ : Env} {s : St} : rc D base (.reg (some [1, 2]) o_steadfastref14_Of_0) ρ s = R_steadfastref14_Of_0 base s (get ρ 0) := rc_reg_O.trans (by kernel_rfl)
@[go_sem] noncomputable def R_steadfastref14_Of_1 (base : Nat) (s : St) (v1 v2 : V) : Option (Ex × Env × St) :=
  obind (iadv 24 8 18 v1 (.int .i64 1)) fun x0 =>
  obind (ldv s 18 x0) fun x1 =>
  obind (iadv 24 8 18 v1 (.int .i64 2)) fun x2 =>
  obind (ldv s 18 x2) fun x3 =>
  obind (iadv 24 8 18 v1 (.int .i64 3)) fun x4 =>
  obind (ldv s 18 x4) fun x5 =>
  obind (iadv 24 8 18 v1 (.int .i64 4)) fun x6 =>
  obind (ldv s 18 x6) fun x7 =>
  obind (setParts (List.replicate 4 (.int .u64 0)) [(0, x1), (1, x3), (2, x5), (3, x7)]) fun x8 =>
  obind (iadv 24 8 18 v1 (.int .i64 5)) fun x9 =>
  obind (ldv s 18 x9) fun x10 =>
  obind (iadv 24 8 18 v1 (.int .i64 6)) fun x11 =>
  obind (ldv s 18 x11) fun x12 =>
  obind (setParts [(.int .i64 0), (.agg 62 (List.replicate 4 (.int .u64 0))), (.int .u64 0), (.int .u64 0), (.int .i64 0), (.int .i64 0), (.int .i64 0), (.int .i64 0)] [(1, (.agg 62 x8)), (2, x10), (3, x12)]) fun x13 =>
  let x14 : V := .ptr (St.fresh s false) [] 64; let s14 : St := St.new s false (.agg 64 [(.int .i64 0), (.agg 62 (List.replicate 4 (.int .u64 0))), (.int .u64 0), (.int .u64 0), (.int .i64 0), (.int .i64 0), (.int .i64 0), (.int .i64 0)])
  obind (stv base s14 64 (.agg 64 x13) x14) fun s15 =>
  some (.normal, [(1, v1), (2, v2), (4, x14)], s15)
@[go_sem] theorem rc_steadfastref14_Of_1 {base : Nat} {ρ : Env} {s : St} : rc D base (.reg (some [1, 2, 4]) o_steadfastref14_Of_1) ρ s = R_steadfastref14_Of_1 base s (get ρ 1) (get ρ 2) := rc_reg_O.trans (by kernel_rfl)
@[go_sem] noncomputable def R_steadfastref14_Of_2 (_base : Nat) (s : St) (v1 v2 v4 : V) : Option (Ex × Env × St) :=
  obind (iadv 24 8 18 v1 (.int .i64 0)) fun x0 =>
  obind (ldv s 18 x0) fun x1 =>
  obind (rf D f_steadfastref01_Number [x1, (.int .i64 1099511627776)] s) fun x2 =>
  obind (extv 0 x2.1) fun x3 =>
  obind (extv 1 x2.1) fun x4 =>
  some (.normal, [(1, v1), (2, v2), (4, v4), (5, x3), (6, x4)], x2.2)
@[go_sem] theorem rc_steadfastref14_Of_2 {base : Nat} {ρ : Env} {s : St} : rc D base (.reg (some [1, 2, 4, 5, 6]) o_steadfastref14_Of_2) ρ s = R_steadfastref14_Of_2 base s (get ρ 1) (get ρ 2) (get ρ 4) := rc_reg_O.trans (by kernel_rfl)
@[go_sem] noncomputable def R_steadfastref14_Of_3 (_base : Nat) (s : St) (v1 v2 v4 v5 v6 : V) : Option (Ex × Env × St) :=
  obind (vbin .neq v6 (.int .i64 0)) fun x0 =>
  some (.normal, [(1, v1), (2, v2), (4, v4), (5, v5), (29, x0)], s)
@[go_sem] theorem rc_steadfastref14_Of_3 {base : Nat} {ρ : Env} {s : St} : rc D base (.reg (some [1, 2, 4, 5, 29]) o_steadfastref14_Of_3) ρ s = R_steadfastref14_Of_3 base s (get ρ 1) (get ρ 2) (get ρ 4) (get ρ 5) (get ρ 6) := rc_reg_O.trans (by kernel_rfl)
@[go_sem] noncomputable def R_steadfastref14_Of_4 (base : Nat) (s : St) (v2 : V) : Option (Ex × Env × St) :=
  obind (setParts [(.int .i64 0), (.agg 62 (List.replicate 4 (.int .u64 0))), (.int .u64 0), (.int .u64 0), (.int .i64 0), (.int .i64 0), (.int .i64 0), (.int .i64 0)] []) fun x0 =>
  obind (stv base s 64 (.agg 64 x0) v2) fun s1 =>
  some (.normal, [(2, v2), (3, (.bool false))], s1)
@[go_sem] theorem rc_steadfastref14_Of_4 {base : Nat} {ρ : Env} {s : St} : rc D base (.reg (some [2, 3]) o_steadfastref14_Of_4) ρ s = R_steadfastref14_Of_4 base s (get ρ 2) := rc_reg_O.trans (by kernel_rfl)
@[go_sem] noncomputable def R_steadfastref14_Of_5 (base : Nat) (s : St) (v1 v2 v4 v5 : V) : Option (Ex × Env × St) :=
  obind (fadv 64 0 10 v4) fun x0 =>
  obind (stv base s 10 v5 x0) fun s1 =>
  some (.normal, [(1, v1), (2, v2), (4, v4)], s1)
@[go_sem] theorem rc_steadfastref14_Of_5 {base : Nat} {ρ : Env} {s : St} : rc D base (.reg (some [1, 2, 4]) o_steadfastref14_Of_5) ρ s = R_steadfastref14_Of_5 base s (get ρ 1) (get ρ 2) (get ρ 4) (get ρ 5) := rc_reg_O.trans (by kernel_rfl)
@[go_sem] noncomputable def R_steadfastref14_Of_6 (base : Nat) (s : St) (v1 v2 v4 : V) : Option (Ex × Env × St) :=
  obind (iadv 24 8 18 v1 (.int .i64 7)) fun x0 =>
  obind (ldv s 18 x0) fun x1 =>
  obind (rf D f_steadfastref01_Field [x1, (.int .i64 0), (.int .i64 4)] s) fun x2 =>
  obind (convv .i64 x2.1) fun x3 =>
  obind (fadv 64 4 10 v4) fun x4 =>
  obind (stv base x2.2 10 x3 x4) fun s5 =>
  some (.normal, [(1, v1), (2, v2), (4, v4)], s5)
@[go_sem] theorem rc_steadfastref14_Of_6 {base : Nat} {ρ : Env} {s : St} : rc D base (.reg (some [1, 2, 4]) o_steadfastref14_Of_6) ρ s = R_steadfastref14_Of_6 base s (get ρ 1) (get ρ 2) (get ρ 4) := rc_reg_O.trans (by kernel_rfl)
@[go_sem] noncomputable def R_steadfastref14_Of_7 (base : Nat) (s : St) (v1 v2 v4 : V) : Option (Ex × Env × St) :=
  obind (iadv 24 8 18 v1 (.int .i64 7)) fun x0 =>
  obind (ldv s 18 x0) fun x1 =>
  obind (rf D f_steadfastref01_Field [x1, (.int .i64 4), (.int .i64 16)] s) fun x2 =>
  obind (convv .i64 x2.1) fun x3 =>
  obind (fadv 64 5 10 v4) fun x4 =>
  obind (stv base x2.2 10 x3 x4) fun s5 =>
  some (.normal, [(1, v1), (2, v2), (4, v4)], s5)
@[go_sem] theorem rc_steadfastref14_Of_7 {base : Nat} {ρ : Env} {s : St} : rc D base (.reg (some [1, 2, 4]) o_steadfastref14_Of_7) ρ s = R_steadfastref14_Of_7 base s (get ρ 1) (get ρ 2) (get ρ 4) := rc_reg_O.trans (by kernel_rfl)
@[go_sem] noncomputable def R_steadfastref14_Of_8 (base : Nat) (s : St) (v1 v2 v4 : V) : Option (Ex × Env × St) :=
  obind (iadv 24 8 18 v1 (.int .i64 7)) fun x0 =>
  obind (ldv s 18 x0) fun x1 =>
  obind (rf D f_steadfastref01_Field [x1, (.int .i64 20), (.int .i64 4)] s) fun x2 =>
  obind (convv .i64 x2.1) fun x3 =>
  obind (fadv 64 6 10 v4) fun x4 =>
  obind (stv base x2.2 10 x3 x4) fun s5 =>
  some (.normal, [(1, v1), (2, v2), (4, v4)], s5)
@[go_sem] theorem rc_steadfastref14_Of_8 {base : Nat} {ρ : Env} {s : St} : rc D base (.reg (some [1, 2, 4]) o_steadfastref14_Of_8) ρ s = R_steadfastref14_Of_8 base s (get ρ 1) (get ρ 2) (get ρ 4) := rc_reg_O.trans (by kernel_rfl)
@[go_sem] noncomputable def R_steadfastref14_Of_9 (base : Nat) (s : St) (v1 v2 v4 : V) : Option (Ex × Env × St) :=
  obind (iadv 24 8 18 v1 (.int .i64 7)) fun x0 =>
  obind (ldv s 18 x0) fun x1 =>
  obind (rf D f_steadfastref01_Field [x1, (.int .i64 24), (.int .i64 1)] s) fun x2 =>
  obind (convv .i64 x2.1) fun x3 =>
  obind (fadv 64 7 10 v4) fun x4 =>
  obind (stv base x2.2 10 x3 x4) fun s5 =>
  some (.normal, [(1, v1), (2, v2), (4, v4)], s5)
@[go_sem] theorem rc_steadfastref14_Of_9 {base : Nat} {ρ : Env} {s : St} : rc D base (.reg (some [1, 2, 4]) o_steadfastref14_Of_9) ρ s = R_steadfastref14_Of_9 base s (get ρ 1) (get ρ 2) (get ρ 4) := rc_reg_O.trans (by kernel_rfl)
@[go_sem] noncomputable def R_steadfastref14_Of_10 (base : Nat) (s : St) (v1 v2 v4 : V) : Option (Ex × Env × St) :=
  obind (ldv s 64 v4) fun x0 =>
  obind (rf D f_steadfastref14_Line [x0] s) fun x1 =>
  obind (extv 0 x1.1) fun x2 =>
  obind (extv 1 x1.1) fun x3 =>
  let x4 : V := .ptr (St.fresh x1.2 false) [] 24; let s4 : St := St.new x1.2 false (.agg 24 (List.replicate 8 (.int .u64 0)))
  obind (stv base s4 24 x2 x4) fun s5 =>
  some (.normal, [(1, v1), (2, v2), (4, v4), (6, x3), (7, x4)], s5)
@[go_sem] theorem rc_steadfastref14_Of_10 {base : Nat} {ρ : Env} {s : St} : rc D base (.reg (some [1, 2, 4, 6, 7]) o_steadfastref14_Of_10) ρ s = R_steadfastref14_Of_10 base s (get ρ 1) (get ρ 2) (get ρ 4) := rc_reg_O.trans (by kernel_rfl)
@[go_sem] noncomputable def R_steadfastref14_Of_11 (_base : Nat) (s : St) (v1 v2 v4 v6 v7 : V) : Option (Ex × Env × St) :=
  obind (vbin .neq v6 (.int .i64 0)) fun x0 =>
  oguard x0 false (
    obind (ldv s 24 v7) fun x1 =>
    obind (ldv s 24 v1) fun x2 =>
    obind (eqv true 24 x1 x2) fun x3 =>
    some (.normal, [(2, v2), (4, v4), (64, x3)], s)) (
    some (.normal, [(2, v2), (4, v4), (64, (.bool true))], s)) (
    none)
@[go_sem] theorem rc_steadfastref14_Of_11 {base : Nat} {ρ : Env} {s : St} : rc D base (.reg (some [2, 4, 64]) o_steadfastref14_Of_11) ρ s = R_steadfastref14_Of_11 base s (get ρ 1) (get ρ 2) (get ρ 4) (get ρ 6) (get ρ 7) := rc_reg_O.trans (by kernel_rfl)
@[go_sem] noncomputable def R_steadfastref14_Of_12 (base : Nat) (s : St) (v2 : V) : Option (Ex × Env × St) :=
  obind (setParts [(.int .i64 0), (.agg 62 (List.replicate 4 (.int .u64 0))), (.int .u64 0), (.int .u64 0), (.int .i64 0), (.int .i64 0), (.int .i64 0), (.int .i64 0)] []) fun x0 =>
  obind (stv base s 64 (.agg 64 x0) v2) fun s1 =>
  some (.normal, [(2, v2), (3, (.bool false))], s1)
@[go_sem] theorem rc_steadfastref14_Of_12 {base : Nat} {ρ : Env} {s : St} : rc D base (.reg (some [2, 3]) o_steadfastref14_Of_12) ρ s = R_steadfastref14_Of_12 base s (get ρ 2) := rc_reg_O.trans (by kernel_rfl)
@[go_sem] noncomputable def R_steadfastref14_Of_13 (base : Nat) (s : St) (v2 v4 : V) : Option (Ex × Env × St) :=
  obind (ldv s 64 v4) fun x0 =>
  obind (stv base s 64 x0 v2) fun s1 =>
  some (.normal, [(2, v2), (3, (.bool true))], s1)
@[go_sem] theorem rc_steadfastref14_Of_13 {base : Nat} {ρ : Env} {s : St} : rc D base (.reg (some [2, 3]) o_steadfastref14_Of_13) ρ s = R_steadfastref14_Of_13 base s (get ρ 2) (get ρ 4) := rc_reg_O.trans (by kernel_rfl)

@[go_sem] noncomputable def R_slices_ContainsFunc_int_0 (_base : Nat) (s : St) (v0 v1 : V) : Option (Ex × Env × St) :=
  some (.normal, [(0, v0), (1, v1)], s)
@[go_sem] theorem rc_slices_ContainsFunc_int_0 {base : Nat} {ρ : Env} {s : St} : rc D base (.reg (some [0, 1]) o_slices_ContainsFunc_int_0) ρ s = R_slices_ContainsFunc_int_0 base s (get ρ 0) (get ρ 1) := rc_reg_O.trans (by kernel_rfl)
@[go_sem] noncomputable def R_slices_ContainsFunc_int_1 (_base : Nat) (s : St) (v0 v1 : V) : Option (Ex × Env × St) :=
  obind (rf D f_slices_IndexFunc_int [v0, v1] s) fun x0 =>
  obind (vbin .geq x0.1 (.int .i64 0)) fun x1 =>
  some (.normal, [(4, x1)], x0.2)
@[go_sem] theorem rc_slices_ContainsFunc_int_1 {base : Nat} {ρ : Env} {s : St} : rc D base (.reg (some [4]) o_slices_ContainsFunc_int_1) ρ s = R_slices_ContainsFunc_int_1 base s (get ρ 0) (get ρ 1) := rc_reg_O.trans (by kernel_rfl)

@[go_sem] noncomputable def R_reach_Apart_1_0 (_base : Nat) (s : St) (v0 v1 v2 : V) : Option (Ex × Env × St) :=
  if V.ok v0 && mayNew false v0 then let x0 : V := .ptr (St.fresh s false) [] (V.tag v0); let s0 : St := St.new s false v0
  some (.normal, [(1, v1), (2, v2), (3, x0)], s0)
  else none
@[go_sem] theorem rc_reach_Apart_1_0 {base : Nat} {ρ : Env} {s : St} : rc D base (.reg (some [1, 2, 3]) o_reach_Apart_1_0) ρ s = R_reach_Apart_1_0 base s (get ρ 0) (get ρ 1) (get ρ 2) := rc_reg_O.trans (by kernel_rfl)
@[go_sem] noncomputable def R_reach_Apart_1_1 (base : Nat) (s : St) (v1 v2 v3 : V) : Option (Ex × Env × St) :=
  obind (ldv s 30 v1) fun x0 =>
  obind (ldv s 10 v3) fun x1 =>
  obind (rf D f_reach_Of [x0, x1] s) fun x2 =>
  let x3 : V := .ptr (St.fresh x2.2 false) [] 32; let s3 : St := St.new x2.2 false (.agg 32 (List.replicate 49 (.bool false)))
  obind (stv base s3 32 x2.1 x3) fun s4 =>
  some (.normal, [(1, v1), (2, v2), (3, v3), (5, x3)], s4)
@[go_sem] theorem rc_reach_Apart_1_1 {base : Nat} {ρ : Env} {s : St} : rc D base (.reg (some [1, 2, 3, 5]) o_reach_Apart_1_1) ρ s = R_reach_Apart_1_1 base s (get ρ 1) (get ρ 2) (get ρ 3) := rc_reg_O.trans (by kernel_rfl)
@[go_sem] noncomputable def R_reach_Apart_1_2 (_base : Nat) (s : St) (v1 v2 v3 v5 : V) : Option (Ex × Env × St) :=
  obind (ldv s 1 v2) fun x0 =>
  obind (mkfnv f_reach_Apart_1_1 [v1, v5, v3]) fun x1 =>
  obind (rf D f_slices_ContainsFunc_int [x0, x1] s) fun x2 =>
  some (.normal, [(4, x2.1)], x2.2)
@[go_sem] theorem rc_reach_Apart_1_2 {base : Nat} {ρ : Env} {s : St} : rc D base (.reg (some [4]) o_reach_Apart_1_2) ρ s = R_reach_Apart_1_2 base s (get ρ 1) (get ρ 2) (get ρ 3) (get ρ 5) := rc_reg_O.trans (by kernel_rfl)

@[go_sem] noncomputable def R_reach_Apart_1_1_0 (_base : Nat) (s : St) (v0 v1 v2 v3 : V) : Option (Ex × Env × St) :=
  some (.normal, [(0, v0), (1, v1), (2, v2), (3, v3)], s)
@[go_sem] theorem rc_reach_Apart_1_1_0 {base : Nat} {ρ : Env} {s : St} : rc D base (.reg (some [0, 1, 2, 3]) o_reach_Apart_1_1_0) ρ s = R_reach_Apart_1_1_0 base s (get ρ 0) (get ρ 1) (get ρ 2) (get ρ 3) := rc_reg_O.trans (by kernel_rfl)
@[go_sem] noncomputable def R_reach_Apart_1_1_1 (base : Nat) (s : St) (v0 v1 v2 v3 : V) : Option (Ex × Env × St) :=
  obind (ldv s 30 v1) fun x0 =>
  obind (rf D f_reach_Of [x0, v0] s) fun x1 =>
  let x2 : V := .ptr (St.fresh x1.2 false) [] 32; let s2 : St := St.new x1.2 false (.agg 32 (List.replicate 49 (.bool false)))
  obind (stv base s2 32 x1.1 x2) fun s3 =>
  some (.normal, [(0, v0), (2, v2), (3, v3), (6, x2)], s3)
@[go_sem] theorem rc_reach_Apart_1_1_1 {base : Nat} {ρ : Env} {s : St} : rc D base (.reg (some [0, 2, 3, 6]) o_reach_Apart_1_1_1) ρ s = R_reach_Apart_1_1_1 base s (get ρ 0) (get ρ 1) (get ρ 2) (get ρ 3) := rc_reg_O.trans (by kernel_rfl)
@[go_sem] noncomputable def R_reach_Apart_1_1_2 (_base : Nat) (s : St) (v0 v2 v3 v6 : V) : Option (Ex × Env × St) :=
  some (.normal, [(0, v0), (2, v2), (3, v3), (6, v6), (11, (.int .i64 0))], s)
@[go_sem] theorem rc_reach_Apart_1_1_2 {base : Nat} {ρ : Env} {s : St} : rc D base (.reg (some [0, 2, 3, 6, 11]) o_reach_Apart_1_1_2) ρ s = R_reach_Apart_1_1_2 base s (get ρ 0) (get ρ 2) (get ρ 3) (get ρ 6) := rc_reg_O.trans (by kernel_rfl)
@[go_sem] noncomputable def R_reach_Apart_1_1_3 (_base : Nat) (s : St) (v0 v2 v3 v6 v11 : V) : Option (Ex × Env × St) :=
  obind (vbin .lss v11 (.int .i64 49)) fun x0 =>
  some (.normal, [(0, v0), (2, v2), (3, v3), (6, v6), (11, v11), (12, x0)], s)
@[go_sem] theorem rc_reach_Apart_1_1_3 {base : Nat} {ρ : Env} {s : St} : rc D base (.reg (some [0, 2, 3, 6, 11, 12]) o_reach_Apart_1_1_3) ρ s = R_reach_Apart_1_1_3 base s (get ρ 0) (get ρ 2) (get ρ 3) (get ρ 6) (get ρ 11) := rc_reg_O.trans (by kernel_rfl)
@[go_sem] noncomputable def R_reach_Apart_1_1_4 (_base : Nat) (s : St) (v0 v2 v3 v6 v11 : V) : Option (Ex × Env × St) :=
  some (.normal, [(0, v0), (2, v2), (3, v3), (6, v6), (7, v11), (11, v11)], s)
@[go_sem] theorem rc_reach_Apart_1_1_4 {base : Nat} {ρ : Env} {s : St} : rc D base (.reg (some [0, 2, 3, 6, 7, 11]) o_reach_Apart_1_1_4) ρ s = R_reach_Apart_1_1_4 base s (get ρ 0) (get ρ 2) (get ρ 3) (get ρ 6) (get ρ 11) := rc_reg_O.trans (by kernel_rfl)
@[go_sem] noncomputable def R_reach_Apart_1_1_5 (_base : Nat) (s : St) (v0 v2 v3 v6 v7 v11 : V) : Option (Ex × Env × St) :=
  obind (iadv 32 49 0 v2 v7) fun x0 =>
  obind (ldv s 0 x0) fun x1 =>
  oguard x1 true (
    obind (iadv 32 49 0 v6 v7) fun x2 =>
    obind (ldv s 0 x2) fun x3 =>
    oguard x3 false (
      obind (vbin .eql v7 v0) fun x4 =>
      oguard x4 false (
        obind (iadv 32 49 0 v6 v7) fun x5 =>
        obind (ldv s 0 x5) fun x6 =>
        oguard x6 true (
          obind (ldv s 10 v3) fun x7 =>
          obind (vbin .eql v7 x7) fun x8 =>
          some (.normal, [(0, v0), (2, v2), (3, v3), (6, v6), (11, v11), (36, x8)], s)) (
          some (.normal, [(0, v0), (2, v2), (3, v3), (6, v6), (11, v11), (36, (.bool false))], s)) (
          none)) (
        some (.normal, [(0, v0), (2, v2), (3, v3), (6, v6), (11, v11), (36, (.bool true))], s)) (
        none)) (
      some (.normal, [(0, v0), (2, v2), (3, v3), (6, v6), (11, v11), (36, (.bool true))], s)) (
      none)) (
    obind (iadv 32 49 0 v6 v7) fun x2 =>
    obind (ldv s 0 x2) fun x3 =>
    oguard x3 true (
      obind (ldv s 10 v3) fun x4 =>
      obind (vbin .eql v7 x4) fun x5 =>
      some (.normal, [(0, v0), (2, v2), (3, v3), (6, v6), (11, v11), (36, x5)], s)) (
      some (.normal, [(0, v0), (2, v2), (3, v3), (6, v6), (11, v11), (36, (.bool false))], s)) (
      none)) (
    none)
@[go_sem] theorem rc_reach_Apart_1_1_5 {base : Nat} {ρ : Env} {s : St} : rc D base (.reg (some [0, 2, 3, 6, 11, 36]) o_reach_Apart_1_1_5) ρ s = R_reach_Apart_1_1_5 base s (get ρ 0) (get ρ 2) (get ρ 3) (get ρ 6) (get ρ 7) (get ρ 11) := rc_reg_O.trans (by kernel_rfl)
@[go_sem] noncomputable def R_reach_Apart_1_1_6 (_base : Nat) (s : St) : Option (Ex × Env × St) :=
  some (.normal, [(5, (.bool true))], s)
@[go_sem] theorem rc_reach_Apart_1_1_6 {base : Nat} {ρ : Env} {s : St} : rc D base (.reg (some [5]) o_reach_Apart_1_1_6) ρ s = R_reach_Apart_1_1_6 base s := rc_reg_O.trans (by kernel_rfl)
@[go_sem] noncomputable def R_reach_Apart_1_1_7 (_base : Nat) (s : St) (v0 v2 v3 v6 v11 : V) : Option (Ex × Env × St) :=
  obind (vbin .add v11 (.int .i64 1)) fun x0 =>
  some (.normal, [(0, v0), (2, v2), (3, v3), (6, v6), (11, x0)], s)
@[go_sem] theorem rc_reach_Apart_1_1_7 {base : Nat} {ρ : Env} {s : St} : rc D base (.reg (some [0, 2, 3, 6, 11]) o_reach_Apart_1_1_7) ρ s = R_reach_Apart_1_1_7 base s (get ρ 0) (get ρ 2) (get ρ 3) (get ρ 6) (get ρ 11) := rc_reg_O.trans (by kernel_rfl)
@[go_sem] noncomputable def R_reach_Apart_1_1_8 (_base : Nat) (s : St) : Option (Ex × Env × St) :=
  some (.normal, [(5, (.bool false))], s)
@[go_sem] theorem rc_reach_Apart_1_1_8 {base : Nat} {ρ : Env} {s : St} : rc D base (.reg (some [5]) o_reach_Apart_1_1_8) ρ s = R_reach_Apart_1_1_8 base s := rc_reg_O.trans (by kernel_rfl)

@[go_sem] noncomputable def R_slices_ContainsFunc_api_Object_0 (_base : Nat) (s : St) (v0 v1 : V) : Option (Ex × Env × St) :=
  some (.normal, [(0, v0), (1, v1)], s)
@[go_sem] theorem rc_slices_ContainsFunc_api_Object_0 {base : Nat} {ρ : Env} {s : St} : rc D base (.reg (some [0, 1]) o_slices_ContainsFunc_api_Object_0) ρ s = R_slices_ContainsFunc_api_Object_0 base s (get ρ 0) (get ρ 1) := rc_reg_O.trans (by kernel_rfl)
@[go_sem] noncomputable def R_slices_ContainsFunc_api_Object_1 (_base : Nat) (s : St) (v0 v1 : V) : Option (Ex × Env × St) :=
  obind (rf D f_slices_IndexFunc_api_Object [v0, v1] s) fun x0 =>
  obind (vbin .geq x0.1 (.int .i64 0)) fun x1 =>
  some (.normal, [(4, x1)], x0.2)
@[go_sem] theorem rc_slices_ContainsFunc_api_Object_1 {base : Nat} {ρ : Env} {s : St} : rc D base (.reg (some [4]) o_slices_ContainsFunc_api_Object_1) ρ s = R_slices_ContainsFunc_api_Object_1 base s (get ρ 0) (get ρ 1) := rc_reg_O.trans (by kernel_rfl)

@[go_sem] noncomputable def R_reach_Holds_1_0 (_base : Nat) (s : St) (v0 v1 : V) : Option (Ex × Env × St) :=
  if V.ok v0 && mayNew false v0 then let x0 : V := .ptr (St.fresh s false) [] (V.tag v0); let s0 : St := St.new s false v0
  some (.normal, [(1, v1), (2, x0)], s0)
  else none
@[go_sem] theorem rc_reach_Holds_1_0 {base : Nat} {ρ : Env} {s : St} : rc D base (.reg (some [1, 2]) o_reach_Holds_1_0) ρ s = R_reach_Holds_1_0 base s (get ρ 0) (get ρ 1) := rc_reg_O.trans (by kernel_rfl)
@[go_sem] noncomputable def R_reach_Holds_1_1 (_base : Nat) (s : St) (v1 v2 : V) : Option (Ex × Env × St) :=
  obind (fadv 26 0 10 v2) fun x0 =>
  obind (ldv s 10 x0) fun x1 =>
  obind (vbin .eql x1 (.int .i64 2)) fun x2 =>
  oguard x2 true (
    obind (fadv 26 2 24 v2) fun x3 =>
    obind (slarrv s 24 8 18 none none none x3) fun x4 =>
    obind (mkfnv f_reach_Holds_1_1 [v1]) fun x5 =>
    obind (rf D f_slices_ContainsFunc_uint64 [x4, x5] s) fun x6 =>
    some (.normal, [(3, x6.1)], x6.2)) (
    some (.normal, [(3, (.bool false))], s)) (
    none)
@[go_sem] theorem rc_reach_Holds_1_1 {base : Nat} {ρ : Env} {s : St} : rc D base (.reg (some [3]) o_reach_Holds_1_1) ρ s = R_reach_Holds_1_1 base s (get ρ 1) (get ρ 2) := rc_reg_O.trans (by kernel_rfl)

@[go_sem] noncomputable def R_slices_ContainsFunc_uint64_0 (_base : Nat) (s : St) (v0 v1 : V) : Option (Ex × Env × St) :=
  some (.normal, [(0, v0), (1, v1)], s)
@[go_sem] theorem rc_slices_ContainsFunc_uint64_0 {base : Nat} {ρ : Env} {s : St} : rc D base (.reg (some [0, 1]) o_slices_ContainsFunc_uint64_0) ρ s = R_slices_ContainsFunc_uint64_0 base s (get ρ 0) (get ρ 1) := rc_reg_O.trans (by kernel_rfl)
@[go_sem] noncomputable def R_slices_ContainsFunc_uint64_1 (_base : Nat) (s : St) (v0 v1 : V) : Option (Ex × Env × St) :=
  obind (rf D f_slices_IndexFunc_uint64 [v0, v1] s) fun x0 =>
  obind (vbin .geq x0.1 (.int .i64 0)) fun x1 =>
  some (.normal, [(4, x1)], x0.2)
@[go_sem] theorem rc_slices_ContainsFunc_uint64_1 {base : Nat} {ρ : Env} {s : St} : rc D base (.reg (some [4]) o_slices_ContainsFunc_uint64_1) ρ s = R_slices_ContainsFunc_uint64_1 base s (get ρ 0) (get ρ 1) := rc_reg_O.trans (by kernel_rfl)

@[go_sem] noncomputable def R_reach_Holds_1_1_0 (_base : Nat) (s : St) (v0 v1 : V) : Option (Ex × Env × St) :=
  some (.normal, [(0, v0), (1, v1)], s)
@[go_sem] theorem rc_reach_Holds_1_1_0 {base : Nat} {ρ : Env} {s : St} : rc D base (.reg (some [0, 1]) o_reach_Holds_1_1_0) ρ s = R_reach_Holds_1_1_0 base s (get ρ 0) (get ρ 1) := rc_reg_O.trans (by kernel_rfl)
@[go_sem] noncomputable def R_reach_Holds_1_1_1 (base : Nat) (s : St) (v0 v1 : V) : Option (Ex × Env × St) :=
  obind (rf D f_caps_Of [v0] s) fun x0 =>
  obind (extv 0 x0.1) fun x1 =>
  obind (extv 1 x0.1) fun x2 =>
  let x3 : V := .ptr (St.fresh x0.2 false) [] 40; let s3 : St := St.new x0.2 false (.agg 40 [(.int .i64 0), (.int .i64 0), (.int .i64 0), (.int .i64 0), (.int .i64 0)])
  obind (stv base s3 40 x1 x3) fun s4 =>
  some (.normal, [(1, v1), (4, x3), (5, x2)], s4)
@[go_sem] theorem rc_reach_Holds_1_1_1 {base : Nat} {ρ : Env} {s : St} : rc D base (.reg (some [1, 4, 5]) o_reach_Holds_1_1_1) ρ s = R_reach_Holds_1_1_1 base s (get ρ 0) (get ρ 1) := rc_reg_O.trans (by kernel_rfl)
@[go_sem] noncomputable def R_reach_Holds_1_1_2 (_base : Nat) (s : St) (v1 v4 v5 : V) : Option (Ex × Env × St) :=
  oguard v5 true (
    obind (fadv 40 0 10 v4) fun x0 =>
    obind (ldv s 10 x0) fun x1 =>
    obind (ldv s 10 v1) fun x2 =>
    obind (vbin .eql x1 x2) fun x3 =>
    some (.normal, [(3, x3)], s)) (
    some (.normal, [(3, (.bool false))], s)) (
    none)
@[go_sem] theorem rc_reach_Holds_1_1_2 {base : Nat} {ρ : Env} {s : St} : rc D base (.reg (some [3]) o_reach_Holds_1_1_2) ρ s = R_reach_Holds_1_1_2 base s (get ρ 1) (get ρ 4) (get ρ 5) := rc_reg_O.trans (by kernel_rfl)

@[go_sem] noncomputable def R_caps_may_0 (_base : Nat) (s : St) (v0 : V) : Option (Ex × Env × St) :=
  if V.ok v0 && mayNew false v0 then let x0 : V := .ptr (St.fresh s false) [] (V.tag v0); let s0 : St := St.new s false v0
  some (.normal, [(1, x0)], s0)
  else none
@[go_sem] theorem rc_caps_may_0 {base : Nat} {ρ : Env} {s : St} : rc D base (.reg (some [1]) o_caps_may_0) ρ s = R_caps_may_0 base s (get ρ 0) := rc_reg_O.trans (by kernel_rfl)
@[go_sem] noncomputable def R_caps_may_1 (_base : Nat) (s : St) (v1 : V) : Option (Ex × Env × St) :=
  obind (fadv 40 0 10 v1) fun x0 =>
  obind (ldv s 10 x0) fun x1 =>
  obind (vbin .eql x1 (.int .i64 5)) fun x2 =>
  oguard x2 false (
    obind (fadv 40 0 10 v1) fun x3 =>
    obind (ldv s 10 x3) fun x4 =>
    obind (vbin .eql x4 (.int .i64 6)) fun x5 =>
    some (.normal, [(1, v1), (3, x5)], s)) (
    some (.normal, [(1, v1), (3, (.bool true))], s)) (
    none)
@[go_sem] theorem rc_caps_may_1 {base : Nat} {ρ : Env} {s : St} : rc D base (.reg (some [1, 3]) o_caps_may_1) ρ s = R_caps_may_1 base s (get ρ 1) := rc_reg_O.trans (by kernel_rfl)
@[go_sem] noncomputable def R_caps_may_2 (_base : Nat) (s : St) (v1 v3 : V) : Option (Ex × Env × St) :=
  obind (fadv 40 0 10 v1) fun x0 =>
  obind (ldv s 10 x0) fun x1 =>
  obind (rf D f_caps_within [x1, (.int .i64 1), (.int .i64 6)] s) fun x2 =>
  oguard x2.1 true (
    obind (fadv 40 1 10 v1) fun x3 =>
    obind (ldv x2.2 10 x3) fun x4 =>
    obind (rf D f_caps_within [x4, (.int .i64 0), (.int .i64 15)] x2.2) fun x5 =>
    oguard x5.1 true (
      obind (fadv 40 2 10 v1) fun x6 =>
      obind (ldv x5.2 10 x6) fun x7 =>
      obind (rf D f_caps_within [x7, (.int .i64 0), (.int .i64 48)] x5.2) fun x8 =>
      oguard x8.1 true (
        obind (fadv 40 3 10 v1) fun x9 =>
        obind (ldv x8.2 10 x9) fun x10 =>
        obind (rf D f_caps_within [x10, (.int .i64 0), (.int .i64 16777215)] x8.2) fun x11 =>
        oguard x11.1 true (
          obind (fadv 40 4 10 v1) fun x12 =>
          obind (ldv x11.2 10 x12) fun x13 =>
          obind (rf D f_caps_within [x13, (.int .i64 0), (.int .i64 65535)] x11.2) fun x14 =>
          oguard x14.1 true (
            obind (vun .not v3) fun x15 =>
            oguard x15 false (
              obind (fadv 40 2 10 v1) fun x16 =>
              obind (ldv x14.2 10 x16) fun x17 =>
              obind (vbin .eql x17 (.int .i64 0)) fun x18 =>
              oguard x18 true (
                obind (fadv 40 3 10 v1) fun x19 =>
                obind (ldv x14.2 10 x19) fun x20 =>
                obind (vbin .eql x20 (.int .i64 0)) fun x21 =>
                some (.normal, [(2, x21)], x14.2)) (
                some (.normal, [(2, (.bool false))], x14.2)) (
                none)) (
              some (.normal, [(2, (.bool true))], x14.2)) (
              none)) (
            some (.normal, [(2, (.bool false))], x14.2)) (
            none)) (
          some (.normal, [(2, (.bool false))], x11.2)) (
          none)) (
        some (.normal, [(2, (.bool false))], x8.2)) (
        none)) (
      some (.normal, [(2, (.bool false))], x5.2)) (
      none)) (
    some (.normal, [(2, (.bool false))], x2.2)) (
    none)
@[go_sem] theorem rc_caps_may_2 {base : Nat} {ρ : Env} {s : St} : rc D base (.reg (some [2]) o_caps_may_2) ρ s = R_caps_may_2 base s (get ρ 1) (get ρ 3) := rc_reg_O.trans (by kernel_rfl)

@[go_sem] noncomputable def R_caps_within_0 (_base : Nat) (s : St) (v0 v1 v2 : V) : Option (Ex × Env × St) :=
  some (.normal, [(0, v0), (1, v1), (2, v2)], s)
@[go_sem] theorem rc_caps_within_0 {base : Nat} {ρ : Env} {s : St} : rc D base (.reg (some [0, 1, 2]) o_caps_within_0) ρ s = R_caps_within_0 base s (get ρ 0) (get ρ 1) (get ρ 2) := rc_reg_O.trans (by kernel_rfl)
@[go_sem] noncomputable def R_caps_within_1 (_base : Nat) (s : St) (v0 v1 v2 : V) : Option (Ex × Env × St) :=
  obind (vbin .geq v0 v1) fun x0 =>
  oguard x0 true (
    obind (vbin .leq v0 v2) fun x1 =>
    some (.normal, [(6, x1)], s)) (
    some (.normal, [(6, (.bool false))], s)) (
    none)
@[go_sem] theorem rc_caps_within_1 {base : Nat} {ρ : Env} {s : St} : rc D base (.reg (some [6]) o_caps_within_1) ρ s = R_caps_within_1 base s (get ρ 0) (get ρ 1) (get ρ 2) := rc_reg_O.trans (by kernel_rfl)

@[go_sem] noncomputable def R_steadfastref01_With_0 (_base : Nat) (s : St) (v0 v1 v2 v3 : V) : Option (Ex × Env × St) :=
  some (.normal, [(0, v0), (1, v1), (2, v2), (3, v3)], s)
@[go_sem] theorem rc_steadfastref01_With_0 {base : Nat} {ρ : Env} {s : St} : rc D base (.reg (some [0, 1, 2, 3]) o_steadfastref01_With_0) ρ s = R_steadfastref01_With_0 base s (get ρ 0) (get ρ 1) (get ρ 2) (get ρ 3) := rc_reg_O.trans (by kernel_rfl)
@[go_sem] noncomputable def R_steadfastref01_With_1 (_base : Nat) (s : St) (v0 v1 v2 v3 : V) : Option (Ex × Env × St) :=
  obind (rf D f_steadfastref01_is [v1, v2] s) fun x0 =>
  obind (vun .not x0.1) fun x1 =>
  some (.normal, [(0, v0), (1, v1), (2, v2), (3, v3), (15, x1)], x0.2)
@[go_sem] theorem rc_steadfastref01_With_1 {base : Nat} {ρ : Env} {s : St} : rc D base (.reg (some [0, 1, 2, 3, 15]) o_steadfastref01_With_1) ρ s = R_steadfastref01_With_1 base s (get ρ 0) (get ρ 1) (get ρ 2) (get ρ 3) := rc_reg_O.trans (by kernel_rfl)
@[go_sem] noncomputable def R_steadfastref01_With_2 (_base : Nat) (s : St) : Option (Ex × Env × St) :=
  some (.normal, [(8, (.int .u64 0)), (9, (.int .i64 1))], s)
@[go_sem] theorem rc_steadfastref01_With_2 {base : Nat} {ρ : Env} {s : St} : rc D base (.reg (some [8, 9]) o_steadfastref01_With_2) ρ s = R_steadfastref01_With_2 base s := rc_reg_O.trans (by kernel_rfl)
@[go_sem] noncomputable def R_steadfastref01_With_3 (_base : Nat) (s : St) (v0 v1 v2 v3 : V) : Option (Ex × Env × St) :=
  some (.normal, [(0, v0), (1, v1), (2, v2), (3, v3), (10, v2)], s)
@[go_sem] theorem rc_steadfastref01_With_3 {base : Nat} {ρ : Env} {s : St} : rc D base (.reg (some [0, 1, 2, 3, 10]) o_steadfastref01_With_3) ρ s = R_steadfastref01_With_3 base s (get ρ 0) (get ρ 1) (get ρ 2) (get ρ 3) := rc_reg_O.trans (by kernel_rfl)
@[go_sem] noncomputable def R_steadfastref01_With_4 (_base : Nat) (s : St) (v0 v1 v2 v3 v10 : V) : Option (Ex × Env × St) :=
  obind (vbin .lss v10 (.int .i64 64)) fun x0 =>
  some (.normal, [(0, v0), (1, v1), (2, v2), (3, v3), (10, v10), (18, x0)], s)
@[go_sem] theorem rc_steadfastref01_With_4 {base : Nat} {ρ : Env} {s : St} : rc D base (.reg (some [0, 1, 2, 3, 10, 18]) o_steadfastref01_With_4) ρ s = R_steadfastref01_With_4 base s (get ρ 0) (get ρ 1) (get ρ 2) (get ρ 3) (get ρ 10) := rc_reg_O.trans (by kernel_rfl)
@[go_sem] noncomputable def R_steadfastref01_With_5 (_base : Nat) (s : St) (v0 v1 v2 v3 v10 : V) : Option (Ex × Env × St) :=
  obind (rf D f_steadfastref01_bit [v3, v10] s) fun x0 =>
  obind (vbin .eql x0.1 (.int .u64 1)) fun x1 =>
  some (.normal, [(0, v0), (1, v1), (2, v2), (3, v3), (10, v10), (24, x1)], x0.2)
@[go_sem] theorem rc_steadfastref01_With_5 {base : Nat} {ρ : Env} {s : St} : rc D base (.reg (some [0, 1, 2, 3, 10, 24]) o_steadfastref01_With_5) ρ s = R_steadfastref01_With_5 base s (get ρ 0) (get ρ 1) (get ρ 2) (get ρ 3) (get ρ 10) := rc_reg_O.trans (by kernel_rfl)
@[go_sem] noncomputable def R_steadfastref01_With_6 (_base : Nat) (s : St) : Option (Ex × Env × St) :=
  some (.normal, [(8, (.int .u64 0)), (9, (.int .i64 2))], s)
@[go_sem] theorem rc_steadfastref01_With_6 {base : Nat} {ρ : Env} {s : St} : rc D base (.reg (some [8, 9]) o_steadfastref01_With_6) ρ s = R_steadfastref01_With_6 base s := rc_reg_O.trans (by kernel_rfl)
@[go_sem] noncomputable def R_steadfastref01_With_7 (_base : Nat) (s : St) (v0 v1 v2 v3 v10 : V) : Option (Ex × Env × St) :=
  obind (vbin .add v10 (.int .i64 1)) fun x0 =>
  some (.normal, [(0, v0), (1, v1), (2, v2), (3, v3), (10, x0)], s)
@[go_sem] theorem rc_steadfastref01_With_7 {base : Nat} {ρ : Env} {s : St} : rc D base (.reg (some [0, 1, 2, 3, 10]) o_steadfastref01_With_7) ρ s = R_steadfastref01_With_7 base s (get ρ 0) (get ρ 1) (get ρ 2) (get ρ 3) (get ρ 10) := rc_reg_O.trans (by kernel_rfl)
@[go_sem] noncomputable def R_steadfastref01_With_8 (_base : Nat) (s : St) (v0 v1 v2 v3 : V) : Option (Ex × Env × St) :=
  some (.normal, [(0, v0), (1, v1), (2, v2), (3, v3), (11, (.int .i64 0))], s)
@[go_sem] theorem rc_steadfastref01_With_8 {base : Nat} {ρ : Env} {s : St} : rc D base (.reg (some [0, 1, 2, 3, 11]) o_steadfastref01_With_8) ρ s = R_steadfastref01_With_8 base s (get ρ 0) (get ρ 1) (get ρ 2) (get ρ 3) := rc_reg_O.trans (by kernel_rfl)
@[go_sem] noncomputable def R_steadfastref01_With_9 (_base : Nat) (s : St) (v0 v1 v2 v3 v11 : V) : Option (Ex × Env × St) :=
  obind (vbin .lss v11 v2) fun x0 =>
  some (.normal, [(0, v0), (1, v1), (2, v2), (3, v3), (11, v11), (27, x0)], s)
@[go_sem] theorem rc_steadfastref01_With_9 {base : Nat} {ρ : Env} {s : St} : rc D base (.reg (some [0, 1, 2, 3, 11, 27]) o_steadfastref01_With_9) ρ s = R_steadfastref01_With_9 base s (get ρ 0) (get ρ 1) (get ρ 2) (get ρ 3) (get ρ 11) := rc_reg_O.trans (by kernel_rfl)
@[go_sem] noncomputable def R_steadfastref01_With_10 (_base : Nat) (s : St) (v0 v1 v2 v3 v11 : V) : Option (Ex × Env × St) :=
  obind (rf D f_steadfastref01_bit [v3, v11] s) fun x0 =>
  obind (vbin .add v1 v11) fun x1 =>
  obind (rf D f_steadfastref01_bit [v0, x1] x0.2) fun x2 =>
  obind (vbin .neq x0.1 x2.1) fun x3 =>
  some (.normal, [(0, v0), (1, v1), (2, v2), (3, v3), (11, v11), (38, x3)], x2.2)
@[go_sem] theorem rc_steadfastref01_With_10 {base : Nat} {ρ : Env} {s : St} : rc D base (.reg (some [0, 1, 2, 3, 11, 38]) o_steadfastref01_With_10) ρ s = R_steadfastref01_With_10 base s (get ρ 0) (get ρ 1) (get ρ 2) (get ρ 3) (get ρ 11) := rc_reg_O.trans (by kernel_rfl)
@[go_sem] noncomputable def R_steadfastref01_With_11 (_base : Nat) (s : St) (v0 v1 v2 v3 v11 : V) : Option (Ex × Env × St) :=
  obind (vbin .add v1 v11) fun x0 =>
  obind (vbin .shl (.int .u64 1) x0) fun x1 =>
  obind (vbin .xor v0 x1) fun x2 =>
  some (.normal, [(0, x2), (1, v1), (2, v2), (3, v3), (11, v11)], s)
@[go_sem] theorem rc_steadfastref01_With_11 {base : Nat} {ρ : Env} {s : St} : rc D base (.reg (some [0, 1, 2, 3, 11]) o_steadfastref01_With_11) ρ s = R_steadfastref01_With_11 base s (get ρ 0) (get ρ 1) (get ρ 2) (get ρ 3) (get ρ 11) := rc_reg_O.trans (by kernel_rfl)
@[go_sem] noncomputable def R_steadfastref01_With_12 (_base : Nat) (s : St) (v0 v1 v2 v3 v11 : V) : Option (Ex × Env × St) :=
  obind (vbin .add v11 (.int .i64 1)) fun x0 =>
  some (.normal, [(0, v0), (1, v1), (2, v2), (3, v3), (11, x0)], s)
@[go_sem] theorem rc_steadfastref01_With_12 {base : Nat} {ρ : Env} {s : St} : rc D base (.reg (some [0, 1, 2, 3, 11]) o_steadfastref01_With_12) ρ s = R_steadfastref01_With_12 base s (get ρ 0) (get ρ 1) (get ρ 2) (get ρ 3) (get ρ 11) := rc_reg_O.trans (by kernel_rfl)
@[go_sem] noncomputable def R_steadfastref01_With_13 (_base : Nat) (s : St) (v0 : V) : Option (Ex × Env × St) :=
  some (.normal, [(8, v0), (9, (.int .i64 0))], s)
@[go_sem] theorem rc_steadfastref01_With_13 {base : Nat} {ρ : Env} {s : St} : rc D base (.reg (some [8, 9]) o_steadfastref01_With_13) ρ s = R_steadfastref01_With_13 base s (get ρ 0) := rc_reg_O.trans (by kernel_rfl)

@[go_sem] noncomputable def R_steadfastref01_Field_0 (_base : Nat) (s : St) (v0 v1 v2 : V) : Option (Ex × Env × St) :=
  some (.normal, [(0, v0), (1, v1), (2, v2)], s)
@[go_sem] theorem rc_steadfastref01_Field_0 {base : Nat} {ρ : Env} {s : St} : rc D base (.reg (some [0, 1, 2]) o_steadfastref01_Field_0) ρ s = R_steadfastref01_Field_0 base s (get ρ 0) (get ρ 1) (get ρ 2) := rc_reg_O.trans (by kernel_rfl)
@[go_sem] noncomputable def R_steadfastref01_Field_1 (_base : Nat) (s : St) (v0 v1 v2 : V) : Option (Ex × Env × St) :=
  some (.normal, [(0, v0), (1, v1), (2, v2), (7, (.int .u64 0))], s)
@[go_sem] theorem rc_steadfastref01_Field_1 {base : Nat} {ρ : Env} {s : St} : rc D base (.reg (some [0, 1, 2, 7]) o_steadfastref01_Field_1) ρ s = R_steadfastref01_Field_1 base s (get ρ 0) (get ρ 1) (get ρ 2) := rc_reg_O.trans (by kernel_rfl)
@[go_sem] noncomputable def R_steadfastref01_Field_2 (_base : Nat) (s : St) (v0 v1 v2 v7 : V) : Option (Ex × Env × St) :=
  obind (rf D f_steadfastref01_is [v1, v2] s) fun x0 =>
  obind (vun .not x0.1) fun x1 =>
  some (.normal, [(0, v0), (1, v1), (2, v2), (7, v7), (12, x1)], x0.2)
@[go_sem] theorem rc_steadfastref01_Field_2 {base : Nat} {ρ : Env} {s : St} : rc D base (.reg (some [0, 1, 2, 7, 12]) o_steadfastref01_Field_2) ρ s = R_steadfastref01_Field_2 base s (get ρ 0) (get ρ 1) (get ρ 2) (get ρ 7) := rc_reg_O.trans (by kernel_rfl)
@[go_sem] noncomputable def R_steadfastref01_Field_3 (_base : Nat) (s : St) : Option (Ex × Env × St) :=
  some (.normal, [(6, (.int .u64 0))], s)
@[go_sem] theorem rc_steadfastref01_Field_3 {base : Nat} {ρ : Env} {s : St} : rc D base (.reg (some [6]) o_steadfastref01_Field_3) ρ s = R_steadfastref01_Field_3 base s := rc_reg_O.trans (by kernel_rfl)
@[go_sem] noncomputable def R_steadfastref01_Field_4 (_base : Nat) (s : St) (v0 v1 v2 v7 : V) : Option (Ex × Env × St) :=
  some (.normal, [(0, v0), (1, v1), (2, v2), (7, v7), (8, (.int .i64 0))], s)
@[go_sem] theorem rc_steadfastref01_Field_4 {base : Nat} {ρ : Env} {s : St} : rc D base (.reg (some [0, 1, 2, 7, 8]) o_steadfastref01_Field_4) ρ s = R_steadfastref01_Field_4 base s (get ρ 0) (get ρ 1) (get ρ 2) (get ρ 7) := rc_reg_O.trans (by kernel_rfl)
@[go_sem] noncomputable def R_steadfastref01_Field_5 (_base : Nat) (s : St) (v0 v1 v2 v7 v8 : V) : Option (Ex × Env × St) :=
  obind (vbin .lss v8 v2) fun x0 =>
  some (.normal, [(0, v0), (1, v1), (2, v2), (7, v7), (8, v8), (15, x0)], s)
@[go_sem] theorem rc_steadfastref01_Field_5 {base : Nat} {ρ : Env} {s : St} : rc D base (.reg (some [0, 1, 2, 7, 8, 15]) o_steadfastref01_Field_5) ρ s = R_steadfastref01_Field_5 base s (get ρ 0) (get ρ 1) (get ρ 2) (get ρ 7) (get ρ 8) := rc_reg_O.trans (by kernel_rfl)
@[go_sem] noncomputable def R_steadfastref01_Field_6 (_base : Nat) (s : St) (v0 v1 v2 v7 v8 : V) : Option (Ex × Env × St) :=
  obind (vbin .add v1 v8) fun x0 =>
  obind (rf D f_steadfastref01_bit [v0, x0] s) fun x1 =>
  obind (vbin .shl x1.1 v8) fun x2 =>
  obind (vbin .or v7 x2) fun x3 =>
  some (.normal, [(0, v0), (1, v1), (2, v2), (7, x3), (8, v8)], x1.2)
@[go_sem] theorem rc_steadfastref01_Field_6 {base : Nat} {ρ : Env} {s : St} : rc D base (.reg (some [0, 1, 2, 7, 8]) o_steadfastref01_Field_6) ρ s = R_steadfastref01_Field_6 base s (get ρ 0) (get ρ 1) (get ρ 2) (get ρ 7) (get ρ 8) := rc_reg_O.trans (by kernel_rfl)
@[go_sem] noncomputable def R_steadfastref01_Field_7 (_base : Nat) (s : St) (v0 v1 v2 v7 v8 : V) : Option (Ex × Env × St) :=
  obind (vbin .add v8 (.int .i64 1)) fun x0 =>
  some (.normal, [(0, v0), (1, v1), (2, v2), (7, v7), (8, x0)], s)
@[go_sem] theorem rc_steadfastref01_Field_7 {base : Nat} {ρ : Env} {s : St} : rc D base (.reg (some [0, 1, 2, 7, 8]) o_steadfastref01_Field_7) ρ s = R_steadfastref01_Field_7 base s (get ρ 0) (get ρ 1) (get ρ 2) (get ρ 7) (get ρ 8) := rc_reg_O.trans (by kernel_rfl)
@[go_sem] noncomputable def R_steadfastref01_Field_8 (_base : Nat) (s : St) (v7 : V) : Option (Ex × Env × St) :=
  some (.normal, [(6, v7)], s)
@[go_sem] theorem rc_steadfastref01_Field_8 {base : Nat} {ρ : Env} {s : St} : rc D base (.reg (some [6]) o_steadfastref01_Field_8) ρ s = R_steadfastref01_Field_8 base s (get ρ 7) := rc_reg_O.trans (by kernel_rfl)

@[go_sem] noncomputable def R_word_Number_0 (_base : Nat) (s : St) (v0 v1 : V) : Option (Ex × Env × St) :=
  some (.normal, [(0, v0), (1, v1)], s)
@[go_sem] theorem rc_word_Number_0 {base : Nat} {ρ : Env} {s : St} : rc D base (.reg (some [0, 1]) o_word_Number_0) ρ s = R_word_Number_0 base s (get ρ 0) (get ρ 1) := rc_reg_O.trans (by kernel_rfl)
@[go_sem] noncomputable def R_word_Number_1 (_base : Nat) (s : St) (v0 v1 : V) : Option (Ex × Env × St) :=
  obind (vbin .lss v1 (.int .i64 0)) fun x0 =>
  oguard x0 false (
    obind (convv .u64 v1) fun x1 =>
    obind (vbin .gtr v0 x1) fun x2 =>
    some (.normal, [(0, v0), (13, x2)], s)) (
    some (.normal, [(0, v0), (13, (.bool true))], s)) (
    none)
@[go_sem] theorem rc_word_Number_1 {base : Nat} {ρ : Env} {s : St} : rc D base (.reg (some [0, 13]) o_word_Number_1) ρ s = R_word_Number_1 base s (get ρ 0) (get ρ 1) := rc_reg_O.trans (by kernel_rfl)
@[go_sem] noncomputable def R_word_Number_2 (_base : Nat) (s : St) : Option (Ex × Env × St) :=
  some (.normal, [(4, (.int .i64 0)), (5, (.int .i64 2))], s)
@[go_sem] theorem rc_word_Number_2 {base : Nat} {ρ : Env} {s : St} : rc D base (.reg (some [4, 5]) o_word_Number_2) ρ s = R_word_Number_2 base s := rc_reg_O.trans (by kernel_rfl)
@[go_sem] noncomputable def R_word_Number_3 (_base : Nat) (s : St) (v0 : V) : Option (Ex × Env × St) :=
  obind (convv .i64 v0) fun x0 =>
  some (.normal, [(4, x0), (5, (.int .i64 0))], s)
@[go_sem] theorem rc_word_Number_3 {base : Nat} {ρ : Env} {s : St} : rc D base (.reg (some [4, 5]) o_word_Number_3) ρ s = R_word_Number_3 base s (get ρ 0) := rc_reg_O.trans (by kernel_rfl)

@[go_sem] noncomputable def R_regs_Of_1_0 (_base : Nat) (s : St) (v0 v1 v2 : V) : Option (Ex × Env × St) :=
  some (.normal, [(0, v0), (1, v1), (2, v2)], s)
@[go_sem] theorem rc_regs_Of_1_0 {base : Nat} {ρ : Env} {s : St} : rc D base (.reg (some [0, 1, 2]) o_regs_Of_1_0) ρ s = R_regs_Of_1_0 base s (get ρ 0) (get ρ 1) (get ρ 2) := rc_reg_O.trans (by kernel_rfl)
@[go_sem] noncomputable def R_regs_Of_1_1 (_base : Nat) (s : St) (v0 v1 v2 : V) : Option (Ex × Env × St) :=
  obind (iadv 24 8 18 v2 (.int .i64 7)) fun x0 =>
  obind (ldv s 18 x0) fun x1 =>
  obind (rf D f_word_Field [x1, v0, v1] s) fun x2 =>
  obind (convv .i64 x2.1) fun x3 =>
  some (.normal, [(5, x3)], x2.2)
@[go_sem] theorem rc_regs_Of_1_1 {base : Nat} {ρ : Env} {s : St} : rc D base (.reg (some [5]) o_regs_Of_1_1) ρ s = R_regs_Of_1_1 base s (get ρ 0) (get ρ 1) (get ρ 2) := rc_reg_O.trans (by kernel_rfl)

@[go_sem] noncomputable def R_word_Field_0 (_base : Nat) (s : St) (v0 v1 v2 : V) : Option (Ex × Env × St) :=
  some (.normal, [(0, v0), (1, v1), (2, v2)], s)
@[go_sem] theorem rc_word_Field_0 {base : Nat} {ρ : Env} {s : St} : rc D base (.reg (some [0, 1, 2]) o_word_Field_0) ρ s = R_word_Field_0 base s (get ρ 0) (get ρ 1) (get ρ 2) := rc_reg_O.trans (by kernel_rfl)
@[go_sem] noncomputable def R_word_Field_1 (_base : Nat) (s : St) (v0 v1 v2 : V) : Option (Ex × Env × St) :=
  obind (rf D f_word_field [v1, v2] s) fun x0 =>
  obind (vun .not x0.1) fun x1 =>
  some (.normal, [(0, v0), (1, v1), (2, v2), (10, x1)], x0.2)
@[go_sem] theorem rc_word_Field_1 {base : Nat} {ρ : Env} {s : St} : rc D base (.reg (some [0, 1, 2, 10]) o_word_Field_1) ρ s = R_word_Field_1 base s (get ρ 0) (get ρ 1) (get ρ 2) := rc_reg_O.trans (by kernel_rfl)
@[go_sem] noncomputable def R_word_Field_2 (_base : Nat) (s : St) : Option (Ex × Env × St) :=
  some (.normal, [(6, (.int .u64 0))], s)
@[go_sem] theorem rc_word_Field_2 {base : Nat} {ρ : Env} {s : St} : rc D base (.reg (some [6]) o_word_Field_2) ρ s = R_word_Field_2 base s := rc_reg_O.trans (by kernel_rfl)
@[go_sem] noncomputable def R_word_Field_3 (base : Nat) (s : St) (v0 v1 v2 : V) : Option (Ex × Env × St) :=
  obind (vbin .shr v0 v1) fun x0 =>
  obind (pcallw D (pcut base [v2]) base f_word_mask [v2] s) fun x1 =>
  obind (vbin .and x0 x1) fun x2 =>
  some (.normal, [(6, x2)], s)
@[go_sem] theorem rc_word_Field_3 {base : Nat} {ρ : Env} {s : St} : rc D base (.regd (some [6]) o_word_Field_3) ρ s = R_word_Field_3 base s (get ρ 0) (get ρ 1) (get ρ 2) := rc_regd_O.trans (by kernel_rfl)

@[go_sem] noncomputable def R_regs_Line_0 (_base : Nat) (s : St) (v0 : V) : Option (Ex × Env × St) :=
  if V.ok v0 && mayNew false v0 then let x0 : V := .ptr (St.fresh s false) [] (V.tag v0); let s0 : St := St.new s false v0
  let x1 : V := .ptr (St.fresh s0 false) [] 24; let s1 : St := St.new s0 false (.agg 24 (List.replicate 8 (.int .u64 0)))
  some (.normal, [(1, x0), (2, x1)], s1)
  else none
@[go_sem] theorem rc_regs_Line_0 {base : Nat} {ρ : Env} {s : St} : rc D base (.reg (some [1, 2]) o_regs_Line_0) ρ s = R_regs_Line_0 base s (get ρ 0) := rc_reg_O.trans (by kernel_rfl)
@[go_sem] noncomputable def R_regs_Line_1 (_base : Nat) (s : St) (v1 v2 : V) : Option (Ex × Env × St) :=
  obind (ldv s 64 v1) fun x0 =>
  obind (rf D f_regs_right [x0] s) fun x1 =>
  obind (vun .not x1.1) fun x2 =>
  oguard x2 false (
    obind (fadv 64 0 10 v1) fun x3 =>
    obind (ldv x1.2 10 x3) fun x4 =>
    obind (rf D f_regs_within [x4, (.int .i64 0), (.int .i64 1099511627776)] x1.2) fun x5 =>
    obind (vun .not x5.1) fun x6 =>
    some (.normal, [(1, v1), (2, v2), (13, x6)], x5.2)) (
    some (.normal, [(1, v1), (2, v2), (13, (.bool true))], x1.2)) (
    none)
@[go_sem] theorem rc_regs_Line_1 {base : Nat} {ρ : Env} {s : St} : rc D base (.reg (some [1, 2, 13]) o_regs_Line_1) ρ s = R_regs_Line_1 base s (get ρ 1) (get ρ 2) := rc_reg_O.trans (by kernel_rfl)
@[go_sem] noncomputable def R_regs_Line_2 (base : Nat) (s : St) (v2 : V) : Option (Ex × Env × St) :=
  obind (setParts (List.replicate 8 (.int .u64 0)) []) fun x0 =>
  obind (stv base s 24 (.agg 24 x0) v2) fun s1 =>
  some (.normal, [(2, v2), (3, (.int .i64 1))], s1)
@[go_sem] theorem rc_regs_Line_2 {base : Nat} {ρ : Env} {s : St} : rc D base (.reg (some [2, 3]) o_regs_Line_2) ρ s = R_regs_Line_2 base s (get ρ 2) := rc_reg_O.trans (by kernel_rfl)
@[go_sem] noncomputable def R_regs_Line_3 (base : Nat) (s : St) (v1 v2 : V) : Option (Ex × Env × St) :=
  obind (fadv 64 0 10 v1) fun x0 =>
  obind (ldv s 10 x0) fun x1 =>
  obind (convv .u64 x1) fun x2 =>
  obind (fadv 64 2 18 v1) fun x3 =>
  obind (ldv s 18 x3) fun x4 =>
  obind (fadv 64 3 18 v1) fun x5 =>
  obind (ldv s 18 x5) fun x6 =>
  obind (setParts (List.replicate 8 (.int .u64 0)) [(0, x2), (5, x4), (6, x6)]) fun x7 =>
  let x8 : V := .ptr (St.fresh s false) [] 24; let s8 : St := St.new s false (.agg 24 (List.replicate 8 (.int .u64 0)))
  obind (stv base s8 24 (.agg 24 x7) x8) fun s9 =>
  some (.normal, [(1, v1), (2, v2), (4, x8)], s9)
@[go_sem] theorem rc_regs_Line_3 {base : Nat} {ρ : Env} {s : St} : rc D base (.reg (some [1, 2, 4]) o_regs_Line_3) ρ s = R_regs_Line_3 base s (get ρ 1) (get ρ 2) := rc_reg_O.trans (by kernel_rfl)
@[go_sem] noncomputable def R_regs_Line_4 (base : Nat) (s : St) (v1 v2 v4 : V) : Option (Ex × Env × St) :=
  obind (slarrv s 24 8 18 (some (.int .i64 1)) none none v4) fun x0 =>
  obind (fadv 64 1 62 v1) fun x1 =>
  obind (slarrv s 62 4 18 none none none x1) fun x2 =>
  obind (vcopy base 18 x0 x2 s) fun x3 =>
  some (.normal, [(1, v1), (2, v2), (4, v4)], x3.2)
@[go_sem] theorem rc_regs_Line_4 {base : Nat} {ρ : Env} {s : St} : rc D base (.regd (some [1, 2, 4]) o_regs_Line_4) ρ s = R_regs_Line_4 base s (get ρ 1) (get ρ 2) (get ρ 4) := rc_regd_O.trans (by kernel_rfl)
@[go_sem] noncomputable def R_regs_Line_5 (base : Nat) (s : St) (v1 v2 v4 : V) : Option (Ex × Env × St) :=
  obind (fadv 64 4 10 v1) fun x0 =>
  obind (ldv s 10 x0) fun x1 =>
  obind (convv .u64 x1) fun x2 =>
  obind (fadv 64 5 10 v1) fun x3 =>
  obind (ldv s 10 x3) fun x4 =>
  obind (convv .u64 x4) fun x5 =>
  obind (vbin .shl x5 (.int .u64 4)) fun x6 =>
  obind (vbin .or x2 x6) fun x7 =>
  obind (fadv 64 6 10 v1) fun x8 =>
  obind (ldv s 10 x8) fun x9 =>
  obind (convv .u64 x9) fun x10 =>
  obind (vbin .shl x10 (.int .u64 20)) fun x11 =>
  obind (vbin .or x7 x11) fun x12 =>
  obind (fadv 64 7 10 v1) fun x13 =>
  obind (ldv s 10 x13) fun x14 =>
  obind (convv .u64 x14) fun x15 =>
  obind (vbin .shl x15 (.int .u64 24)) fun x16 =>
  obind (vbin .or x12 x16) fun x17 =>
  obind (iadv 24 8 18 v4 (.int .i64 7)) fun x18 =>
  obind (stv base s 18 x17 x18) fun s19 =>
  some (.normal, [(2, v2), (4, v4)], s19)
@[go_sem] theorem rc_regs_Line_5 {base : Nat} {ρ : Env} {s : St} : rc D base (.reg (some [2, 4]) o_regs_Line_5) ρ s = R_regs_Line_5 base s (get ρ 1) (get ρ 2) (get ρ 4) := rc_reg_O.trans (by kernel_rfl)
@[go_sem] noncomputable def R_regs_Line_6 (base : Nat) (s : St) (v2 v4 : V) : Option (Ex × Env × St) :=
  obind (ldv s 24 v4) fun x0 =>
  obind (stv base s 24 x0 v2) fun s1 =>
  some (.normal, [(2, v2), (3, (.int .i64 0))], s1)
@[go_sem] theorem rc_regs_Line_6 {base : Nat} {ρ : Env} {s : St} : rc D base (.reg (some [2, 3]) o_regs_Line_6) ρ s = R_regs_Line_6 base s (get ρ 2) (get ρ 4) := rc_reg_O.trans (by kernel_rfl)

@[go_sem] noncomputable def R_steadfastref01_Number_0 (_base : Nat) (s : St) (v0 v1 : V) : Option (Ex × Env × St) :=
  some (.normal, [(0, v0), (1, v1)], s)
@[go_sem] theorem rc_steadfastref01_Number_0 {base : Nat} {ρ : Env} {s : St} : rc D base (.reg (some [0, 1]) o_steadfastref01_Number_0) ρ s = R_steadfastref01_Number_0 base s (get ρ 0) (get ρ 1) := rc_reg_O.trans (by kernel_rfl)
@[go_sem] noncomputable def R_steadfastref01_Number_1 (_base : Nat) (s : St) (v0 v1 : V) : Option (Ex × Env × St) :=
  obind (vbin .lss v1 (.int .i64 0)) fun x0 =>
  oguard x0 false (
    obind (convv .u64 v1) fun x1 =>
    obind (vbin .gtr v0 x1) fun x2 =>
    some (.normal, [(0, v0), (13, x2)], s)) (
    some (.normal, [(0, v0), (13, (.bool true))], s)) (
    none)
@[go_sem] theorem rc_steadfastref01_Number_1 {base : Nat} {ρ : Env} {s : St} : rc D base (.reg (some [0, 13]) o_steadfastref01_Number_1) ρ s = R_steadfastref01_Number_1 base s (get ρ 0) (get ρ 1) := rc_reg_O.trans (by kernel_rfl)
@[go_sem] noncomputable def R_steadfastref01_Number_2 (_base : Nat) (s : St) : Option (Ex × Env × St) :=
  some (.normal, [(4, (.int .i64 0)), (5, (.int .i64 2))], s)
@[go_sem] theorem rc_steadfastref01_Number_2 {base : Nat} {ρ : Env} {s : St} : rc D base (.reg (some [4, 5]) o_steadfastref01_Number_2) ρ s = R_steadfastref01_Number_2 base s := rc_reg_O.trans (by kernel_rfl)
@[go_sem] noncomputable def R_steadfastref01_Number_3 (_base : Nat) (s : St) (v0 : V) : Option (Ex × Env × St) :=
  obind (convv .i64 v0) fun x0 =>
  some (.normal, [(4, x0), (5, (.int .i64 0))], s)
@[go_sem] theorem rc_steadfastref01_Number_3 {base : Nat} {ρ : Env} {s : St} : rc D base (.reg (some [4, 5]) o_steadfastref01_Number_3) ρ s = R_steadfastref01_Number_3 base s (get ρ 0) := rc_reg_O.trans (by kernel_rfl)

@[go_sem] noncomputable def R_steadfastref14_Line_0 (_base : Nat) (s : St) (v0 : V) : Option (Ex × Env × St) :=
  if V.ok v0 && mayNew false v0 then let x0 : V := .ptr (St.fresh s false) [] (V.tag v0); let s0 : St := St.new s false v0
  let x1 : V := .ptr (St.fresh s0 false) [] 24; let s1 : St := St.new s0 false (.agg 24 (List.replicate 8 (.int .u64 0)))
  some (.normal, [(1, x0), (2, x1)], s1)
  else none
@[go_sem] theorem rc_steadfastref14_Line_0 {base : Nat} {ρ : Env} {s : St} : rc D base (.reg (some [1, 2]) o_steadfastref14_Line_0) ρ s = R_steadfastref14_Line_0 base s (get ρ 0) := rc_reg_O.trans (by kernel_rfl)
@[go_sem] noncomputable def R_steadfastref14_Line_1 (_base : Nat) (s : St) (v1 v2 : V) : Option (Ex × Env × St) :=
  obind (bslv false 38 10 6 (.int .i64 0) s [(0, (.int .i64 0)), (1, (.int .i64 0)), (2, (.int .i64 0)), (3, (.int .i64 48)), (4, (.int .i64 48)), (5, (.int .i64 255))]) fun x0 =>
  some (.normal, [(1, v1), (2, v2), (4, x0.1)], x0.2)
@[go_sem] theorem rc_steadfastref14_Line_1 {base : Nat} {ρ : Env} {s : St} : rc D base (.reg (some [1, 2, 4]) o_steadfastref14_Line_1) ρ s = R_steadfastref14_Line_1 base s (get ρ 1) (get ρ 2) := rc_reg_O.trans (by kernel_rfl)
@[go_sem] noncomputable def R_steadfastref14_Line_2 (_base : Nat) (s : St) (v1 v2 v4 : V) : Option (Ex × Env × St) :=
  obind (fadv 64 4 10 v1) fun x0 =>
  obind (ldv s 10 x0) fun x1 =>
  obind (vbin .eql x1 (.int .i64 3)) fun x2 =>
  oguard x2 false (
    obind (fadv 64 4 10 v1) fun x3 =>
    obind (ldv s 10 x3) fun x4 =>
    obind (vbin .eql x4 (.int .i64 4)) fun x5 =>
    some (.normal, [(1, v1), (2, v2), (4, v4), (5, x5)], s)) (
    some (.normal, [(1, v1), (2, v2), (4, v4), (5, (.bool true))], s)) (
    none)
@[go_sem] theorem rc_steadfastref14_Line_2 {base : Nat} {ρ : Env} {s : St} : rc D base (.reg (some [1, 2, 4, 5]) o_steadfastref14_Line_2) ρ s = R_steadfastref14_Line_2 base s (get ρ 1) (get ρ 2) (get ρ 4) := rc_reg_O.trans (by kernel_rfl)
@[go_sem] noncomputable def R_steadfastref14_Line_3 (_base : Nat) (s : St) (v1 v2 v4 v5 : V) : Option (Ex × Env × St) :=
  obind (fadv 64 0 10 v1) fun x0 =>
  obind (ldv s 10 x0) fun x1 =>
  obind (vbin .geq x1 (.int .i64 0)) fun x2 =>
  oguard x2 true (
    obind (fadv 64 0 10 v1) fun x3 =>
    obind (ldv s 10 x3) fun x4 =>
    obind (vbin .leq x4 (.int .i64 1099511627776)) fun x5 =>
    oguard x5 true (
      obind (fadv 64 4 10 v1) fun x6 =>
      obind (ldv s 10 x6) fun x7 =>
      obind (vbin .geq x7 (.int .i64 1)) fun x8 =>
      oguard x8 true (
        obind (fadv 64 4 10 v1) fun x9 =>
        obind (ldv s 10 x9) fun x10 =>
        obind (vbin .leq x10 (.int .i64 5)) fun x11 =>
        some (.normal, [(1, v1), (2, v2), (4, v4), (5, v5), (6, x11)], s)) (
        some (.normal, [(1, v1), (2, v2), (4, v4), (5, v5), (6, (.bool false))], s)) (
        none)) (
      some (.normal, [(1, v1), (2, v2), (4, v4), (5, v5), (6, (.bool false))], s)) (
      none)) (
    some (.normal, [(1, v1), (2, v2), (4, v4), (5, v5), (6, (.bool false))], s)) (
    none)
@[go_sem] theorem rc_steadfastref14_Line_3 {base : Nat} {ρ : Env} {s : St} : rc D base (.reg (some [1, 2, 4, 5, 6]) o_steadfastref14_Line_3) ρ s = R_steadfastref14_Line_3 base s (get ρ 1) (get ρ 2) (get ρ 4) (get ρ 5) := rc_reg_O.trans (by kernel_rfl)
@[go_sem] noncomputable def R_steadfastref14_Line_4 (_base : Nat) (s : St) (v1 v2 v4 v5 v6 : V) : Option (Ex × Env × St) :=
  obind (vun .not v6) fun x0 =>
  oguard x0 false (
    obind (fadv 64 5 10 v1) fun x1 =>
    obind (ldv s 10 x1) fun x2 =>
    obind (vbin .lss x2 (.int .i64 0)) fun x3 =>
    oguard x3 false (
      obind (fadv 64 5 10 v1) fun x4 =>
      obind (ldv s 10 x4) fun x5 =>
      obind (fadv 64 4 10 v1) fun x6 =>
      obind (ldv s 10 x6) fun x7 =>
      obind (sadv 10 v4 x7) fun x8 =>
      obind (ldv s 10 x8) fun x9 =>
      obind (vbin .gtr x5 x9) fun x10 =>
      oguard x10 false (
        obind (fadv 64 6 10 v1) fun x11 =>
        obind (ldv s 10 x11) fun x12 =>
        obind (vbin .lss x12 (.int .i64 0)) fun x13 =>
        oguard x13 false (
          obind (fadv 64 6 10 v1) fun x14 =>
          obind (ldv s 10 x14) fun x15 =>
          obind (vbin .gtr x15 (.int .i64 7)) fun x16 =>
          oguard x16 false (
            obind (vun .not v5) fun x17 =>
            oguard x17 true (
              obind (fadv 64 6 10 v1) fun x18 =>
              obind (ldv s 10 x18) fun x19 =>
              obind (vbin .neq x19 (.int .i64 0)) fun x20 =>
              oguard x20 false (
                obind (fadv 64 7 10 v1) fun x21 =>
                obind (ldv s 10 x21) fun x22 =>
                obind (vbin .neq x22 (.int .i64 0)) fun x23 =>
                oguard x23 true (
                  obind (fadv 64 7 10 v1) fun x24 =>
                  obind (ldv s 10 x24) fun x25 =>
                  obind (vbin .neq x25 (.int .i64 1)) fun x26 =>
                  oguard x26 false (
                    obind (fadv 64 4 10 v1) fun x27 =>
                    obind (ldv s 10 x27) fun x28 =>
                    obind (vbin .neq x28 (.int .i64 3)) fun x29 =>
                    some (.normal, [(1, v1), (2, v2), (86, x29)], s)) (
                    some (.normal, [(1, v1), (2, v2), (86, (.bool true))], s)) (
                    none)) (
                  some (.normal, [(1, v1), (2, v2), (86, (.bool false))], s)) (
                  none)) (
                some (.normal, [(1, v1), (2, v2), (86, (.bool true))], s)) (
                none)) (
              obind (fadv 64 7 10 v1) fun x18 =>
              obind (ldv s 10 x18) fun x19 =>
              obind (vbin .neq x19 (.int .i64 0)) fun x20 =>
              oguard x20 true (
                obind (fadv 64 7 10 v1) fun x21 =>
                obind (ldv s 10 x21) fun x22 =>
                obind (vbin .neq x22 (.int .i64 1)) fun x23 =>
                oguard x23 false (
                  obind (fadv 64 4 10 v1) fun x24 =>
                  obind (ldv s 10 x24) fun x25 =>
                  obind (vbin .neq x25 (.int .i64 3)) fun x26 =>
                  some (.normal, [(1, v1), (2, v2), (86, x26)], s)) (
                  some (.normal, [(1, v1), (2, v2), (86, (.bool true))], s)) (
                  none)) (
                some (.normal, [(1, v1), (2, v2), (86, (.bool false))], s)) (
                none)) (
              none)) (
            some (.normal, [(1, v1), (2, v2), (86, (.bool true))], s)) (
            none)) (
          some (.normal, [(1, v1), (2, v2), (86, (.bool true))], s)) (
          none)) (
        some (.normal, [(1, v1), (2, v2), (86, (.bool true))], s)) (
        none)) (
      some (.normal, [(1, v1), (2, v2), (86, (.bool true))], s)) (
      none)) (
    some (.normal, [(1, v1), (2, v2), (86, (.bool true))], s)) (
    none)
@[go_sem] theorem rc_steadfastref14_Line_4 {base : Nat} {ρ : Env} {s : St} : rc D base (.regd (some [1, 2, 86]) o_steadfastref14_Line_4) ρ s = R_steadfastref14_Line_4 base s (get ρ 1) (get ρ 2) (get ρ 4) (get ρ 5) (get ρ 6) := rc_regd_O.trans (by kernel_rfl)
@[go_sem] noncomputable def R_steadfastref14_Line_5 (base : Nat) (s : St) (v2 : V) : Option (Ex × Env × St) :=
  obind (setParts (List.replicate 8 (.int .u64 0)) []) fun x0 =>
  obind (stv base s 24 (.agg 24 x0) v2) fun s1 =>
  some (.normal, [(2, v2), (3, (.int .i64 1))], s1)
@[go_sem] theorem rc_steadfastref14_Line_5 {base : Nat} {ρ : Env} {s : St} : rc D base (.reg (some [2, 3]) o_steadfastref14_Line_5) ρ s = R_steadfastref14_Line_5 base s (get ρ 2) := rc_reg_O.trans (by kernel_rfl)
@[go_sem] noncomputable def R_steadfastref14_Line_6 (_base : Nat) (s : St) (v1 v2 : V) : Option (Ex × Env × St) :=
  obind (fadv 64 4 10 v1) fun x0 =>
  obind (ldv s 10 x0) fun x1 =>
  obind (convv .u64 x1) fun x2 =>
  obind (rf D f_steadfastref01_With [(.int .u64 0), (.int .i64 0), (.int .i64 4), x2] s) fun x3 =>
  obind (extv 0 x3.1) fun x4 =>
  obind (extv 1 x3.1) fun _x5 =>
  some (.normal, [(1, v1), (2, v2), (7, x4)], x3.2)
@[go_sem] theorem rc_steadfastref14_Line_6 {base : Nat} {ρ : Env} {s : St} : rc D base (.reg (some [1, 2, 7]) o_steadfastref14_Line_6) ρ s = R_steadfastref14_Line_6 base s (get ρ 1) (get ρ 2) := rc_reg_O.trans (by kernel_rfl)
@[go_sem] noncomputable def R_steadfastref14_Line_7 (_base : Nat) (s : St) (v1 v2 v7 : V) : Option (Ex × Env × St) :=
  obind (fadv 64 5 10 v1) fun x0 =>
  obind (ldv s 10 x0) fun x1 =>
  obind (convv .u64 x1) fun x2 =>
  obind (rf D f_steadfastref01_With [v7, (.int .i64 4), (.int .i64 16), x2] s) fun x3 =>
  obind (extv 0 x3.1) fun x4 =>
  obind (extv 1 x3.1) fun _x5 =>
  some (.normal, [(1, v1), (2, v2), (7, x4)], x3.2)
@[go_sem] theorem rc_steadfastref14_Line_7 {base : Nat} {ρ : Env} {s : St} : rc D base (.reg (some [1, 2, 7]) o_steadfastref14_Line_7) ρ s = R_steadfastref14_Line_7 base s (get ρ 1) (get ρ 2) (get ρ 7) := rc_reg_O.trans (by kernel_rfl)
@[go_sem] noncomputable def R_steadfastref14_Line_8 (_base : Nat) (s : St) (v1 v2 v7 : V) : Option (Ex × Env × St) :=
  obind (fadv 64 6 10 v1) fun x0 =>
  obind (ldv s 10 x0) fun x1 =>
  obind (convv .u64 x1) fun x2 =>
  obind (rf D f_steadfastref01_With [v7, (.int .i64 20), (.int .i64 4), x2] s) fun x3 =>
  obind (extv 0 x3.1) fun x4 =>
  obind (extv 1 x3.1) fun _x5 =>
  some (.normal, [(1, v1), (2, v2), (7, x4)], x3.2)
@[go_sem] theorem rc_steadfastref14_Line_8 {base : Nat} {ρ : Env} {s : St} : rc D base (.reg (some [1, 2, 7]) o_steadfastref14_Line_8) ρ s = R_steadfastref14_Line_8 base s (get ρ 1) (get ρ 2) (get ρ 7) := rc_reg_O.trans (by kernel_rfl)
@[go_sem] noncomputable def R_steadfastref14_Line_9 (_base : Nat) (s : St) (v1 v2 v7 : V) : Option (Ex × Env × St) :=
  obind (fadv 64 7 10 v1) fun x0 =>
  obind (ldv s 10 x0) fun x1 =>
  obind (convv .u64 x1) fun x2 =>
  obind (rf D f_steadfastref01_With [v7, (.int .i64 24), (.int .i64 1), x2] s) fun x3 =>
  obind (extv 0 x3.1) fun x4 =>
  obind (extv 1 x3.1) fun _x5 =>
  some (.normal, [(1, v1), (2, v2), (7, x4)], x3.2)
@[go_sem] theorem rc_steadfastref14_Line_9 {base : Nat} {ρ : Env} {s : St} : rc D base (.reg (some [1, 2, 7]) o_steadfastref14_Line_9) ρ s = R_steadfastref14_Line_9 base s (get ρ 1) (get ρ 2) (get ρ 7) := rc_reg_O.trans (by kernel_rfl)
@[go_sem] noncomputable def R_steadfastref14_Line_10 (base : Nat) (s : St) (v1 v2 v7 : V) : Option (Ex × Env × St) :=
  obind (fadv 64 0 10 v1) fun x0 =>
  obind (ldv s 10 x0) fun x1 =>
  obind (convv .u64 x1) fun x2 =>
  obind (fadv 64 1 62 v1) fun x3 =>
  obind (iadv 62 4 18 x3 (.int .i64 0)) fun x4 =>
  obind (ldv s 18 x4) fun x5 =>
  obind (fadv 64 1 62 v1) fun x6 =>
  obind (iadv 62 4 18 x6 (.int .i64 1)) fun x7 =>
  obind (ldv s 18 x7) fun x8 =>
  obind (fadv 64 1 62 v1) fun x9 =>
  obind (iadv 62 4 18 x9 (.int .i64 2)) fun x10 =>
  obind (ldv s 18 x10) fun x11 =>
  obind (fadv 64 1 62 v1) fun x12 =>
  obind (iadv 62 4 18 x12 (.int .i64 3)) fun x13 =>
  obind (ldv s 18 x13) fun x14 =>
  obind (fadv 64 2 18 v1) fun x15 =>
  obind (ldv s 18 x15) fun x16 =>
  obind (fadv 64 3 18 v1) fun x17 =>
  obind (ldv s 18 x17) fun x18 =>
  obind (setParts (List.replicate 8 (.int .u64 0)) [(0, x2), (1, x5), (2, x8), (3, x11), (4, x14), (5, x16), (6, x18), (7, v7)]) fun x19 =>
  obind (stv base s 24 (.agg 24 x19) v2) fun s20 =>
  some (.normal, [(2, v2), (3, (.int .i64 0))], s20)
@[go_sem] theorem rc_steadfastref14_Line_10 {base : Nat} {ρ : Env} {s : St} : rc D base (.reg (some [2, 3]) o_steadfastref14_Line_10) ρ s = R_steadfastref14_Line_10 base s (get ρ 1) (get ρ 2) (get ρ 7) := rc_reg_O.trans (by kernel_rfl)

@[go_sem] noncomputable def R_slices_IndexFunc_int_0 (_base : Nat) (s : St) (v0 v1 : V) : Option (Ex × Env × St) :=
  some (.normal, [(0, v0), (1, v1)], s)
@[go_sem] theorem rc_slices_IndexFunc_int_0 {base : Nat} {ρ : Env} {s : St} : rc D base (.reg (some [0, 1]) o_slices_IndexFunc_int_0) ρ s = R_slices_IndexFunc_int_0 base s (get ρ 0) (get ρ 1) := rc_reg_O.trans (by kernel_rfl)
@[go_sem] noncomputable def R_slices_IndexFunc_int_1 (_base : Nat) (s : St) (v0 v1 : V) : Option (Ex × Env × St) :=
  obind (V.slen false v0) fun x0 =>
  some (.normal, [(0, v0), (1, v1), (7, (.int .i64 x0)), (8, (.int .i64 0))], s)
@[go_sem] theorem rc_slices_IndexFunc_int_1 {base : Nat} {ρ : Env} {s : St} : rc D base (.reg (some [0, 1, 7, 8]) o_slices_IndexFunc_int_1) ρ s = R_slices_IndexFunc_int_1 base s (get ρ 0) (get ρ 1) := rc_reg_O.trans (by kernel_rfl)
@[go_sem] noncomputable def R_slices_IndexFunc_int_2 (_base : Nat) (s : St) (v0 v1 v7 v8 : V) : Option (Ex × Env × St) :=
  obind (vbin .lss v8 v7) fun x0 =>
  some (.normal, [(0, v0), (1, v1), (7, v7), (8, v8), (9, x0)], s)
@[go_sem] theorem rc_slices_IndexFunc_int_2 {base : Nat} {ρ : Env} {s : St} : rc D base (.reg (some [0, 1, 7, 8, 9]) o_slices_IndexFunc_int_2) ρ s = R_slices_IndexFunc_int_2 base s (get ρ 0) (get ρ 1) (get ρ 7) (get ρ 8) := rc_reg_O.trans (by kernel_rfl)
@[go_sem] noncomputable def R_slices_IndexFunc_int_3 (_base : Nat) (s : St) (v0 v1 v7 v8 : V) : Option (Ex × Env × St) :=
  some (.normal, [(0, v0), (1, v1), (5, v8), (7, v7), (8, v8)], s)
@[go_sem] theorem rc_slices_IndexFunc_int_3 {base : Nat} {ρ : Env} {s : St} : rc D base (.reg (some [0, 1, 5, 7, 8]) o_slices_IndexFunc_int_3) ρ s = R_slices_IndexFunc_int_3 base s (get ρ 0) (get ρ 1) (get ρ 7) (get ρ 8) := rc_reg_O.trans (by kernel_rfl)
@[go_sem] noncomputable def R_slices_IndexFunc_int_4 (_base : Nat) (s : St) (v0 v1 v5 v7 v8 : V) : Option (Ex × Env × St) :=
  obind (sadv 10 v0 v5) fun x0 =>
  obind (ldv s 10 x0) fun x1 =>
  obind (callv D [x1] s v1) fun x2 =>
  some (.normal, [(0, v0), (1, v1), (5, v5), (7, v7), (8, v8), (16, x2.1)], x2.2)
@[go_sem] theorem rc_slices_IndexFunc_int_4 {base : Nat} {ρ : Env} {s : St} : rc D base (.reg (some [0, 1, 5, 7, 8, 16]) o_slices_IndexFunc_int_4) ρ s = R_slices_IndexFunc_int_4 base s (get ρ 0) (get ρ 1) (get ρ 5) (get ρ 7) (get ρ 8) := rc_reg_O.trans (by kernel_rfl)
@[go_sem] noncomputable def R_slices_IndexFunc_int_5 (_base : Nat) (s : St) (v5 : V) : Option (Ex × Env × St) :=
  some (.normal, [(4, v5)], s)
@[go_sem] theorem rc_slices_IndexFunc_int_5 {base : Nat} {ρ : Env} {s : St} : rc D base (.reg (some [4]) o_slices_IndexFunc_int_5) ρ s = R_slices_IndexFunc_int_5 base s (get ρ 5) := rc_reg_O.trans (by kernel_rfl)
@[go_sem] noncomputable def R_slices_IndexFunc_int_6 (_base : Nat) (s : St) (v0 v1 v7 v8 : V) : Option (Ex × Env × St) :=
  obind (vbin .add v8 (.int .i64 1)) fun x0 =>
  some (.normal, [(0, v0), (1, v1), (7, v7), (8, x0)], s)
@[go_sem] theorem rc_slices_IndexFunc_int_6 {base : Nat} {ρ : Env} {s : St} : rc D base (.reg (some [0, 1, 7, 8]) o_slices_IndexFunc_int_6) ρ s = R_slices_IndexFunc_int_6 base s (get ρ 0) (get ρ 1) (get ρ 7) (get ρ 8) := rc_reg_O.trans (by kernel_rfl)
@[go_sem] noncomputable def R_slices_IndexFunc_int_7 (_base : Nat) (s : St) : Option (Ex × Env × St) :=
  some (.normal, [(4, (.int .i64 (-1)))], s)
@[go_sem] theorem rc_slices_IndexFunc_int_7 {base : Nat} {ρ : Env} {s : St} : rc D base (.reg (some [4]) o_slices_IndexFunc_int_7) ρ s = R_slices_IndexFunc_int_7 base s := rc_reg_O.trans (by kernel_rfl)

@[go_sem] noncomputable def R_slices_IndexFunc_api_Object_0 (_base : Nat) (s : St) (v0 v1 : V) : Option (Ex × Env × St) :=
  some (.normal, [(0, v0), (1, v1)], s)
@[go_sem] theorem rc_slices_IndexFunc_api_Object_0 {base : Nat} {ρ : Env} {s : St} : rc D base (.reg (some [0, 1]) o_slices_IndexFunc_api_Object_0) ρ s = R_slices_IndexFunc_api_Object_0 base s (get ρ 0) (get ρ 1) := rc_reg_O.trans (by kernel_rfl)
@[go_sem] noncomputable def R_slices_IndexFunc_api_Object_1 (_base : Nat) (s : St) (v0 v1 : V) : Option (Ex × Env × St) :=
  obind (V.slen false v0) fun x0 =>
  some (.normal, [(0, v0), (1, v1), (7, (.int .i64 x0)), (8, (.int .i64 0))], s)
@[go_sem] theorem rc_slices_IndexFunc_api_Object_1 {base : Nat} {ρ : Env} {s : St} : rc D base (.reg (some [0, 1, 7, 8]) o_slices_IndexFunc_api_Object_1) ρ s = R_slices_IndexFunc_api_Object_1 base s (get ρ 0) (get ρ 1) := rc_reg_O.trans (by kernel_rfl)
@[go_sem] noncomputable def R_slices_IndexFunc_api_Object_2 (_base : Nat) (s : St) (v0 v1 v7 v8 : V) : Option (Ex × Env × St) :=
  obind (vbin .lss v8 v7) fun x0 =>
  some (.normal, [(0, v0), (1, v1), (7, v7), (8, v8), (9, x0)], s)
@[go_sem] theorem rc_slices_IndexFunc_api_Object_2 {base : Nat} {ρ : Env} {s : St} : rc D base (.reg (some [0, 1, 7, 8, 9]) o_slices_IndexFunc_api_Object_2) ρ s = R_slices_IndexFunc_api_Object_2 base s (get ρ 0) (get ρ 1) (get ρ 7) (get ρ 8) := rc_reg_O.trans (by kernel_rfl)
@[go_sem] noncomputable def R_slices_IndexFunc_api_Object_3 (_base : Nat) (s : St) (v0 v1 v7 v8 : V) : Option (Ex × Env × St) :=
  some (.normal, [(0, v0), (1, v1), (5, v8), (7, v7), (8, v8)], s)
@[go_sem] theorem rc_slices_IndexFunc_api_Object_3 {base : Nat} {ρ : Env} {s : St} : rc D base (.reg (some [0, 1, 5, 7, 8]) o_slices_IndexFunc_api_Object_3) ρ s = R_slices_IndexFunc_api_Object_3 base s (get ρ 0) (get ρ 1) (get ρ 7) (get ρ 8) := rc_reg_O.trans (by kernel_rfl)
@[go_sem] noncomputable def R_slices_IndexFunc_api_Object_4 (_base : Nat) (s : St) (v0 v1 v5 v7 v8 : V) : Option (Ex × Env × St) :=
  obind (sadv 26 v0 v5) fun x0 =>
  obind (ldv s 26 x0) fun x1 =>
  obind (callv D [x1] s v1) fun x2 =>
  some (.normal, [(0, v0), (1, v1), (5, v5), (7, v7), (8, v8), (16, x2.1)], x2.2)
@[go_sem] theorem rc_slices_IndexFunc_api_Object_4 {base : Nat} {ρ : Env} {s : St} : rc D base (.reg (some [0, 1, 5, 7, 8, 16]) o_slices_IndexFunc_api_Object_4) ρ s = R_slices_IndexFunc_api_Object_4 base s (get ρ 0) (get ρ 1) (get ρ 5) (get ρ 7) (get ρ 8) := rc_reg_O.trans (by kernel_rfl)
@[go_sem] noncomputable def R_slices_IndexFunc_api_Object_5 (_base : Nat) (s : St) (v5 : V) : Option (Ex × Env × St) :=
  some (.normal, [(4, v5)], s)
@[go_sem] theorem rc_slices_IndexFunc_api_Object_5 {base : Nat} {ρ : Env} {s : St} : rc D base (.reg (some [4]) o_slices_IndexFunc_api_Object_5) ρ s = R_slices_IndexFunc_api_Object_5 base s (get ρ 5) := rc_reg_O.trans (by kernel_rfl)
@[go_sem] noncomputable def R_slices_IndexFunc_api_Object_6 (_base : Nat) (s : St) (v0 v1 v7 v8 : V) : Option (Ex × Env × St) :=
  obind (vbin .add v8 (.int .i64 1)) fun x0 =>
  some (.normal, [(0, v0), (1, v1), (7, v7), (8, x0)], s)
@[go_sem] theorem rc_slices_IndexFunc_api_Object_6 {base : Nat} {ρ : Env} {s : St} : rc D base (.reg (some [0, 1, 7, 8]) o_slices_IndexFunc_api_Object_6) ρ s = R_slices_IndexFunc_api_Object_6 base s (get ρ 0) (get ρ 1) (get ρ 7) (get ρ 8) := rc_reg_O.trans (by kernel_rfl)
@[go_sem] noncomputable def R_slices_IndexFunc_api_Object_7 (_base : Nat) (s : St) : Option (Ex × Env × St) :=
  some (.normal, [(4, (.int .i64 (-1)))], s)
@[go_sem] theorem rc_slices_IndexFunc_api_Object_7 {base : Nat} {ρ : Env} {s : St} : rc D base (.reg (some [4]) o_slices_IndexFunc_api_Object_7) ρ s = R_slices_IndexFunc_api_Object_7 base s := rc_reg_O.trans (by kernel_rfl)

@[go_sem] noncomputable def R_slices_IndexFunc_uint64_0 (_base : Nat) (s : St) (v0 v1 : V) : Option (Ex × Env × St) :=
  some (.normal, [(0, v0), (1, v1)], s)
@[go_sem] theorem rc_slices_IndexFunc_uint64_0 {base : Nat} {ρ : Env} {s : St} : rc D base (.reg (some [0, 1]) o_slices_IndexFunc_uint64_0) ρ s = R_slices_IndexFunc_uint64_0 base s (get ρ 0) (get ρ 1) := rc_reg_O.trans (by kernel_rfl)
@[go_sem] noncomputable def R_slices_IndexFunc_uint64_1 (_base : Nat) (s : St) (v0 v1 : V) : Option (Ex × Env × St) :=
  obind (V.slen false v0) fun x0 =>
  some (.normal, [(0, v0), (1, v1), (7, (.int .i64 x0)), (8, (.int .i64 0))], s)
@[go_sem] theorem rc_slices_IndexFunc_uint64_1 {base : Nat} {ρ : Env} {s : St} : rc D base (.reg (some [0, 1, 7, 8]) o_slices_IndexFunc_uint64_1) ρ s = R_slices_IndexFunc_uint64_1 base s (get ρ 0) (get ρ 1) := rc_reg_O.trans (by kernel_rfl)
@[go_sem] noncomputable def R_slices_IndexFunc_uint64_2 (_base : Nat) (s : St) (v0 v1 v7 v8 : V) : Option (Ex × Env × St) :=
  obind (vbin .lss v8 v7) fun x0 =>
  some (.normal, [(0, v0), (1, v1), (7, v7), (8, v8), (9, x0)], s)
@[go_sem] theorem rc_slices_IndexFunc_uint64_2 {base : Nat} {ρ : Env} {s : St} : rc D base (.reg (some [0, 1, 7, 8, 9]) o_slices_IndexFunc_uint64_2) ρ s = R_slices_IndexFunc_uint64_2 base s (get ρ 0) (get ρ 1) (get ρ 7) (get ρ 8) := rc_reg_O.trans (by kernel_rfl)
@[go_sem] noncomputable def R_slices_IndexFunc_uint64_3 (_base : Nat) (s : St) (v0 v1 v7 v8 : V) : Option (Ex × Env × St) :=
  some (.normal, [(0, v0), (1, v1), (5, v8), (7, v7), (8, v8)], s)
@[go_sem] theorem rc_slices_IndexFunc_uint64_3 {base : Nat} {ρ : Env} {s : St} : rc D base (.reg (some [0, 1, 5, 7, 8]) o_slices_IndexFunc_uint64_3) ρ s = R_slices_IndexFunc_uint64_3 base s (get ρ 0) (get ρ 1) (get ρ 7) (get ρ 8) := rc_reg_O.trans (by kernel_rfl)
@[go_sem] noncomputable def R_slices_IndexFunc_uint64_4 (_base : Nat) (s : St) (v0 v1 v5 v7 v8 : V) : Option (Ex × Env × St) :=
  obind (sadv 18 v0 v5) fun x0 =>
  obind (ldv s 18 x0) fun x1 =>
  obind (callv D [x1] s v1) fun x2 =>
  some (.normal, [(0, v0), (1, v1), (5, v5), (7, v7), (8, v8), (16, x2.1)], x2.2)
@[go_sem] theorem rc_slices_IndexFunc_uint64_4 {base : Nat} {ρ : Env} {s : St} : rc D base (.reg (some [0, 1, 5, 7, 8, 16]) o_slices_IndexFunc_uint64_4) ρ s = R_slices_IndexFunc_uint64_4 base s (get ρ 0) (get ρ 1) (get ρ 5) (get ρ 7) (get ρ 8) := rc_reg_O.trans (by kernel_rfl)
@[go_sem] noncomputable def R_slices_IndexFunc_uint64_5 (_base : Nat) (s : St) (v5 : V) : Option (Ex × Env × St) :=
  some (.normal, [(4, v5)], s)
@[go_sem] theorem rc_slices_IndexFunc_uint64_5 {base : Nat} {ρ : Env} {s : St} : rc D base (.reg (some [4]) o_slices_IndexFunc_uint64_5) ρ s = R_slices_IndexFunc_uint64_5 base s (get ρ 5) := rc_reg_O.trans (by kernel_rfl)
@[go_sem] noncomputable def R_slices_IndexFunc_uint64_6 (_base : Nat) (s : St) (v0 v1 v7 v8 : V) : Option (Ex × Env × St) :=
  obind (vbin .add v8 (.int .i64 1)) fun x0 =>
  some (.normal, [(0, v0), (1, v1), (7, v7), (8, x0)], s)
@[go_sem] theorem rc_slices_IndexFunc_uint64_6 {base : Nat} {ρ : Env} {s : St} : rc D base (.reg (some [0, 1, 7, 8]) o_slices_IndexFunc_uint64_6) ρ s = R_slices_IndexFunc_uint64_6 base s (get ρ 0) (get ρ 1) (get ρ 7) (get ρ 8) := rc_reg_O.trans (by kernel_rfl)
@[go_sem] noncomputable def R_slices_IndexFunc_uint64_7 (_base : Nat) (s : St) : Option (Ex × Env × St) :=
  some (.normal, [(4, (.int .i64 (-1)))], s)
@[go_sem] theorem rc_slices_IndexFunc_uint64_7 {base : Nat} {ρ : Env} {s : St} : rc D base (.reg (some [4]) o_slices_IndexFunc_uint64_7) ρ s = R_slices_IndexFunc_uint64_7 base s := rc_reg_O.trans (by kernel_rfl)

@[go_sem] noncomputable def R_steadfastref01_is_0 (_base : Nat) (s : St) (v0 v1 : V) : Option (Ex × Env × St) :=
  some (.normal, [(0, v0), (1, v1)], s)
@[go_sem] theorem rc_steadfastref01_is_0 {base : Nat} {ρ : Env} {s : St} : rc D base (.reg (some [0, 1]) o_steadfastref01_is_0) ρ s = R_steadfastref01_is_0 base s (get ρ 0) (get ρ 1) := rc_reg_O.trans (by kernel_rfl)
@[go_sem] noncomputable def R_steadfastref01_is_1 (_base : Nat) (s : St) (v0 v1 : V) : Option (Ex × Env × St) :=
  obind (vbin .geq v0 (.int .i64 0)) fun x0 =>
  oguard x0 true (
    obind (vbin .leq v0 (.int .i64 63)) fun x1 =>
    oguard x1 true (
      obind (vbin .geq v1 (.int .i64 1)) fun x2 =>
      oguard x2 true (
        obind (vbin .leq v1 (.int .i64 64)) fun x3 =>
        oguard x3 true (
          obind (vbin .add v0 v1) fun x4 =>
          obind (vbin .leq x4 (.int .i64 64)) fun x5 =>
          some (.normal, [(4, x5)], s)) (
          some (.normal, [(4, (.bool false))], s)) (
          none)) (
        some (.normal, [(4, (.bool false))], s)) (
        none)) (
      some (.normal, [(4, (.bool false))], s)) (
      none)) (
    some (.normal, [(4, (.bool false))], s)) (
    none)
@[go_sem] theorem rc_steadfastref01_is_1 {base : Nat} {ρ : Env} {s : St} : rc D base (.reg (some [4]) o_steadfastref01_is_1) ρ s = R_steadfastref01_is_1 base s (get ρ 0) (get ρ 1) := rc_reg_O.trans (by kernel_rfl)

@[go_sem] noncomputable def R_steadfastref01_bit_0 (_base : Nat) (s : St) (v0 v1 : V) : Option (Ex × Env × St) :=
  some (.normal, [(0, v0), (1, v1)], s)
@[go_sem] theorem rc_steadfastref01_bit_0 {base : Nat} {ρ : Env} {s : St} : rc D base (.reg (some [0, 1]) o_steadfastref01_bit_0) ρ s = R_steadfastref01_bit_0 base s (get ρ 0) (get ρ 1) := rc_reg_O.trans (by kernel_rfl)
@[go_sem] noncomputable def R_steadfastref01_bit_1 (_base : Nat) (s : St) (v0 v1 : V) : Option (Ex × Env × St) :=
  obind (vbin .shr v0 v1) fun x0 =>
  obind (vbin .and x0 (.int .u64 1)) fun x1 =>
  some (.normal, [(4, x1)], s)
@[go_sem] theorem rc_steadfastref01_bit_1 {base : Nat} {ρ : Env} {s : St} : rc D base (.reg (some [4]) o_steadfastref01_bit_1) ρ s = R_steadfastref01_bit_1 base s (get ρ 0) (get ρ 1) := rc_reg_O.trans (by kernel_rfl)

@[go_sem] noncomputable def R_word_field_0 (_base : Nat) (s : St) (v0 v1 : V) : Option (Ex × Env × St) :=
  some (.normal, [(0, v0), (1, v1)], s)
@[go_sem] theorem rc_word_field_0 {base : Nat} {ρ : Env} {s : St} : rc D base (.reg (some [0, 1]) o_word_field_0) ρ s = R_word_field_0 base s (get ρ 0) (get ρ 1) := rc_reg_O.trans (by kernel_rfl)
@[go_sem] noncomputable def R_word_field_1 (_base : Nat) (s : St) (v0 v1 : V) : Option (Ex × Env × St) :=
  obind (vbin .geq v0 (.int .i64 0)) fun x0 =>
  oguard x0 true (
    obind (vbin .lss v0 (.int .i64 64)) fun x1 =>
    oguard x1 true (
      obind (vbin .geq v1 (.int .i64 1)) fun x2 =>
      oguard x2 true (
        obind (vbin .sub (.int .i64 64) v0) fun x3 =>
        obind (vbin .leq v1 x3) fun x4 =>
        some (.normal, [(4, x4)], s)) (
        some (.normal, [(4, (.bool false))], s)) (
        none)) (
      some (.normal, [(4, (.bool false))], s)) (
      none)) (
    some (.normal, [(4, (.bool false))], s)) (
    none)
@[go_sem] theorem rc_word_field_1 {base : Nat} {ρ : Env} {s : St} : rc D base (.reg (some [4]) o_word_field_1) ρ s = R_word_field_1 base s (get ρ 0) (get ρ 1) := rc_reg_O.trans (by kernel_rfl)

@[go_sem] noncomputable def R_word_mask_0 (_base : Nat) (s : St) (v0 : V) : Option (Ex × Env × St) :=
  some (.normal, [(0, v0)], s)
@[go_sem] theorem rc_word_mask_0 {base : Nat} {ρ : Env} {s : St} : rc D base (.reg (some [0]) o_word_mask_0) ρ s = R_word_mask_0 base s (get ρ 0) := rc_reg_O.trans (by kernel_rfl)
@[go_sem] noncomputable def R_word_mask_1 (_base : Nat) (s : St) (v0 : V) : Option (Ex × Env × St) :=
  obind (vbin .sub (.int .i64 64) v0) fun x0 =>
  obind (vbin .shr (.int .u64 18446744073709551615) x0) fun x1 =>
  some (.normal, [(2, x1)], s)
@[go_sem] theorem rc_word_mask_1 {base : Nat} {ρ : Env} {s : St} : rc D base (.reg (some [2]) o_word_mask_1) ρ s = R_word_mask_1 base s (get ρ 0) := rc_reg_O.trans (by kernel_rfl)

@[go_sem] noncomputable def R_regs_right_0 (_base : Nat) (s : St) (v0 : V) : Option (Ex × Env × St) :=
  if V.ok v0 && mayNew false v0 then let x0 : V := .ptr (St.fresh s false) [] (V.tag v0); let s0 : St := St.new s false v0
  some (.normal, [(1, x0)], s0)
  else none
@[go_sem] theorem rc_regs_right_0 {base : Nat} {ρ : Env} {s : St} : rc D base (.reg (some [1]) o_regs_right_0) ρ s = R_regs_right_0 base s (get ρ 0) := rc_reg_O.trans (by kernel_rfl)
@[go_sem] noncomputable def R_regs_right_1 (_base : Nat) (s : St) (v1 : V) : Option (Ex × Env × St) :=
  obind (fadv 64 4 10 v1) fun x0 =>
  obind (ldv s 10 x0) fun x1 =>
  some (.normal, [(1, v1), (4, x1)], s)
@[go_sem] theorem rc_regs_right_1 {base : Nat} {ρ : Env} {s : St} : rc D base (.reg (some [1, 4]) o_regs_right_1) ρ s = R_regs_right_1 base s (get ρ 1) := rc_reg_O.trans (by kernel_rfl)
@[go_sem] noncomputable def R_regs_right_2 (_base : Nat) (s : St) (v1 v4 : V) : Option (Ex × Env × St) :=
  obind (vbin .eql v4 (.int .i64 3)) fun x0 =>
  some (.normal, [(1, v1), (4, v4), (5, x0)], s)
@[go_sem] theorem rc_regs_right_2 {base : Nat} {ρ : Env} {s : St} : rc D base (.reg (some [1, 4, 5]) o_regs_right_2) ρ s = R_regs_right_2 base s (get ρ 1) (get ρ 4) := rc_reg_O.trans (by kernel_rfl)
@[go_sem] noncomputable def R_regs_right_3 (_base : Nat) (s : St) (v1 : V) : Option (Ex × Env × St) :=
  obind (fadv 64 5 10 v1) fun x0 =>
  obind (ldv s 10 x0) fun x1 =>
  obind (rf D f_regs_within [x1, (.int .i64 0), (.int .i64 48)] s) fun x2 =>
  oguard x2.1 true (
    obind (fadv 64 6 10 v1) fun x3 =>
    obind (ldv x2.2 10 x3) fun x4 =>
    obind (rf D f_regs_within [x4, (.int .i64 0), (.int .i64 7)] x2.2) fun x5 =>
    oguard x5.1 true (
      obind (fadv 64 7 10 v1) fun x6 =>
      obind (ldv x5.2 10 x6) fun x7 =>
      obind (rf D f_regs_within [x7, (.int .i64 0), (.int .i64 1)] x5.2) fun x8 =>
      some (.normal, [(2, x8.1)], x8.2)) (
      some (.normal, [(2, (.bool false))], x5.2)) (
      none)) (
    some (.normal, [(2, (.bool false))], x2.2)) (
    none)
@[go_sem] theorem rc_regs_right_3 {base : Nat} {ρ : Env} {s : St} : rc D base (.reg (some [2]) o_regs_right_3) ρ s = R_regs_right_3 base s (get ρ 1) := rc_reg_O.trans (by kernel_rfl)
@[go_sem] noncomputable def R_regs_right_4 (_base : Nat) (s : St) (v1 v4 : V) : Option (Ex × Env × St) :=
  obind (vbin .eql v4 (.int .i64 4)) fun x0 =>
  some (.normal, [(1, v1), (4, v4), (20, x0)], s)
@[go_sem] theorem rc_regs_right_4 {base : Nat} {ρ : Env} {s : St} : rc D base (.reg (some [1, 4, 20]) o_regs_right_4) ρ s = R_regs_right_4 base s (get ρ 1) (get ρ 4) := rc_reg_O.trans (by kernel_rfl)
@[go_sem] noncomputable def R_regs_right_5 (_base : Nat) (s : St) (v1 : V) : Option (Ex × Env × St) :=
  obind (fadv 64 5 10 v1) fun x0 =>
  obind (ldv s 10 x0) fun x1 =>
  obind (rf D f_regs_within [x1, (.int .i64 0), (.int .i64 48)] s) fun x2 =>
  oguard x2.1 true (
    obind (fadv 64 6 10 v1) fun x3 =>
    obind (ldv x2.2 10 x3) fun x4 =>
    obind (rf D f_regs_within [x4, (.int .i64 0), (.int .i64 7)] x2.2) fun x5 =>
    oguard x5.1 true (
      obind (fadv 64 7 10 v1) fun x6 =>
      obind (ldv x5.2 10 x6) fun x7 =>
      obind (vbin .eql x7 (.int .i64 0)) fun x8 =>
      some (.normal, [(2, x8)], x5.2)) (
      some (.normal, [(2, (.bool false))], x5.2)) (
      none)) (
    some (.normal, [(2, (.bool false))], x2.2)) (
    none)
@[go_sem] theorem rc_regs_right_5 {base : Nat} {ρ : Env} {s : St} : rc D base (.reg (some [2]) o_regs_right_5) ρ s = R_regs_right_5 base s (get ρ 1) := rc_reg_O.trans (by kernel_rfl)
@[go_sem] noncomputable def R_regs_right_6 (_base : Nat) (s : St) (v1 v4 : V) : Option (Ex × Env × St) :=
  obind (vbin .eql v4 (.int .i64 5)) fun x0 =>
  some (.normal, [(1, v1), (4, v4), (35, x0)], s)
@[go_sem] theorem rc_regs_right_6 {base : Nat} {ρ : Env} {s : St} : rc D base (.reg (some [1, 4, 35]) o_regs_right_6) ρ s = R_regs_right_6 base s (get ρ 1) (get ρ 4) := rc_reg_O.trans (by kernel_rfl)
@[go_sem] noncomputable def R_regs_right_7 (_base : Nat) (s : St) (v1 : V) : Option (Ex × Env × St) :=
  obind (fadv 64 5 10 v1) fun x0 =>
  obind (ldv s 10 x0) fun x1 =>
  obind (rf D f_regs_within [x1, (.int .i64 0), (.int .i64 255)] s) fun x2 =>
  oguard x2.1 true (
    obind (fadv 64 6 10 v1) fun x3 =>
    obind (ldv x2.2 10 x3) fun x4 =>
    obind (vbin .eql x4 (.int .i64 0)) fun x5 =>
    oguard x5 true (
      obind (fadv 64 7 10 v1) fun x6 =>
      obind (ldv x2.2 10 x6) fun x7 =>
      obind (vbin .eql x7 (.int .i64 0)) fun x8 =>
      some (.normal, [(2, x8)], x2.2)) (
      some (.normal, [(2, (.bool false))], x2.2)) (
      none)) (
    some (.normal, [(2, (.bool false))], x2.2)) (
    none)
@[go_sem] theorem rc_regs_right_7 {base : Nat} {ρ : Env} {s : St} : rc D base (.reg (some [2]) o_regs_right_7) ρ s = R_regs_right_7 base s (get ρ 1) := rc_reg_O.trans (by kernel_rfl)
@[go_sem] noncomputable def R_regs_right_8 (_base : Nat) (s : St) (v1 v4 : V) : Option (Ex × Env × St) :=
  obind (vbin .eql v4 (.int .i64 1)) fun x0 =>
  some (.normal, [(1, v1), (4, v4), (50, x0)], s)
@[go_sem] theorem rc_regs_right_8 {base : Nat} {ρ : Env} {s : St} : rc D base (.reg (some [1, 4, 50]) o_regs_right_8) ρ s = R_regs_right_8 base s (get ρ 1) (get ρ 4) := rc_reg_O.trans (by kernel_rfl)
@[go_sem] noncomputable def R_regs_right_9 (_base : Nat) (s : St) (v1 v4 : V) : Option (Ex × Env × St) :=
  obind (vbin .eql v4 (.int .i64 2)) fun x0 =>
  some (.normal, [(1, v1), (50, x0)], s)
@[go_sem] theorem rc_regs_right_9 {base : Nat} {ρ : Env} {s : St} : rc D base (.reg (some [1, 50]) o_regs_right_9) ρ s = R_regs_right_9 base s (get ρ 1) (get ρ 4) := rc_reg_O.trans (by kernel_rfl)
@[go_sem] noncomputable def R_regs_right_10 (_base : Nat) (s : St) (v1 : V) : Option (Ex × Env × St) :=
  obind (fadv 64 5 10 v1) fun x0 =>
  obind (ldv s 10 x0) fun x1 =>
  obind (vbin .eql x1 (.int .i64 0)) fun x2 =>
  oguard x2 true (
    obind (fadv 64 6 10 v1) fun x3 =>
    obind (ldv s 10 x3) fun x4 =>
    obind (vbin .eql x4 (.int .i64 0)) fun x5 =>
    oguard x5 true (
      obind (fadv 64 7 10 v1) fun x6 =>
      obind (ldv s 10 x6) fun x7 =>
      obind (vbin .eql x7 (.int .i64 0)) fun x8 =>
      some (.normal, [(2, x8)], s)) (
      some (.normal, [(2, (.bool false))], s)) (
      none)) (
    some (.normal, [(2, (.bool false))], s)) (
    none)
@[go_sem] theorem rc_regs_right_10 {base : Nat} {ρ : Env} {s : St} : rc D base (.reg (some [2]) o_regs_right_10) ρ s = R_regs_right_10 base s (get ρ 1) := rc_reg_O.trans (by kernel_rfl)
@[go_sem] noncomputable def R_regs_right_11 (_base : Nat) (s : St) : Option (Ex × Env × St) :=
  some (.normal, [(2, (.bool false))], s)
@[go_sem] theorem rc_regs_right_11 {base : Nat} {ρ : Env} {s : St} : rc D base (.reg (some [2]) o_regs_right_11) ρ s = R_regs_right_11 base s := rc_reg_O.trans (by kernel_rfl)

@[go_sem] noncomputable def R_regs_within_0 (_base : Nat) (s : St) (v0 v1 v2 : V) : Option (Ex × Env × St) :=
  some (.normal, [(0, v0), (1, v1), (2, v2)], s)
@[go_sem] theorem rc_regs_within_0 {base : Nat} {ρ : Env} {s : St} : rc D base (.reg (some [0, 1, 2]) o_regs_within_0) ρ s = R_regs_within_0 base s (get ρ 0) (get ρ 1) (get ρ 2) := rc_reg_O.trans (by kernel_rfl)
@[go_sem] noncomputable def R_regs_within_1 (_base : Nat) (s : St) (v0 v1 v2 : V) : Option (Ex × Env × St) :=
  obind (vbin .geq v0 v1) fun x0 =>
  oguard x0 true (
    obind (vbin .leq v0 v2) fun x1 =>
    some (.normal, [(6, x1)], s)) (
    some (.normal, [(6, (.bool false))], s)) (
    none)
@[go_sem] theorem rc_regs_within_1 {base : Nat} {ρ : Env} {s : St} : rc D base (.reg (some [6]) o_regs_within_1) ρ s = R_regs_within_1 base s (get ρ 0) (get ρ 1) (get ρ 2) := rc_reg_O.trans (by kernel_rfl)


end Go.Proofs.Ytpbpgbedkmbfkaa
