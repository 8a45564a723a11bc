/-
  YtnffmibpblibdaaDoorCode: the code of the functions that this seat's laws reach, in the form of Ab1 (printed by a program out of the translation; held against it in YtnffmibpblibdaaDoorChk).
-/
import Derived.Test.YtnffmibpblibdaaDoorCodeA
set_option maxRecDepth 100000
namespace Go.Proofs.YtnffmibpblibdaaDoor
open Go.Ab
noncomputable section
variable {b : Nat} {ρ : Env} {s : St}
@[go_sem] def R19_13 (_base : Nat) (s : St) (v0 v1 v2 v3 v9 v10 : V) : OR :=
 obind (vbin .neq v9 (.int .i64 0)) fun x0 =>
 some (.normal, [(0, v0), (1, v1), (2, v2), (3, v3), (9, v9), (10, v10), (67, x0)], s)
@[go_sem] theorem t19_13 : rc D b c19_13 ρ s = R19_13 b s (get ρ 0) (get ρ 1) (get ρ 2) (get ρ 3) (get ρ 9) (get ρ 10) := zr (by kernel_rfl)
@[go_sem] def R19_14 (_base : Nat) (s : St) (v9 : V) : OR :=
 some (.normal, [(8, v9)], s)
@[go_sem] theorem t19_14 : rc D b c19_14 ρ s = R19_14 b s (get ρ 9) := zr (by kernel_rfl)
@[go_sem] def R19_15 (base : Nat) (s : St) (v0 v1 v2 v3 v10 : V) : OR :=
 obind (iadv 24 8 18 v10 v2) fun x0 =>
 obind (stv base s 18 v3 x0) fun s1 =>
 some (.normal, [(0, v0), (1, v1), (10, v10)], s1)
@[go_sem] theorem t19_15 : rc D b c19_15 ρ s = R19_15 b s (get ρ 0) (get ρ 1) (get ρ 2) (get ρ 3) (get ρ 10) := zr (by kernel_rfl)
@[go_sem] def R19_16 (_base : Nat) (s : St) (v0 v1 v10 : V) : OR :=
 obind (ldv s 24 v10) fun x0 =>
 obind (rf D f_objects_Store_lay [v0, x0] s) fun x1 =>
 obind (extv 0 x1.1) fun x2 =>
 obind (extv 1 x1.1) fun x3 =>
 some (.normal, [(0, v0), (1, v1), (9, x3), (11, x2)], x1.2)
@[go_sem] theorem t19_16 : rc D b c19_16 ρ s = R19_16 b s (get ρ 0) (get ρ 1) (get ρ 10) := zr (by kernel_rfl)
@[go_sem] def R19_17 (_base : Nat) (s : St) (v0 v1 v9 v11 : V) : OR :=
 obind (vbin .neq v9 (.int .i64 0)) fun x0 =>
 some (.normal, [(0, v0), (1, v1), (9, v9), (11, v11), (79, x0)], s)
@[go_sem] theorem t19_17 : rc D b c19_17 ρ s = R19_17 b s (get ρ 0) (get ρ 1) (get ρ 9) (get ρ 11) := zr (by kernel_rfl)
@[go_sem] def R19_18 (_base : Nat) (s : St) (v9 : V) : OR :=
 some (.normal, [(8, v9)], s)
@[go_sem] theorem t19_18 : rc D b c19_18 ρ s = R19_18 b s (get ρ 9) := zr (by kernel_rfl)
@[go_sem] def R19_19 (base : Nat) (s : St) (v0 v1 v11 : V) : OR :=
 obind (nilv v0) fun x0 =>
 obind (fadv 43 2 48 x0) fun x1 =>
 obind (iadv 48 49 42 x1 v1) fun x2 =>
 obind (fadv 42 2 10 x2) fun x3 =>
 obind (stv base s 10 v11 x3) fun s4 =>
 some (.normal, [], s4)
@[go_sem] theorem t19_19 : rc D b c19_19 ρ s = R19_19 b s (get ρ 0) (get ρ 1) (get ρ 11) := zr (by kernel_rfl)
@[go_sem] def R19_20 (_base : Nat) (s : St) : OR :=
 some (.normal, [(8, (.int .i64 0))], s)
@[go_sem] theorem t19_20 : rc D b c19_20 ρ s = R19_20 b s := zr (by kernel_rfl)
@[go_sem] def R20_0 (_base : Nat) (s : St) (v0 v1 : V) : OR :=
 let x0 : V := .ptr (St.fresh s false) [] 26; let s0 : St := St.new s false (.agg 26 [(.int .i64 0), (.int .i64 0), (.agg 24 (List.replicate 8 (.int .u64 0)))])
 some (.normal, [(0, v0), (1, v1), (4, x0)], s0)
@[go_sem] theorem t20_0 : rc D b c20_0 ρ s = R20_0 b s (get ρ 0) (get ρ 1) := zr (by kernel_rfl)
@[go_sem] def R20_1 (_base : Nat) (s : St) (v0 v1 v4 : V) : OR :=
 obind (rf D f_objects_Store_is [v0, v1] s) fun x0 =>
 some (.normal, [(0, v0), (1, v1), (4, v4), (6, x0.1)], x0.2)
@[go_sem] theorem t20_1 : rc D b c20_1 ρ s = R20_1 b s (get ρ 0) (get ρ 1) (get ρ 4) := zr (by kernel_rfl)
@[go_sem] def R20_2 (_base : Nat) (s : St) (v0 v1 v4 v6 : V) : OR :=
 obind (vbin .neq v6 (.int .i64 0)) fun x0 =>
 some (.normal, [(0, v0), (1, v1), (4, v4), (6, v6), (14, x0)], s)
@[go_sem] theorem t20_2 : rc D b c20_2 ρ s = R20_2 b s (get ρ 0) (get ρ 1) (get ρ 4) (get ρ 6) := zr (by kernel_rfl)
@[go_sem] def R20_3 (base : Nat) (s : St) (v4 v6 : V) : OR :=
 obind (setParts [(.int .i64 0), (.int .i64 0), (.agg 24 (List.replicate 8 (.int .u64 0)))] []) fun x0 =>
 obind (stv base s 26 (.agg 26 x0) v4) fun s1 =>
 some (.normal, [(4, v4), (5, v6)], s1)
@[go_sem] theorem t20_3 : rc D b c20_3 ρ s = R20_3 b s (get ρ 4) (get ρ 6) := zr (by kernel_rfl)
@[go_sem] def R20_4 (base : Nat) (s : St) (v0 v1 v4 : V) : OR :=
 obind (nilv v0) fun x0 =>
 obind (fadv 43 2 48 x0) fun x1 =>
 obind (iadv 48 49 42 x1 v1) fun x2 =>
 obind (ldv s 42 x2) fun x3 =>
 let x4 : V := .ptr (St.fresh s false) [] 42; let s4 : St := St.new s false (.agg 42 [(.int .i64 0), (.int .i64 0), (.int .i64 0)])
 obind (stv base s4 42 x3 x4) fun s5 =>
 some (.normal, [(0, v0), (4, v4), (7, x4)], s5)
@[go_sem] theorem t20_4 : rc D b c20_4 ρ s = R20_4 b s (get ρ 0) (get ρ 1) (get ρ 4) := zr (by kernel_rfl)
@[go_sem] def R20_5 (base : Nat) (s : St) (v0 v4 v7 : V) : OR :=
 obind (nilv v0) fun x0 =>
 obind (fadv 43 0 1 x0) fun x1 =>
 obind (ldv s 1 x1) fun x2 =>
 obind (fadv 42 2 10 v7) fun x3 =>
 obind (ldv s 10 x3) fun x4 =>
 obind (pcallw D (pcut base [x2, x4]) base f_nvm_Memory_Load [x2, x4] s) fun x5 =>
 obind (extv 0 x5) fun x6 =>
 obind (extv 1 x5) fun x7 =>
 let x8 : V := .ptr (St.fresh s false) [] 24; let s8 : St := St.new s false (.agg 24 (List.replicate 8 (.int .u64 0)))
 obind (stv base s8 24 x6 x8) fun s9 =>
 some (.normal, [(4, v4), (7, v7), (8, x8), (9, x7)], s9)
@[go_sem] theorem t20_5 : rc D b c20_5 ρ s = R20_5 b s (get ρ 0) (get ρ 4) (get ρ 7) := zd (by kernel_rfl)
@[go_sem] def R20_6 (_base : Nat) (s : St) (v4 v7 v8 v9 : V) : OR :=
 obind (vbin .neq v9 (.int .i64 0)) fun x0 =>
 some (.normal, [(4, v4), (7, v7), (8, v8), (9, v9), (34, x0)], s)
@[go_sem] theorem t20_6 : rc D b c20_6 ρ s = R20_6 b s (get ρ 4) (get ρ 7) (get ρ 8) (get ρ 9) := zr (by kernel_rfl)
@[go_sem] def R20_7 (base : Nat) (s : St) (v4 v9 : V) : OR :=
 obind (setParts [(.int .i64 0), (.int .i64 0), (.agg 24 (List.replicate 8 (.int .u64 0)))] []) fun x0 =>
 obind (stv base s 26 (.agg 26 x0) v4) fun s1 =>
 some (.normal, [(4, v4), (5, v9)], s1)
@[go_sem] theorem t20_7 : rc D b c20_7 ρ s = R20_7 b s (get ρ 4) (get ρ 9) := zr (by kernel_rfl)
@[go_sem] def R20_8 (base : Nat) (s : St) (v4 v7 v8 : V) : OR :=
 obind (fadv 42 0 10 v7) fun x0 =>
 obind (ldv s 10 x0) fun x1 =>
 obind (fadv 42 1 10 v7) fun x2 =>
 obind (ldv s 10 x2) fun x3 =>
 obind (ldv s 24 v8) fun x4 =>
 obind (setParts [(.int .i64 0), (.int .i64 0), (.agg 24 (List.replicate 8 (.int .u64 0)))] [(0, x1), (1, x3), (2, x4)]) fun x5 =>
 obind (stv base s 26 (.agg 26 x5) v4) fun s6 =>
 some (.normal, [(4, v4), (5, (.int .i64 0))], s6)
@[go_sem] theorem t20_8 : rc D b c20_8 ρ s = R20_8 b s (get ρ 4) (get ρ 7) (get ρ 8) := zr (by kernel_rfl)
@[go_sem] def R21_0 (_base : Nat) (s : St) (v0 : V) : OR :=
 let x0 : V := .ptr (St.fresh s false) [] 48; let s0 : St := St.new s false (.agg 48 (List.replicate 49 (.agg 42 [(.int .i64 0), (.int .i64 0), (.int .i64 0)])))
 some (.normal, [(0, v0), (2, x0)], s0)
@[go_sem] theorem t21_0 : rc D b c21_0 ρ s = R21_0 b s (get ρ 0) := zr (by kernel_rfl)
@[go_sem] def R21_1 (base : Nat) (s : St) (v0 v2 : V) : OR :=
 obind (nilv v0) fun x0 =>
 obind (fadv 43 2 48 x0) fun x1 =>
 obind (ldv s 48 x1) fun x2 =>
 obind (stv base s 48 x2 v2) fun s3 =>
 some (.normal, [(2, v2)], s3)
@[go_sem] theorem t21_1 : rc D b c21_1 ρ s = R21_1 b s (get ρ 0) (get ρ 2) := zr (by kernel_rfl)
@[go_sem] def R22_0 (_base : Nat) (s : St) (v0 : V) : OR :=
 some (.normal, [(0, v0)], s)
@[go_sem] theorem t22_0 : rc D b c22_0 ρ s = R22_0 b s (get ρ 0) := zr (by kernel_rfl)
@[go_sem] def R22_1 (_base : Nat) (s : St) (v0 : V) : OR :=
 obind (nilv v0) fun x0 =>
 obind (fadv 43 6 0 x0) fun x1 =>
 obind (ldv s 0 x1) fun x2 =>
 some (.normal, [(0, v0), (6, x2)], s)
@[go_sem] theorem t22_1 : rc D b c22_1 ρ s = R22_1 b s (get ρ 0) := zr (by kernel_rfl)
@[go_sem] def R22_2 (_base : Nat) (s : St) : OR :=
 some (.normal, [(2, (.int .i64 3))], s)
@[go_sem] theorem t22_2 : rc D b c22_2 ρ s = R22_2 b s := zr (by kernel_rfl)
@[go_sem] def R22_3 (base : Nat) (s : St) (v0 : V) : OR :=
 obind (nilv v0) fun x0 =>
 obind (fadv 43 2 48 x0) fun x1 =>
 obind (ldv s 48 x1) fun x2 =>
 obind (nilv v0) fun x3 =>
 obind (fadv 43 5 48 x3) fun x4 =>
 obind (stv base s 48 x2 x4) fun s5 =>
 obind (nilv v0) fun x6 =>
 obind (fadv 43 6 0 x6) fun x7 =>
 obind (stv base s5 0 (.bool true) x7) fun s8 =>
 some (.normal, [(0, v0)], s8)
@[go_sem] theorem t22_3 : rc D b c22_3 ρ s = R22_3 b s (get ρ 0) := zr (by kernel_rfl)
@[go_sem] def R22_4 (_base : Nat) (s : St) (v0 : V) : OR :=
 obind (rf D f_objects_Store_share [v0] s) fun x0 =>
 some (.normal, [], x0.2)
@[go_sem] theorem t22_4 : rc D b c22_4 ρ s = R22_4 b s (get ρ 0) := zr (by kernel_rfl)
@[go_sem] def R22_5 (_base : Nat) (s : St) : OR :=
 some (.normal, [(2, (.int .i64 0))], s)
@[go_sem] theorem t22_5 : rc D b c22_5 ρ s = R22_5 b s := zr (by kernel_rfl)
@[go_sem] def R23_0 (_base : Nat) (s : St) (v0 : V) : OR :=
 some (.normal, [(0, v0)], s)
@[go_sem] theorem t23_0 : rc D b c23_0 ρ s = R23_0 b s (get ρ 0) := zr (by kernel_rfl)
@[go_sem] def R23_1 (_base : Nat) (s : St) (v0 : V) : OR :=
 obind (nilv v0) fun x0 =>
 obind (fadv 43 1 1 x0) fun x1 =>
 obind (ldv s 1 x1) fun x2 =>
 obind (rf D f_frames_Frames_Alloc [x2] s) fun x3 =>
 obind (extv 0 x3.1) fun x4 =>
 obind (extv 1 x3.1) fun x5 =>
 some (.normal, [(2, x4), (3, x5)], x3.2)
@[go_sem] theorem t23_1 : rc D b c23_1 ρ s = R23_1 b s (get ρ 0) := zr (by kernel_rfl)
@[go_sem] def R24_0 (_base : Nat) (s : St) (v0 v1 v2 : V) : OR :=
 some (.normal, [(0, v0), (1, v1), (2, v2)], s)
@[go_sem] theorem t24_0 : rc D b c24_0 ρ s = R24_0 b s (get ρ 0) (get ρ 1) (get ρ 2) := zr (by kernel_rfl)
@[go_sem] def R24_1 (_base : Nat) (s : St) (v0 v1 v2 : V) : OR :=
 let x0 : V := .ptr (St.fresh s false) [] 32; let s0 : St := St.new s false (.agg 32 (List.replicate 49 (.bool false)))
 some (.normal, [(0, v0), (1, v1), (2, v2), (7, x0)], s0)
@[go_sem] theorem t24_1 : rc D b c24_1 ρ s = R24_1 b s (get ρ 0) (get ρ 1) (get ρ 2) := zr (by kernel_rfl)
@[go_sem] def R24_2 (_base : Nat) (s : St) (v0 v1 v2 v7 : V) : OR :=
 obind (nilv v0) fun x0 =>
 obind (fadv 43 1 1 x0) fun x1 =>
 obind (ldv s 1 x1) fun x2 =>
 obind (rf D f_frames_Frames_Left [x2] s) fun x3 =>
 some (.normal, [(0, v0), (1, v1), (2, v2), (7, v7), (8, x3.1)], x3.2)
@[go_sem] theorem t24_2 : rc D b c24_2 ρ s = R24_2 b s (get ρ 0) (get ρ 1) (get ρ 2) (get ρ 7) := zr (by kernel_rfl)
@[go_sem] def R24_3 (_base : Nat) (s : St) (v0 v1 v2 v7 v8 : V) : OR :=
 obind (V.slen false v1) fun x0 =>
 some (.normal, [(0, v0), (2, v2), (7, v7), (8, v8), (16, v1), (17, (.int .i64 x0)), (18, (.int .i64 0))], s)
@[go_sem] theorem t24_3 : rc D b c24_3 ρ s = R24_3 b s (get ρ 0) (get ρ 1) (get ρ 2) (get ρ 7) (get ρ 8) := zr (by kernel_rfl)
@[go_sem] def R24_4 (_base : Nat) (s : St) (v0 v2 v7 v8 v16 v17 v18 : V) : OR :=
 obind (vbin .lss v18 v17) fun x0 =>
 some (.normal, [(0, v0), (2, v2), (7, v7), (8, v8), (16, v16), (17, v17), (18, v18), (19, x0)], s)
@[go_sem] theorem t24_4 : rc D b c24_4 ρ s = R24_4 b s (get ρ 0) (get ρ 2) (get ρ 7) (get ρ 8) (get ρ 16) (get ρ 17) (get ρ 18) := zr (by kernel_rfl)
@[go_sem] def R24_5 (_base : Nat) (s : St) (v0 v2 v7 v8 v16 v17 v18 : V) : OR :=
 obind (sadv 10 v16 v18) fun x0 =>
 obind (ldv s 10 x0) fun x1 =>
 some (.normal, [(0, v0), (2, v2), (7, v7), (8, v8), (10, x1), (16, v16), (17, v17), (18, v18)], s)
@[go_sem] theorem t24_5 : rc D b c24_5 ρ s = R24_5 b s (get ρ 0) (get ρ 2) (get ρ 7) (get ρ 8) (get ρ 16) (get ρ 17) (get ρ 18) := zr (by kernel_rfl)
@[go_sem] def R24_6 (_base : Nat) (s : St) (v0 v2 v7 v8 v10 v16 v17 v18 : V) : OR :=
 obind (rf D f_objects_Store_is [v0, v10] s) fun x0 =>
 obind (vbin .eql x0.1 (.int .i64 0)) fun x1 =>
 oguard x1 true (
   obind (rf D f_objects_Store_own [v0, v10] x0.2) fun x2 =>
   obind (vun .not x2.1) fun x3 =>
   oguard x3 true (
     obind (iadv 32 49 0 v7 v10) fun x4 =>
     obind (ldv x2.2 0 x4) fun x5 =>
     obind (vun .not x5) fun x6 =>
     some (.normal, [(0, v0), (2, v2), (7, v7), (8, v8), (10, v10), (16, v16), (17, v17), (18, v18), (37, x6)], x2.2)) (
     some (.normal, [(0, v0), (2, v2), (7, v7), (8, v8), (10, v10), (16, v16), (17, v17), (18, v18), (37, (.bool false))], x2.2)) (
     none)) (
   some (.normal, [(0, v0), (2, v2), (7, v7), (8, v8), (10, v10), (16, v16), (17, v17), (18, v18), (37, (.bool false))], x0.2)) (
   none)
@[go_sem] theorem t24_6 : rc D b c24_6 ρ s = R24_6 b s (get ρ 0) (get ρ 2) (get ρ 7) (get ρ 8) (get ρ 10) (get ρ 16) (get ρ 17) (get ρ 18) := zr (by kernel_rfl)
@[go_sem] def R24_7 (base : Nat) (s : St) (v0 v2 v7 v8 v10 v16 v17 v18 : V) : OR :=
 obind (iadv 32 49 0 v7 v10) fun x0 =>
 obind (stv base s 0 (.bool true) x0) fun s1 =>
 some (.normal, [(0, v0), (2, v2), (7, v7), (8, v8), (16, v16), (17, v17), (18, v18)], s1)
@[go_sem] theorem t24_7 : rc D b c24_7 ρ s = R24_7 b s (get ρ 0) (get ρ 2) (get ρ 7) (get ρ 8) (get ρ 10) (get ρ 16) (get ρ 17) (get ρ 18) := zr (by kernel_rfl)
@[go_sem] def R24_8 (_base : Nat) (s : St) (v0 v2 v7 v8 v16 v17 v18 : V) : OR :=
 obind (vbin .sub v8 (.int .i64 1)) fun x0 =>
 some (.normal, [(0, v0), (2, v2), (7, v7), (8, x0), (16, v16), (17, v17), (18, v18)], s)
@[go_sem] theorem t24_8 : rc D b c24_8 ρ s = R24_8 b s (get ρ 0) (get ρ 2) (get ρ 7) (get ρ 8) (get ρ 16) (get ρ 17) (get ρ 18) := zr (by kernel_rfl)
@[go_sem] def R24_9 (_base : Nat) (s : St) (v0 v2 v7 v8 v16 v17 v18 : V) : OR :=
 obind (vbin .add v18 (.int .i64 1)) fun x0 =>
 some (.normal, [(0, v0), (2, v2), (7, v7), (8, v8), (16, v16), (17, v17), (18, x0)], s)
@[go_sem] theorem t24_9 : rc D b c24_9 ρ s = R24_9 b s (get ρ 0) (get ρ 2) (get ρ 7) (get ρ 8) (get ρ 16) (get ρ 17) (get ρ 18) := zr (by kernel_rfl)
@[go_sem] def R24_10 (_base : Nat) (s : St) (v2 v8 : V) : OR :=
 obind (vbin .geq v2 (.int .i64 0)) fun x0 =>
 oguard x0 true (
   obind (vbin .geq v8 v2) fun x1 =>
   some (.normal, [(6, x1)], s)) (
   some (.normal, [(6, (.bool false))], s)) (
   none)
@[go_sem] theorem t24_10 : rc D b c24_10 ρ s = R24_10 b s (get ρ 2) (get ρ 8) := zr (by kernel_rfl)
@[go_sem] def R25_0 (_base : Nat) (s : St) (v0 v1 : V) : OR :=
 some (.normal, [(0, v0), (1, v1)], s)
@[go_sem] theorem t25_0 : rc D b c25_0 ρ s = R25_0 b s (get ρ 0) (get ρ 1) := zr (by kernel_rfl)
@[go_sem] def R25_1 (_base : Nat) (s : St) (v0 v1 : V) : OR :=
 obind (rf D f_objects_Store_Next [v0, v1] s) fun x0 =>
 obind (extv 0 x0.1) fun x1 =>
 obind (extv 1 x0.1) fun x2 =>
 obind (extv 2 x0.1) fun x3 =>
 some (.normal, [(0, v0), (1, v1), (6, x1), (7, x2), (8, x3)], x0.2)
@[go_sem] theorem t25_1 : rc D b c25_1 ρ s = R25_1 b s (get ρ 0) (get ρ 1) := zr (by kernel_rfl)
@[go_sem] def R25_2 (_base : Nat) (s : St) (v0 v1 v6 v7 v8 : V) : OR :=
 obind (vbin .neq v8 (.int .i64 0)) fun x0 =>
 some (.normal, [(0, v0), (1, v1), (6, v6), (7, v7), (8, v8), (18, x0)], s)
@[go_sem] theorem t25_2 : rc D b c25_2 ρ s = R25_2 b s (get ρ 0) (get ρ 1) (get ρ 6) (get ρ 7) (get ρ 8) := zr (by kernel_rfl)
@[go_sem] def R25_3 (_base : Nat) (s : St) (v8 : V) : OR :=
 some (.normal, [(4, (.int .i64 0)), (5, v8)], s)
@[go_sem] theorem t25_3 : rc D b c25_3 ρ s = R25_3 b s (get ρ 8) := zr (by kernel_rfl)
@[go_sem] def R25_4 (_base : Nat) (s : St) (v0 v1 v6 v7 : V) : OR :=
 obind (setParts (List.replicate 8 (.int .u64 0)) []) fun x0 =>
 obind (rf D f_objects_Store_lay [v0, (.agg 24 x0)] s) fun x1 =>
 obind (extv 0 x1.1) fun x2 =>
 obind (extv 1 x1.1) fun x3 =>
 some (.normal, [(0, v0), (1, v1), (6, v6), (7, v7), (8, x3), (9, x2)], x1.2)
@[go_sem] theorem t25_4 : rc D b c25_4 ρ s = R25_4 b s (get ρ 0) (get ρ 1) (get ρ 6) (get ρ 7) := zr (by kernel_rfl)
@[go_sem] def R25_5 (_base : Nat) (s : St) (v0 v1 v6 v7 v8 v9 : V) : OR :=
 obind (vbin .neq v8 (.int .i64 0)) fun x0 =>
 some (.normal, [(0, v0), (1, v1), (6, v6), (7, v7), (8, v8), (9, v9), (27, x0)], s)
@[go_sem] theorem t25_5 : rc D b c25_5 ρ s = R25_5 b s (get ρ 0) (get ρ 1) (get ρ 6) (get ρ 7) (get ρ 8) (get ρ 9) := zr (by kernel_rfl)
@[go_sem] def R25_6 (_base : Nat) (s : St) (v8 : V) : OR :=
 some (.normal, [(4, (.int .i64 0)), (5, v8)], s)
@[go_sem] theorem t25_6 : rc D b c25_6 ρ s = R25_6 b s (get ρ 8) := zr (by kernel_rfl)
@[go_sem] def R25_7 (base : Nat) (s : St) (v0 v1 v6 v7 v9 : V) : OR :=
 obind (setParts [(.int .i64 0), (.int .i64 0), (.int .i64 0)] [(0, v1), (1, v7), (2, v9)]) fun x0 =>
 obind (nilv v0) fun x1 =>
 obind (fadv 43 2 48 x1) fun x2 =>
 obind (iadv 48 49 42 x2 v6) fun x3 =>
 obind (stv base s 42 (.agg 42 x0) x3) fun s4 =>
 some (.normal, [(6, v6)], s4)
@[go_sem] theorem t25_7 : rc D b c25_7 ρ s = R25_7 b s (get ρ 0) (get ρ 1) (get ρ 6) (get ρ 7) (get ρ 9) := zr (by kernel_rfl)
@[go_sem] def R25_8 (_base : Nat) (s : St) (v6 : V) : OR :=
 some (.normal, [(4, v6), (5, (.int .i64 0))], s)
@[go_sem] theorem t25_8 : rc D b c25_8 ρ s = R25_8 b s (get ρ 6) := zr (by kernel_rfl)
@[go_sem] def R26_0 (_base : Nat) (s : St) (v0 v1 : V) : OR :=
 some (.normal, [(0, v0), (1, v1)], s)
@[go_sem] theorem t26_0 : rc D b c26_0 ρ s = R26_0 b s (get ρ 0) (get ρ 1) := zr (by kernel_rfl)
@[go_sem] def R26_1 (_base : Nat) (s : St) (v0 v1 : V) : OR :=
 obind (rf D f_objects_Store_is [v0, v1] s) fun x0 =>
 some (.normal, [(0, v0), (1, v1), (5, x0.1)], x0.2)
@[go_sem] theorem t26_1 : rc D b c26_1 ρ s = R26_1 b s (get ρ 0) (get ρ 1) := zr (by kernel_rfl)
@[go_sem] def R26_2 (_base : Nat) (s : St) (v0 v1 v5 : V) : OR :=
 obind (vbin .neq v5 (.int .i64 0)) fun x0 =>
 some (.normal, [(0, v0), (1, v1), (5, v5), (10, x0)], s)
@[go_sem] theorem t26_2 : rc D b c26_2 ρ s = R26_2 b s (get ρ 0) (get ρ 1) (get ρ 5) := zr (by kernel_rfl)
@[go_sem] def R26_3 (_base : Nat) (s : St) (v5 : V) : OR :=
 some (.normal, [(4, v5)], s)
@[go_sem] theorem t26_3 : rc D b c26_3 ρ s = R26_3 b s (get ρ 5) := zr (by kernel_rfl)
@[go_sem] def R26_4 (_base : Nat) (s : St) (v0 v1 : V) : OR :=
 obind (rf D f_objects_Store_own [v0, v1] s) fun x0 =>
 some (.normal, [(0, v0), (1, v1), (14, x0.1)], x0.2)
@[go_sem] theorem t26_4 : rc D b c26_4 ρ s = R26_4 b s (get ρ 0) (get ρ 1) := zr (by kernel_rfl)
@[go_sem] def R26_5 (_base : Nat) (s : St) (v0 v1 : V) : OR :=
 obind (nilv v0) fun x0 =>
 obind (fadv 43 1 1 x0) fun x1 =>
 obind (ldv s 1 x1) fun x2 =>
 obind (nilv v0) fun x3 =>
 obind (fadv 43 2 48 x3) fun x4 =>
 obind (iadv 48 49 42 x4 v1) fun x5 =>
 obind (fadv 42 2 10 x5) fun x6 =>
 obind (ldv s 10 x6) fun x7 =>
 obind (rf D f_frames_Frames_Free [x2, x7] s) fun x8 =>
 some (.normal, [(0, v0), (1, v1)], x8.2)
@[go_sem] theorem t26_5 : rc D b c26_5 ρ s = R26_5 b s (get ρ 0) (get ρ 1) := zd (by kernel_rfl)
@[go_sem] def R26_6 (base : Nat) (s : St) (v0 v1 : V) : OR :=
 obind (nilv v0) fun x0 =>
 obind (fadv 43 2 48 x0) fun x1 =>
 obind (iadv 48 49 42 x1 v1) fun x2 =>
 obind (ldv s 42 x2) fun x3 =>
 obind (pcallw D (pcut base [x3]) base f_entry_End [x3] s) fun x4 =>
 obind (extv 0 x4) fun x5 =>
 obind (extv 1 x4) fun _x6 =>
 obind (nilv v0) fun x7 =>
 obind (fadv 43 2 48 x7) fun x8 =>
 obind (iadv 48 49 42 x8 v1) fun x9 =>
 obind (stv base s 42 x5 x9) fun s10 =>
 some (.normal, [], s10)
@[go_sem] theorem t26_6 : rc D b c26_6 ρ s = R26_6 b s (get ρ 0) (get ρ 1) := zd (by kernel_rfl)
@[go_sem] def R26_7 (_base : Nat) (s : St) : OR :=
 some (.normal, [(4, (.int .i64 0))], s)
@[go_sem] theorem t26_7 : rc D b c26_7 ρ s = R26_7 b s := zr (by kernel_rfl)
@[go_sem] def R27_0 (_base : Nat) (s : St) (v0 v1 : V) : OR :=
 let x0 : V := .ptr (St.fresh s false) [] 24; let s0 : St := St.new s false (.agg 24 (List.replicate 8 (.int .u64 0)))
 some (.normal, [(0, v0), (1, v1), (4, x0)], s0)
@[go_sem] theorem t27_0 : rc D b c27_0 ρ s = R27_0 b s (get ρ 0) (get ρ 1) := zr (by kernel_rfl)
@[go_sem] def R27_1 (_base : Nat) (s : St) (v0 v1 v4 : V) : OR :=
 obind (rf D f_nvm_Memory_at [v0, v1] s) fun x0 =>
 some (.normal, [(0, v0), (4, v4), (6, x0.1)], x0.2)
@[go_sem] theorem t27_1 : rc D b c27_1 ρ s = R27_1 b s (get ρ 0) (get ρ 1) (get ρ 4) := zr (by kernel_rfl)
@[go_sem] def R27_2 (_base : Nat) (s : St) (v0 v4 v6 : V) : OR :=
 obind (eqv false 1 v6 .nilp) fun x0 =>
 some (.normal, [(0, v0), (4, v4), (6, v6), (10, x0)], s)
@[go_sem] theorem t27_2 : rc D b c27_2 ρ s = R27_2 b s (get ρ 0) (get ρ 4) (get ρ 6) := zr (by kernel_rfl)
@[go_sem] def R27_3 (base : Nat) (s : St) (v4 : V) : OR :=
 obind (setParts (List.replicate 8 (.int .u64 0)) []) fun x0 =>
 obind (stv base s 24 (.agg 24 x0) v4) fun s1 =>
 some (.normal, [(4, v4), (5, (.int .i64 1))], s1)
@[go_sem] theorem t27_3 : rc D b c27_3 ρ s = R27_3 b s (get ρ 4) := zr (by kernel_rfl)
@[go_sem] def R27_4 (_base : Nat) (s : St) (v0 v4 v6 : V) : OR :=
 obind (nilv v0) fun x0 =>
 obind (fadv 59 1 0 x0) fun x1 =>
 obind (ldv s 0 x1) fun x2 =>
 some (.normal, [(4, v4), (6, v6), (14, x2)], s)
@[go_sem] theorem t27_4 : rc D b c27_4 ρ s = R27_4 b s (get ρ 0) (get ρ 4) (get ρ 6) := zr (by kernel_rfl)
@[go_sem] def R27_5 (base : Nat) (s : St) (v4 : V) : OR :=
 obind (setParts (List.replicate 8 (.int .u64 0)) []) fun x0 =>
 obind (stv base s 24 (.agg 24 x0) v4) fun s1 =>
 some (.normal, [(4, v4), (5, (.int .i64 4))], s1)
@[go_sem] theorem t27_5 : rc D b c27_5 ρ s = R27_5 b s (get ρ 4) := zr (by kernel_rfl)
@[go_sem] def R27_6 (base : Nat) (s : St) (v4 v6 : V) : OR :=
 obind (nilv v6) fun x0 =>
 obind (fadv 55 0 24 x0) fun x1 =>
 obind (ldv s 24 x1) fun x2 =>
 obind (stv base s 24 x2 v4) fun s3 =>
 some (.normal, [(4, v4), (5, (.int .i64 0))], s3)
@[go_sem] theorem t27_6 : rc D b c27_6 ρ s = R27_6 b s (get ρ 4) (get ρ 6) := zr (by kernel_rfl)
@[go_sem] def R28_0 (_base : Nat) (s : St) (v0 : V) : OR :=
 let x0 : V := .ptr (St.fresh s false) [] 48; let s0 : St := St.new s false (.agg 48 (List.replicate 49 (.agg 42 [(.int .i64 0), (.int .i64 0), (.int .i64 0)])))
 let x1 : V := .ptr (St.fresh s0 false) [] 50; let s1 : St := St.new s0 false (.agg 50 (List.replicate 8 (.int .i64 0)))
 some (.normal, [(0, v0), (2, x0), (3, x1)], s1)
@[go_sem] theorem t28_0 : rc D b c28_0 ρ s = R28_0 b s (get ρ 0) := zr (by kernel_rfl)
@[go_sem] def R28_1 (base : Nat) (s : St) (v0 v2 v3 : V) : OR :=
 obind (nilv v0) fun x0 =>
 obind (fadv 43 3 48 x0) fun x1 =>
 obind (ldv s 48 x1) fun x2 =>
 obind (nilv v0) fun x3 =>
 obind (fadv 43 4 50 x3) fun x4 =>
 obind (ldav s 50 x4 v0) fun x5 =>
 obind (stav base s 48 x2 v2 [v0]) fun s6 =>
 obind (stv base s6 50 x5 v3) fun s7 =>
 some (.normal, [(2, v2), (3, v3)], s7)
@[go_sem] theorem t28_1 : rc D b c28_1 ρ s = R28_1 b s (get ρ 0) (get ρ 2) (get ρ 3) := zd (by kernel_rfl)
@[go_sem] def R29_0 (_base : Nat) (s : St) (v0 : V) : OR :=
 let x0 : V := .ptr (St.fresh s false) [] 48; let s0 : St := St.new s false (.agg 48 (List.replicate 49 (.agg 42 [(.int .i64 0), (.int .i64 0), (.int .i64 0)])))
 some (.normal, [(0, v0), (2, x0)], s0)
@[go_sem] theorem t29_0 : rc D b c29_0 ρ s = R29_0 b s (get ρ 0) := zr (by kernel_rfl)
@[go_sem] def R29_1 (_base : Nat) (s : St) (v0 v2 : V) : OR :=
 obind (nilv v0) fun x0 =>
 obind (fadv 43 6 0 x0) fun x1 =>
 obind (ldv s 0 x1) fun x2 =>
 obind (vun .not x2) fun x3 =>
 some (.normal, [(0, v0), (2, v2), (8, x3)], s)
@[go_sem] theorem t29_1 : rc D b c29_1 ρ s = R29_1 b s (get ρ 0) (get ρ 2) := zr (by kernel_rfl)
@[go_sem] def R29_2 (base : Nat) (s : St) (v2 : V) : OR :=
 obind (ldv s 48 v2) fun x0 =>
 obind (stv base s 48 x0 v2) fun s1 =>
 some (.normal, [(2, v2), (3, (.bool false))], s1)
@[go_sem] theorem t29_2 : rc D b c29_2 ρ s = R29_2 b s (get ρ 2) := zr (by kernel_rfl)
@[go_sem] def R29_3 (base : Nat) (s : St) (v0 v2 : V) : OR :=
 obind (nilv v0) fun x0 =>
 obind (fadv 43 5 48 x0) fun x1 =>
 obind (ldv s 48 x1) fun x2 =>
 obind (stv base s 48 x2 v2) fun s3 =>
 some (.normal, [(2, v2), (3, (.bool true))], s3)
@[go_sem] theorem t29_3 : rc D b c29_3 ρ s = R29_3 b s (get ρ 0) (get ρ 2) := zr (by kernel_rfl)
@[go_sem] def R30_0 (_base : Nat) (s : St) (v0 v1 : V) : OR :=
 some (.normal, [(0, v0), (1, v1)], s)
@[go_sem] theorem t30_0 : rc D b c30_0 ρ s = R30_0 b s (get ρ 0) (get ρ 1) := zr (by kernel_rfl)
@[go_sem] def R30_1 (base : Nat) (s : St) (v0 v1 : V) : OR :=
 obind (rf D f_caps_Of [v1] s) fun x0 =>
 obind (extv 0 x0.1) fun x1 =>
 obind (extv 1 x0.1) fun x2 =>
 let x3 : V := .ptr (St.fresh x0.2 false) [] 40; let s3 : St := St.new x0.2 false (.agg 40 [(.int .i64 0), (.int .i64 0), (.int .i64 0), (.int .i64 0), (.int .i64 0)])
 obind (stv base s3 40 x1 x3) fun s4 =>
 some (.normal, [(0, v0), (1, v1), (6, x3), (7, x2)], s4)
@[go_sem] theorem t30_1 : rc D b c30_1 ρ s = R30_1 b s (get ρ 0) (get ρ 1) := zr (by kernel_rfl)
@[go_sem] def R30_2 (_base : Nat) (s : St) (v0 v1 v6 v7 : V) : OR :=
 obind (vun .not v7) fun x0 =>
 some (.normal, [(0, v0), (1, v1), (6, v6), (15, x0)], s)
@[go_sem] theorem t30_2 : rc D b c30_2 ρ s = R30_2 b s (get ρ 0) (get ρ 1) (get ρ 6) (get ρ 7) := zr (by kernel_rfl)
@[go_sem] def R30_3 (_base : Nat) (s : St) : OR :=
 some (.normal, [(4, (.int .i64 0)), (5, (.int .i64 31))], s)
@[go_sem] theorem t30_3 : rc D b c30_3 ρ s = R30_3 b s := zr (by kernel_rfl)
@[go_sem] def R30_4 (base : Nat) (s : St) (v0 v1 v6 : V) : OR :=
 obind (fadv 40 2 10 v6) fun x0 =>
 obind (ldv s 10 x0) fun x1 =>
 obind (nilv v0) fun x2 =>
 obind (fadv 43 2 48 x2) fun x3 =>
 obind (iadv 48 49 42 x3 x1) fun x4 =>
 obind (ldv s 42 x4) fun x5 =>
 obind (fadv 40 2 10 v6) fun x6 =>
 obind (ldv s 10 x6) fun x7 =>
 obind (pcallw D (pcut base [x5, x7, v1]) base f_entry_Names [x5, x7, v1] s) fun x8 =>
 some (.normal, [(6, v6), (8, x8)], s)
@[go_sem] theorem t30_4 : rc D b c30_4 ρ s = R30_4 b s (get ρ 0) (get ρ 1) (get ρ 6) := zd (by kernel_rfl)
@[go_sem] def R30_5 (_base : Nat) (s : St) (v6 v8 : V) : OR :=
 obind (vbin .neq v8 (.int .i64 0)) fun x0 =>
 some (.normal, [(6, v6), (8, v8), (28, x0)], s)
@[go_sem] theorem t30_5 : rc D b c30_5 ρ s = R30_5 b s (get ρ 6) (get ρ 8) := zr (by kernel_rfl)
@[go_sem] def R30_6 (_base : Nat) (s : St) (v8 : V) : OR :=
 some (.normal, [(4, (.int .i64 0)), (5, v8)], s)
@[go_sem] theorem t30_6 : rc D b c30_6 ρ s = R30_6 b s (get ρ 8) := zr (by kernel_rfl)
@[go_sem] def R30_7 (_base : Nat) (s : St) (v6 : V) : OR :=
 obind (fadv 40 2 10 v6) fun x0 =>
 obind (ldv s 10 x0) fun x1 =>
 some (.normal, [(4, x1), (5, (.int .i64 0))], s)
@[go_sem] theorem t30_7 : rc D b c30_7 ρ s = R30_7 b s (get ρ 6) := zr (by kernel_rfl)
@[go_sem] def R31_0 (_base : Nat) (s : St) (v0 : V) : OR :=
 if V.ok v0 && mayNew false v0 then let x0 : V := .ptr (St.fresh s false) [] (V.tag v0); let s0 : St := St.new s false v0
 some (.normal, [(1, x0)], s0)
 else none
@[go_sem] theorem t31_0 : rc D b c31_0 ρ s = R31_0 b s (get ρ 0) := zr (by kernel_rfl)
@[go_sem] def R31_1 (_base : Nat) (s : St) (v1 : V) : OR :=
 obind (ldv s 40 v1) fun x0 =>
 obind (rf D f_caps_may [x0] s) fun x1 =>
 obind (vun .not x1.1) fun x2 =>
 some (.normal, [(1, v1), (6, x2)], x1.2)
@[go_sem] theorem t31_1 : rc D b c31_1 ρ s = R31_1 b s (get ρ 1) := zr (by kernel_rfl)
@[go_sem] def R31_2 (_base : Nat) (s : St) : OR :=
 some (.normal, [(2, (.int .u64 0)), (3, (.int .i64 1))], s)
@[go_sem] theorem t31_2 : rc D b c31_2 ρ s = R31_2 b s := zr (by kernel_rfl)
@[go_sem] def R31_3 (_base : Nat) (s : St) (v1 : V) : OR :=
 obind (fadv 40 0 10 v1) fun x0 =>
 obind (ldv s 10 x0) fun x1 =>
 obind (convv .u64 x1) fun x2 =>
 obind (fadv 40 1 10 v1) fun x3 =>
 obind (ldv s 10 x3) fun x4 =>
 obind (convv .u64 x4) fun x5 =>
 obind (vbin .shl x5 (.int .u64 4)) fun x6 =>
 obind (vbin .or x2 x6) fun x7 =>
 obind (fadv 40 2 10 v1) fun x8 =>
 obind (ldv s 10 x8) fun x9 =>
 obind (convv .u64 x9) fun x10 =>
 obind (vbin .shl x10 (.int .u64 8)) fun x11 =>
 obind (vbin .or x7 x11) fun x12 =>
 obind (fadv 40 3 10 v1) fun x13 =>
 obind (ldv s 10 x13) fun x14 =>
 obind (convv .u64 x14) fun x15 =>
 obind (vbin .shl x15 (.int .u64 24)) fun x16 =>
 obind (vbin .or x12 x16) fun x17 =>
 obind (fadv 40 4 10 v1) fun x18 =>
 obind (ldv s 10 x18) fun x19 =>
 obind (convv .u64 x19) fun x20 =>
 obind (vbin .shl x20 (.int .u64 48)) fun x21 =>
 obind (vbin .or x17 x21) fun x22 =>
 some (.normal, [(2, x22), (3, (.int .i64 0))], s)
@[go_sem] theorem t31_3 : rc D b c31_3 ρ s = R31_3 b s (get ρ 1) := zr (by kernel_rfl)
@[go_sem] def R32_0 (_base : Nat) (s : St) (v0 v1 : V) : OR :=
 if V.ok v1 && mayNew false v1 then let x0 : V := .ptr (St.fresh s false) [] (V.tag v1); let s0 : St := St.new s false v1
 some (.normal, [(0, v0), (3, x0)], s0)
 else none
@[go_sem] theorem t32_0 : rc D b c32_0 ρ s = R32_0 b s (get ρ 0) (get ρ 1) := zr (by kernel_rfl)
@[go_sem] def R32_1 (_base : Nat) (s : St) (v0 v3 : V) : OR :=
 obind (nilv v0) fun x0 =>
 obind (fadv 43 6 0 x0) fun x1 =>
 obind (ldv s 0 x1) fun x2 =>
 obind (vun .not x2) fun x3 =>
 some (.normal, [(0, v0), (3, v3), (9, x3)], s)
@[go_sem] theorem t32_1 : rc D b c32_1 ρ s = R32_1 b s (get ρ 0) (get ρ 3) := zr (by kernel_rfl)
@[go_sem] def R32_2 (_base : Nat) (s : St) : OR :=
 some (.normal, [(4, (.int .i64 3))], s)
@[go_sem] theorem t32_2 : rc D b c32_2 ρ s = R32_2 b s := zr (by kernel_rfl)
@[go_sem] def R32_3 (base : Nat) (s : St) (v0 v3 : V) : OR :=
 obind (nilv v0) fun x0 =>
 obind (fadv 43 5 48 x0) fun x1 =>
 obind (ldv s 48 x1) fun x2 =>
 obind (ldv s 50 v3) fun x3 =>
 obind (nilv v0) fun x4 =>
 obind (fadv 43 3 48 x4) fun x5 =>
 obind (stav base s 48 x2 x5 [v3]) fun s6 =>
 obind (nilv v0) fun x7 =>
 obind (fadv 43 4 50 x7) fun x8 =>
 obind (stv base s6 50 x3 x8) fun s9 =>
 some (.normal, [(0, v0)], s9)
@[go_sem] theorem t32_3 : rc D b c32_3 ρ s = R32_3 b s (get ρ 0) (get ρ 3) := zd (by kernel_rfl)
@[go_sem] def R32_4 (_base : Nat) (s : St) (v0 : V) : OR :=
 obind (rf D f_objects_Store_unmark [v0] s) fun x0 =>
 some (.normal, [], x0.2)
@[go_sem] theorem t32_4 : rc D b c32_4 ρ s = R32_4 b s (get ρ 0) := zr (by kernel_rfl)
@[go_sem] def R32_5 (_base : Nat) (s : St) : OR :=
 some (.normal, [(4, (.int .i64 0))], s)
@[go_sem] theorem t32_5 : rc D b c32_5 ρ s = R32_5 b s := zr (by kernel_rfl)
@[go_sem] def R33_0 (_base : Nat) (s : St) (v0 : V) : OR :=
 some (.normal, [(0, v0)], s)
@[go_sem] theorem t33_0 : rc D b c33_0 ρ s = R33_0 b s (get ρ 0) := zr (by kernel_rfl)
@[go_sem] def R33_1 (_base : Nat) (s : St) (v0 : V) : OR :=
 obind (nilv v0) fun x0 =>
 obind (fadv 43 6 0 x0) fun x1 =>
 obind (ldv s 0 x1) fun x2 =>
 obind (vun .not x2) fun x3 =>
 some (.normal, [(0, v0), (7, x3)], s)
@[go_sem] theorem t33_1 : rc D b c33_1 ρ s = R33_1 b s (get ρ 0) := zr (by kernel_rfl)
@[go_sem] def R33_2 (_base : Nat) (s : St) : OR :=
 some (.normal, [(2, (.int .i64 3))], s)
@[go_sem] theorem t33_2 : rc D b c33_2 ρ s = R33_2 b s := zr (by kernel_rfl)
@[go_sem] def R33_3 (_base : Nat) (s : St) (v0 : V) : OR :=
 obind (rf D f_objects_Store_unmark [v0] s) fun x0 =>
 some (.normal, [], x0.2)
@[go_sem] theorem t33_3 : rc D b c33_3 ρ s = R33_3 b s (get ρ 0) := zr (by kernel_rfl)
@[go_sem] def R33_4 (_base : Nat) (s : St) : OR :=
 some (.normal, [(2, (.int .i64 0))], s)
@[go_sem] theorem t33_4 : rc D b c33_4 ρ s = R33_4 b s := zr (by kernel_rfl)
@[go_sem] def R34_0 (_base : Nat) (s : St) (v0 v1 : V) : OR :=
 some (.normal, [(0, v0), (1, v1)], s)
@[go_sem] theorem t34_0 : rc D b c34_0 ρ s = R34_0 b s (get ρ 0) (get ρ 1) := zr (by kernel_rfl)
@[go_sem] def R34_1 (_base : Nat) (s : St) (v0 v1 : V) : OR :=
 some (.normal, [(0, v0), (9, v1)], s)
@[go_sem] theorem t34_1 : rc D b c34_1 ρ s = R34_1 b s (get ρ 0) (get ρ 1) := zr (by kernel_rfl)
@[go_sem] def R34_2 (_base : Nat) (s : St) (v0 v9 : V) : OR :=
 obind (vbin .eql v9 (.int .i64 1)) fun x0 =>
 some (.normal, [(0, v0), (9, v9), (10, x0)], s)
@[go_sem] theorem t34_2 : rc D b c34_2 ρ s = R34_2 b s (get ρ 0) (get ρ 9) := zr (by kernel_rfl)
@[go_sem] def R34_3 (_base : Nat) (s : St) (v0 v9 : V) : OR :=
 obind (vbin .eql v9 (.int .i64 2)) fun x0 =>
 some (.normal, [(0, v0), (9, v9), (10, x0)], s)
@[go_sem] theorem t34_3 : rc D b c34_3 ρ s = R34_3 b s (get ρ 0) (get ρ 9) := zr (by kernel_rfl)
@[go_sem] def R34_4 (_base : Nat) (s : St) (v0 v9 : V) : OR :=
 obind (vbin .eql v9 (.int .i64 4)) fun x0 =>
 some (.normal, [(0, v0), (10, x0)], s)
@[go_sem] theorem t34_4 : rc D b c34_4 ρ s = R34_4 b s (get ρ 0) (get ρ 9) := zr (by kernel_rfl)
@[go_sem] def R34_5 (_base : Nat) (s : St) : OR :=
 some (.normal, [(4, (.int .i64 0)), (5, (.int .i64 0)), (6, (.int .i64 1))], s)
@[go_sem] theorem t34_5 : rc D b c34_5 ρ s = R34_5 b s := zr (by kernel_rfl)
@[go_sem] def R34_6 (_base : Nat) (s : St) (v0 : V) : OR :=
 obind (nilv v0) fun x0 =>
 obind (fadv 43 2 48 x0) fun x1 =>
 obind (ldv s 48 x1) fun x2 =>
 some (.normal, [(17, x2), (18, (.int .i64 0))], s)
@[go_sem] theorem t34_6 : rc D b c34_6 ρ s = R34_6 b s (get ρ 0) := zr (by kernel_rfl)
@[go_sem] def R34_7 (_base : Nat) (s : St) (v17 v18 : V) : OR :=
 obind (vbin .lss v18 (.int .i64 49)) fun x0 =>
 some (.normal, [(17, v17), (18, v18), (19, x0)], s)
@[go_sem] theorem t34_7 : rc D b c34_7 ρ s = R34_7 b s (get ρ 17) (get ρ 18) := zr (by kernel_rfl)
@[go_sem] def R34_8 (base : Nat) (s : St) (v17 v18 : V) : OR :=
 obind (idxv 48 49 v17 v18) fun x0 =>
 let x1 : V := .ptr (St.fresh s false) [] 42; let s1 : St := St.new s false (.agg 42 [(.int .i64 0), (.int .i64 0), (.int .i64 0)])
 obind (stv base s1 42 x0 x1) fun s2 =>
 some (.normal, [(7, v18), (8, x1), (17, v17), (18, v18)], s2)
@[go_sem] theorem t34_8 : rc D b c34_8 ρ s = R34_8 b s (get ρ 17) (get ρ 18) := zr (by kernel_rfl)
@[go_sem] def R34_9 (_base : Nat) (s : St) (v7 v8 v17 v18 : V) : OR :=
 obind (ldv s 42 v8) fun x0 =>
 obind (rf D f_entry_Open [x0] s) fun x1 =>
 some (.normal, [(7, v7), (8, v8), (17, v17), (18, v18), (23, x1.1)], x1.2)
@[go_sem] theorem t34_9 : rc D b c34_9 ρ s = R34_9 b s (get ρ 7) (get ρ 8) (get ρ 17) (get ρ 18) := zr (by kernel_rfl)
@[go_sem] def R34_10 (_base : Nat) (s : St) (v7 v8 : V) : OR :=
 obind (fadv 42 1 10 v8) fun x0 =>
 obind (ldv s 10 x0) fun x1 =>
 some (.normal, [(4, v7), (5, x1), (6, (.int .i64 0))], s)
@[go_sem] theorem t34_10 : rc D b c34_10 ρ s = R34_10 b s (get ρ 7) (get ρ 8) := zd (by kernel_rfl)
@[go_sem] def R34_11 (_base : Nat) (s : St) (v17 v18 : V) : OR :=
 obind (vbin .add v18 (.int .i64 1)) fun x0 =>
 some (.normal, [(17, v17), (18, x0)], s)
@[go_sem] theorem t34_11 : rc D b c34_11 ρ s = R34_11 b s (get ρ 17) (get ρ 18) := zr (by kernel_rfl)
@[go_sem] def R34_12 (_base : Nat) (s : St) : OR :=
 some (.normal, [(4, (.int .i64 0)), (5, (.int .i64 0)), (6, (.int .i64 34))], s)
@[go_sem] theorem t34_12 : rc D b c34_12 ρ s = R34_12 b s := zr (by kernel_rfl)
@[go_sem] def R35_0 (_base : Nat) (s : St) (v0 : V) : OR :=
 some (.normal, [(0, v0)], s)
@[go_sem] theorem t35_0 : rc D b c35_0 ρ s = R35_0 b s (get ρ 0) := zr (by kernel_rfl)
@[go_sem] def R35_1 (_base : Nat) (s : St) (v0 : V) : OR :=
 obind (V.slen false v0) fun x0 =>
 obind (vbin .lss (.int .i64 x0) (.int .i64 64)) fun x1 =>
 oguard x1 false (
   obind (V.slen false v0) fun x2 =>
   obind (vbin .gtr (.int .i64 x2) (.int .i64 1024)) fun x3 =>
   some (.normal, [(0, v0), (11, x3)], s)) (
   some (.normal, [(0, v0), (11, (.bool true))], s)) (
   none)
@[go_sem] theorem t35_1 : rc D b c35_1 ρ s = R35_1 b s (get ρ 0) := zr (by kernel_rfl)
@[go_sem] def R35_2 (_base : Nat) (s : St) : OR :=
 some (.normal, [(2, .nilp), (3, (.int .i64 1))], s)
@[go_sem] theorem t35_2 : rc D b c35_2 ρ s = R35_2 b s := zr (by kernel_rfl)
@[go_sem] def R35_3 (base : Nat) (s : St) (v0 : V) : OR :=
 obind (bslv true 58 24 0 (.agg 24 (List.replicate 8 (.int .u64 0))) s []) fun x0 =>
 obind (vappend base true 58 24 x0.1 v0 x0.2) fun x1 =>
 obind (V.slen false v0) fun x2 =>
 obind (mkslv true 53 1 .nils x1.2 (.int .i64 x2) (.int .i64 x2)) fun x3 =>
 obind (setParts [.nils, .nils, (.bool false), (.int .i64 0), (.int .i64 0)] [(0, x1.1), (1, x3.1), (3, (.int .i64 (-1)))]) fun x4 =>
 if V.ok (.agg 33 x4) && mayNew true (.agg 33 x4) then let x5 : V := .ptr (St.fresh x3.2 true) [] (V.tag (.agg 33 x4)); let s5 : St := St.new x3.2 true (.agg 33 x4)
 some (.normal, [(2, x5), (3, (.int .i64 0))], s5)
 else none
@[go_sem] theorem t35_3 : rc D b c35_3 ρ s = R35_3 b s (get ρ 0) := zd (by kernel_rfl)
@[go_sem] def R36_0 (_base : Nat) (s : St) (v0 v1 : V) : OR :=
 some (.normal, [(0, v0), (1, v1)], s)
@[go_sem] theorem t36_0 : rc D b c36_0 ρ s = R36_0 b s (get ρ 0) (get ρ 1) := zr (by kernel_rfl)
@[go_sem] def R36_1 (_base : Nat) (s : St) (v0 v1 : V) : OR :=
 obind (vbin .lss v0 (.int .i64 0)) fun x0 =>
 oguard x0 false (
   obind (vbin .gtr v0 v1) fun x1 =>
   oguard x1 false (
     obind (vbin .gtr v1 (.int .i64 1024)) fun x2 =>
     some (.normal, [(0, v0), (1, v1), (18, x2)], s)) (
     some (.normal, [(0, v0), (1, v1), (18, (.bool true))], s)) (
     none)) (
   some (.normal, [(0, v0), (1, v1), (18, (.bool true))], s)) (
   none)
@[go_sem] theorem t36_1 : rc D b c36_1 ρ s = R36_1 b s (get ρ 0) (get ρ 1) := zr (by kernel_rfl)
@[go_sem] def R36_2 (_base : Nat) (s : St) : OR :=
 some (.normal, [(4, .nilp), (5, (.int .i64 1))], s)
@[go_sem] theorem t36_2 : rc D b c36_2 ρ s = R36_2 b s := zr (by kernel_rfl)
@[go_sem] def R36_3 (_base : Nat) (s : St) (v0 v1 : V) : OR :=
 obind (setParts [(.int .i64 0), (.int .i64 0), (.agg 78 (List.replicate 16 (.int .u64 0))), (.agg 78 (List.replicate 16 (.int .u64 0)))] [(0, v0), (1, v1)]) fun x0 =>
 if V.ok (.agg 80 x0) && mayNew true (.agg 80 x0) then let x1 : V := .ptr (St.fresh s true) [] (V.tag (.agg 80 x0)); let s1 : St := St.new s true (.agg 80 x0)
 some (.normal, [(0, v0), (1, v1), (6, x1)], s1)
 else none
@[go_sem] theorem t36_3 : rc D b c36_3 ρ s = R36_3 b s (get ρ 0) (get ρ 1) := zr (by kernel_rfl)
@[go_sem] def R36_4 (_base : Nat) (s : St) (v0 v1 v6 : V) : OR :=
 obind (vbin .sub v1 v0) fun x0 =>
 some (.normal, [(0, v0), (6, v6), (25, x0), (26, (.int .i64 0))], s)
@[go_sem] theorem t36_4 : rc D b c36_4 ρ s = R36_4 b s (get ρ 0) (get ρ 1) (get ρ 6) := zr (by kernel_rfl)
@[go_sem] def R36_5 (_base : Nat) (s : St) (v0 v6 v25 v26 : V) : OR :=
 obind (vbin .lss v26 v25) fun x0 =>
 some (.normal, [(0, v0), (6, v6), (25, v25), (26, v26), (27, x0)], s)
@[go_sem] theorem t36_5 : rc D b c36_5 ρ s = R36_5 b s (get ρ 0) (get ρ 6) (get ρ 25) (get ρ 26) := zr (by kernel_rfl)
@[go_sem] def R36_6 (_base : Nat) (s : St) (v0 v6 v25 v26 : V) : OR :=
 some (.normal, [(0, v0), (6, v6), (7, v26), (25, v25), (26, v26)], s)
@[go_sem] theorem t36_6 : rc D b c36_6 ρ s = R36_6 b s (get ρ 0) (get ρ 6) (get ρ 25) (get ρ 26) := zr (by kernel_rfl)
@[go_sem] def R36_7 (_base : Nat) (s : St) (v0 v6 v7 v25 v26 : V) : OR :=
 obind (nilv v6) fun x0 =>
 obind (fadv 80 2 78 x0) fun x1 =>
 obind (vbin .add v0 v7) fun x2 =>
 obind (rf D f_frames_set_turn [x1, x2] s) fun x3 =>
 some (.normal, [(0, v0), (6, v6), (25, v25), (26, v26)], x3.2)
@[go_sem] theorem t36_7 : rc D b c36_7 ρ s = R36_7 b s (get ρ 0) (get ρ 6) (get ρ 7) (get ρ 25) (get ρ 26) := zr (by kernel_rfl)
@[go_sem] def R36_8 (_base : Nat) (s : St) (v0 v6 v25 v26 : V) : OR :=
 obind (vbin .add v26 (.int .i64 1)) fun x0 =>
 some (.normal, [(0, v0), (6, v6), (25, v25), (26, x0)], s)
@[go_sem] theorem t36_8 : rc D b c36_8 ρ s = R36_8 b s (get ρ 0) (get ρ 6) (get ρ 25) (get ρ 26) := zr (by kernel_rfl)
@[go_sem] def R36_9 (_base : Nat) (s : St) (v6 : V) : OR :=
 some (.normal, [(4, v6), (5, (.int .i64 0))], s)
@[go_sem] theorem t36_9 : rc D b c36_9 ρ s = R36_9 b s (get ρ 6) := zr (by kernel_rfl)
@[go_sem] def R37_0 (_base : Nat) (s : St) (v0 : V) : OR :=
 some (.normal, [(0, v0)], s)
@[go_sem] theorem t37_0 : rc D b c37_0 ρ s = R37_0 b s (get ρ 0) := zr (by kernel_rfl)
@[go_sem] def R37_1 (_base : Nat) (s : St) (v0 : V) : OR :=
 obind (nilv v0) fun x0 =>
 obind (fadv 59 0 1 x0) fun x1 =>
 obind (ldv s 1 x1) fun x2 =>
 obind (V.slen false x2) fun x3 =>
 some (.normal, [(2, (.int .i64 x3))], s)
@[go_sem] theorem t37_1 : rc D b c37_1 ρ s = R37_1 b s (get ρ 0) := zr (by kernel_rfl)
@[go_sem] def R38_0 (_base : Nat) (s : St) (v0 v1 : V) : OR :=
 some (.normal, [(0, v0), (1, v1)], s)
@[go_sem] theorem t38_0 : rc D b c38_0 ρ s = R38_0 b s (get ρ 0) (get ρ 1) := zr (by kernel_rfl)
@[go_sem] def R38_1 (_base : Nat) (s : St) (v0 v1 : V) : OR :=
 obind (rf D f_frames_Frames_in [v0, v1, (.int .i64 0)] s) fun x0 =>
 some (.normal, [(0, v0), (1, v1), (5, x0.1)], x0.2)
@[go_sem] theorem t38_1 : rc D b c38_1 ρ s = R38_1 b s (get ρ 0) (get ρ 1) := zr (by kernel_rfl)
@[go_sem] def R38_2 (_base : Nat) (s : St) (v0 v1 v5 : V) : OR :=
 obind (vbin .eql v5 (.int .i64 0)) fun x0 =>
 some (.normal, [(0, v0), (1, v1), (5, v5), (10, x0)], s)
@[go_sem] theorem t38_2 : rc D b c38_2 ρ s = R38_2 b s (get ρ 0) (get ρ 1) (get ρ 5) := zr (by kernel_rfl)
@[go_sem] def R38_3 (_base : Nat) (s : St) (v0 v1 v5 : V) : OR :=
 obind (nilv v0) fun x0 =>
 obind (fadv 80 2 78 x0) fun x1 =>
 obind (rf D f_frames_set_turn [x1, v1] s) fun x2 =>
 some (.normal, [(5, v5)], x2.2)
@[go_sem] theorem t38_3 : rc D b c38_3 ρ s = R38_3 b s (get ρ 0) (get ρ 1) (get ρ 5) := zr (by kernel_rfl)
@[go_sem] def R38_4 (_base : Nat) (s : St) (v5 : V) : OR :=
 some (.normal, [(4, v5)], s)
@[go_sem] theorem t38_4 : rc D b c38_4 ρ s = R38_4 b s (get ρ 5) := zr (by kernel_rfl)
@[go_sem] def R39_0 (base : Nat) (s : St) (v0 : V) : OR :=
 obind (setParts (List.replicate 1024 (.bool false)) []) fun x0 =>
 obind (nilv v0) fun x1 =>
 obind (fadv 43 7 82 x1) fun x2 =>
 obind (stv base s 82 (.agg 82 x0) x2) fun s3 =>
 some (.normal, [(0, v0)], s3)
@[go_sem] theorem t39_0 : rc D b c39_0 ρ s = R39_0 b s (get ρ 0) := zr (by kernel_rfl)
@[go_sem] def R39_1 (_base : Nat) (s : St) (v0 : V) : OR :=
 obind (nilv v0) fun x0 =>
 obind (fadv 43 7 82 x0) fun x1 =>
 obind (nilv v0) fun x2 =>
 obind (fadv 43 3 48 x2) fun x3 =>
 obind (ldv s 48 x3) fun x4 =>
 obind (rf D f_objects_lines_add [x1, x4] s) fun x5 =>
 some (.normal, [(0, v0)], x5.2)
@[go_sem] theorem t39_1 : rc D b c39_1 ρ s = R39_1 b s (get ρ 0) := zd (by kernel_rfl)
@[go_sem] def R39_2 (_base : Nat) (s : St) (v0 : V) : OR :=
 obind (nilv v0) fun x0 =>
 obind (fadv 43 6 0 x0) fun x1 =>
 obind (ldv s 0 x1) fun x2 =>
 some (.normal, [(0, v0), (17, x2)], s)
@[go_sem] theorem t39_2 : rc D b c39_2 ρ s = R39_2 b s (get ρ 0) := zr (by kernel_rfl)
@[go_sem] def R39_3 (_base : Nat) (s : St) (v0 : V) : OR :=
 obind (nilv v0) fun x0 =>
 obind (fadv 43 7 82 x0) fun x1 =>
 obind (nilv v0) fun x2 =>
 obind (fadv 43 5 48 x2) fun x3 =>
 obind (ldv s 48 x3) fun x4 =>
 obind (rf D f_objects_lines_add [x1, x4] s) fun x5 =>
 some (.normal, [], x5.2)
@[go_sem] theorem t39_3 : rc D b c39_3 ρ s = R39_3 b s (get ρ 0) := zd (by kernel_rfl)
@[go_sem] def R40_0 (_base : Nat) (s : St) (v0 v1 : V) : OR :=
 some (.normal, [(0, v0), (1, v1)], s)
@[go_sem] theorem t40_0 : rc D b c40_0 ρ s = R40_0 b s (get ρ 0) (get ρ 1) := zr (by kernel_rfl)
@[go_sem] def R40_1 (_base : Nat) (s : St) (v0 v1 : V) : OR :=
 obind (vbin .lss v0 (.int .i64 0)) fun x0 =>
 oguard x0 false (
   obind (vbin .gtr v0 v1) fun x1 =>
   oguard x1 false (
     obind (vbin .gtr v1 (.int .i64 1024)) fun x2 =>
     some (.normal, [(0, v0), (1, v1), (16, x2)], s)) (
     some (.normal, [(0, v0), (1, v1), (16, (.bool true))], s)) (
     none)) (
   some (.normal, [(0, v0), (1, v1), (16, (.bool true))], s)) (
   none)
@[go_sem] theorem t40_1 : rc D b c40_1 ρ s = R40_1 b s (get ρ 0) (get ρ 1) := zr (by kernel_rfl)
@[go_sem] def R40_2 (_base : Nat) (s : St) : OR :=
 some (.normal, [(4, .nilp), (5, (.int .i64 1))], s)
@[go_sem] theorem t40_2 : rc D b c40_2 ρ s = R40_2 b s := zr (by kernel_rfl)
@[go_sem] def R40_3 (_base : Nat) (s : St) (v0 v1 : V) : OR :=
 obind (vbin .sub v1 v0) fun x0 =>
 obind (mkslv true 38 10 (.int .i64 0) s x0 x0) fun x1 =>
 obind (setParts [(.int .i64 0), .nils] [(0, v0), (1, x1.1)]) fun x2 =>
 if V.ok (.agg 21 x2) && mayNew true (.agg 21 x2) then let x3 : V := .ptr (St.fresh x1.2 true) [] (V.tag (.agg 21 x2)); let s3 : St := St.new x1.2 true (.agg 21 x2)
 some (.normal, [(4, x3), (5, (.int .i64 0))], s3)
 else none
@[go_sem] theorem t40_3 : rc D b c40_3 ρ s = R40_3 b s (get ρ 0) (get ρ 1) := zr (by kernel_rfl)
@[go_sem] def R41_0 (_base : Nat) (s : St) (v0 : V) : OR :=
 if V.ok v0 && mayNew false v0 then let x0 : V := .ptr (St.fresh s false) [] (V.tag v0); let s0 : St := St.new s false v0
 some (.normal, [(1, x0)], s0)
 else none
@[go_sem] theorem t41_0 : rc D b c41_0 ρ s = R41_0 b s (get ρ 0) := zr (by kernel_rfl)
@[go_sem] def R41_1 (_base : Nat) (s : St) (v1 : V) : OR :=
 some (.normal, [(1, v1), (3, .nils)], s)
@[go_sem] theorem t41_1 : rc D b c41_1 ρ s = R41_1 b s (get ρ 1) := zr (by kernel_rfl)
@[go_sem] def R41_2 (_base : Nat) (s : St) (v1 v3 : V) : OR :=
 some (.normal, [(1, v1), (3, v3), (4, (.int .i64 0))], s)
@[go_sem] theorem t41_2 : rc D b c41_2 ρ s = R41_2 b s (get ρ 1) (get ρ 3) := zr (by kernel_rfl)
@[go_sem] def R41_3 (_base : Nat) (s : St) (v1 v3 v4 : V) : OR :=
 obind (vbin .lss v4 (.int .i64 49)) fun x0 =>
 some (.normal, [(1, v1), (3, v3), (4, v4), (6, x0)], s)
@[go_sem] theorem t41_3 : rc D b c41_3 ρ s = R41_3 b s (get ρ 1) (get ρ 3) (get ρ 4) := zr (by kernel_rfl)
@[go_sem] def R41_4 (_base : Nat) (s : St) (v1 v3 v4 : V) : OR :=
 obind (iadv 48 49 42 v1 v4) fun x0 =>
 obind (fadv 42 0 10 x0) fun x1 =>
 obind (ldv s 10 x1) fun x2 =>
 obind (vbin .neq x2 (.int .i64 0)) fun x3 =>
 some (.normal, [(1, v1), (3, v3), (4, v4), (13, x3)], s)
@[go_sem] theorem t41_4 : rc D b c41_4 ρ s = R41_4 b s (get ρ 1) (get ρ 3) (get ρ 4) := zr (by kernel_rfl)
@[go_sem] def R41_5 (base : Nat) (s : St) (v1 v3 v4 : V) : OR :=
 obind (iadv 48 49 42 v1 v4) fun x0 =>
 obind (fadv 42 2 10 x0) fun x1 =>
 obind (ldv s 10 x1) fun x2 =>
 obind (bslv false 38 10 1 (.int .i64 0) s [(0, x2)]) fun x3 =>
 obind (vappend base true 38 10 v3 x3.1 x3.2) fun x4 =>
 some (.normal, [(1, v1), (3, x4.1), (4, v4)], x4.2)
@[go_sem] theorem t41_5 : rc D b c41_5 ρ s = R41_5 b s (get ρ 1) (get ρ 3) (get ρ 4) := zr (by kernel_rfl)
@[go_sem] def R41_6 (_base : Nat) (s : St) (v1 v3 v4 : V) : OR :=
 obind (vbin .add v4 (.int .i64 1)) fun x0 =>
 some (.normal, [(1, v1), (3, v3), (4, x0)], s)
@[go_sem] theorem t41_6 : rc D b c41_6 ρ s = R41_6 b s (get ρ 1) (get ρ 3) (get ρ 4) := zr (by kernel_rfl)
@[go_sem] def R41_7 (_base : Nat) (s : St) (v3 : V) : OR :=
 some (.normal, [(2, v3)], s)
@[go_sem] theorem t41_7 : rc D b c41_7 ρ s = R41_7 b s (get ρ 3) := zr (by kernel_rfl)
@[go_sem] def R42_0 (_base : Nat) (s : St) (v0 v1 : V) : OR :=
 some (.normal, [(0, v0), (1, v1)], s)
@[go_sem] theorem t42_0 : rc D b c42_0 ρ s = R42_0 b s (get ρ 0) (get ρ 1) := zr (by kernel_rfl)
@[go_sem] def R42_1 (_base : Nat) (s : St) (v0 v1 : V) : OR :=
 obind (rf D f_steadfastref04_Frames_turn [v0, v1, (.int .i64 0), (.int .i64 1)] s) fun x0 =>
 some (.normal, [(4, x0.1)], x0.2)
@[go_sem] theorem t42_1 : rc D b c42_1 ρ s = R42_1 b s (get ρ 0) (get ρ 1) := zr (by kernel_rfl)
@[go_sem] def R43_0 (_base : Nat) (s : St) (v0 : V) : OR :=
 some (.normal, [(0, v0)], s)
@[go_sem] theorem t43_0 : rc D b c43_0 ρ s = R43_0 b s (get ρ 0) := zr (by kernel_rfl)
@[go_sem] def R43_1 (_base : Nat) (s : St) (v0 : V) : OR :=
 some (.normal, [(0, v0), (3, (.int .i64 0))], s)
@[go_sem] theorem t43_1 : rc D b c43_1 ρ s = R43_1 b s (get ρ 0) := zr (by kernel_rfl)
@[go_sem] def R43_2 (_base : Nat) (s : St) (v0 v3 : V) : OR :=
 some (.normal, [(0, v0), (3, v3), (4, (.int .i64 0))], s)
@[go_sem] theorem t43_2 : rc D b c43_2 ρ s = R43_2 b s (get ρ 0) (get ρ 3) := zr (by kernel_rfl)
@[go_sem] def R43_3 (_base : Nat) (s : St) (v0 v3 v4 : V) : OR :=
 obind (nilv v0) fun x0 =>
 obind (fadv 21 1 1 x0) fun x1 =>
 obind (ldv s 1 x1) fun x2 =>
 obind (V.slen false x2) fun x3 =>
 obind (vbin .lss v4 (.int .i64 x3)) fun x4 =>
 some (.normal, [(0, v0), (3, v3), (4, v4), (11, x4)], s)
@[go_sem] theorem t43_3 : rc D b c43_3 ρ s = R43_3 b s (get ρ 0) (get ρ 3) (get ρ 4) := zr (by kernel_rfl)
@[go_sem] def R43_4 (_base : Nat) (s : St) (v0 v3 v4 : V) : OR :=
 obind (nilv v0) fun x0 =>
 obind (fadv 21 1 1 x0) fun x1 =>
 obind (ldv s 1 x1) fun x2 =>
 obind (sadv 10 x2 v4) fun x3 =>
 obind (ldv s 10 x3) fun x4 =>
 obind (vbin .eql x4 (.int .i64 0)) fun x5 =>
 some (.normal, [(0, v0), (3, v3), (4, v4), (21, x5)], s)
@[go_sem] theorem t43_4 : rc D b c43_4 ρ s = R43_4 b s (get ρ 0) (get ρ 3) (get ρ 4) := zr (by kernel_rfl)
@[go_sem] def R43_5 (_base : Nat) (s : St) (v0 v3 v4 : V) : OR :=
 obind (vbin .add v3 (.int .i64 1)) fun x0 =>
 some (.normal, [(0, v0), (3, x0), (4, v4)], s)
@[go_sem] theorem t43_5 : rc D b c43_5 ρ s = R43_5 b s (get ρ 0) (get ρ 3) (get ρ 4) := zr (by kernel_rfl)
@[go_sem] def R43_6 (_base : Nat) (s : St) (v0 v3 v4 : V) : OR :=
 obind (vbin .add v4 (.int .i64 1)) fun x0 =>
 some (.normal, [(0, v0), (3, v3), (4, x0)], s)
@[go_sem] theorem t43_6 : rc D b c43_6 ρ s = R43_6 b s (get ρ 0) (get ρ 3) (get ρ 4) := zr (by kernel_rfl)
@[go_sem] def R43_7 (_base : Nat) (s : St) (v3 : V) : OR :=
 some (.normal, [(2, v3)], s)
@[go_sem] theorem t43_7 : rc D b c43_7 ρ s = R43_7 b s (get ρ 3) := zr (by kernel_rfl)
@[go_sem] def R44_0 (_base : Nat) (s : St) (v0 : V) : OR :=
 some (.normal, [(0, v0)], s)
@[go_sem] theorem t44_0 : rc D b c44_0 ρ s = R44_0 b s (get ρ 0) := zr (by kernel_rfl)
@[go_sem] def R44_1 (_base : Nat) (s : St) (v0 : V) : OR :=
 some (.normal, [(0, v0), (3, (.int .i64 0))], s)
@[go_sem] theorem t44_1 : rc D b c44_1 ρ s = R44_1 b s (get ρ 0) := zr (by kernel_rfl)
@[go_sem] def R44_2 (_base : Nat) (s : St) (v0 v3 : V) : OR :=
 obind (nilv v0) fun x0 =>
 obind (fadv 80 2 78 x0) fun x1 =>
 obind (ldv s 78 x1) fun x2 =>
 some (.normal, [(3, v3), (9, x2), (10, (.int .i64 0))], s)
@[go_sem] theorem t44_2 : rc D b c44_2 ρ s = R44_2 b s (get ρ 0) (get ρ 3) := zr (by kernel_rfl)
@[go_sem] def R44_3 (_base : Nat) (s : St) (v3 v9 v10 : V) : OR :=
 obind (vbin .lss v10 (.int .i64 16)) fun x0 =>
 some (.normal, [(3, v3), (9, v9), (10, v10), (11, x0)], s)
@[go_sem] theorem t44_3 : rc D b c44_3 ρ s = R44_3 b s (get ρ 3) (get ρ 9) (get ρ 10) := zr (by kernel_rfl)
@[go_sem] def R44_4 (_base : Nat) (s : St) (v3 v9 v10 : V) : OR :=
 obind (idxv 78 16 v9 v10) fun x0 =>
 some (.normal, [(3, v3), (5, x0), (9, v9), (10, v10)], s)
@[go_sem] theorem t44_4 : rc D b c44_4 ρ s = R44_4 b s (get ρ 3) (get ρ 9) (get ρ 10) := zr (by kernel_rfl)
@[go_sem] def R44_5 (_base : Nat) (s : St) (v3 v5 v9 v10 : V) : OR :=
 obind (rf D f_math_bits_OnesCount64 [v5] s) fun x0 =>
 obind (vbin .add v3 x0.1) fun x1 =>
 some (.normal, [(3, x1), (9, v9), (10, v10)], x0.2)
@[go_sem] theorem t44_5 : rc D b c44_5 ρ s = R44_5 b s (get ρ 3) (get ρ 5) (get ρ 9) (get ρ 10) := zr (by kernel_rfl)
@[go_sem] def R44_6 (_base : Nat) (s : St) (v3 v9 v10 : V) : OR :=
 obind (vbin .add v10 (.int .i64 1)) fun x0 =>
 some (.normal, [(3, v3), (9, v9), (10, x0)], s)
@[go_sem] theorem t44_6 : rc D b c44_6 ρ s = R44_6 b s (get ρ 3) (get ρ 9) (get ρ 10) := zr (by kernel_rfl)
@[go_sem] def R44_7 (_base : Nat) (s : St) (v3 : V) : OR :=
 some (.normal, [(2, v3)], s)
@[go_sem] theorem t44_7 : rc D b c44_7 ρ s = R44_7 b s (get ρ 3) := zr (by kernel_rfl)
@[go_sem] def R45_0 (_base : Nat) (s : St) (v0 v1 : V) : OR :=
 some (.normal, [(0, v0), (1, v1)], s)
@[go_sem] theorem t45_0 : rc D b c45_0 ρ s = R45_0 b s (get ρ 0) (get ρ 1) := zr (by kernel_rfl)
@[go_sem] def R45_1 (_base : Nat) (s : St) (v0 v1 : V) : OR :=
 obind (vbin .lss v1 (.int .i64 0)) fun x0 =>
 some (.normal, [(0, v0), (1, v1), (5, x0)], s)
@[go_sem] theorem t45_1 : rc D b c45_1 ρ s = R45_1 b s (get ρ 0) (get ρ 1) := zr (by kernel_rfl)
@[go_sem] def R45_2 (_base : Nat) (s : St) (v0 v1 : V) : OR :=
 obind (vbin .geq v1 (.int .i64 49)) fun x0 =>
 some (.normal, [(0, v0), (1, v1), (5, x0)], s)
@[go_sem] theorem t45_2 : rc D b c45_2 ρ s = R45_2 b s (get ρ 0) (get ρ 1) := zr (by kernel_rfl)
@[go_sem] def R45_3 (_base : Nat) (s : St) : OR :=
 some (.normal, [(4, (.int .i64 1))], s)
@[go_sem] theorem t45_3 : rc D b c45_3 ρ s = R45_3 b s := zr (by kernel_rfl)
@[go_sem] def R45_4 (_base : Nat) (s : St) (v0 v1 : V) : OR :=
 obind (nilv v0) fun x0 =>
 obind (fadv 43 2 48 x0) fun x1 =>
 obind (iadv 48 49 42 x1 v1) fun x2 =>
 obind (fadv 42 0 10 x2) fun x3 =>
 obind (ldv s 10 x3) fun x4 =>
 obind (vbin .eql x4 (.int .i64 0)) fun x5 =>
 some (.normal, [(10, x5)], s)
@[go_sem] theorem t45_4 : rc D b c45_4 ρ s = R45_4 b s (get ρ 0) (get ρ 1) := zr (by kernel_rfl)
@[go_sem] def R45_5 (_base : Nat) (s : St) : OR :=
 some (.normal, [(4, (.int .i64 30))], s)
@[go_sem] theorem t45_5 : rc D b c45_5 ρ s = R45_5 b s := zr (by kernel_rfl)
@[go_sem] def R45_6 (_base : Nat) (s : St) : OR :=
 some (.normal, [(4, (.int .i64 0))], s)
@[go_sem] theorem t45_6 : rc D b c45_6 ρ s = R45_6 b s := zr (by kernel_rfl)
@[go_sem] def R46_0 (_base : Nat) (s : St) (v0 v1 : V) : OR :=
 some (.normal, [(0, v0), (1, v1)], s)
@[go_sem] theorem t46_0 : rc D b c46_0 ρ s = R46_0 b s (get ρ 0) (get ρ 1) := zr (by kernel_rfl)
@[go_sem] def R46_1 (_base : Nat) (s : St) (v0 v1 : V) : OR :=
 obind (nilv v0) fun x0 =>
 obind (fadv 43 2 48 x0) fun x1 =>
 obind (iadv 48 49 42 x1 v1) fun x2 =>
 obind (fadv 42 2 10 x2) fun x3 =>
 obind (ldv s 10 x3) fun x4 =>
 obind (nilv v0) fun x5 =>
 obind (fadv 43 7 82 x5) fun x6 =>
 obind (iadv 82 1024 0 x6 x4) fun x7 =>
 obind (ldv s 0 x7) fun x8 =>
 obind (vun .not x8) fun x9 =>
 some (.normal, [(4, x9)], s)
@[go_sem] theorem t46_1 : rc D b c46_1 ρ s = R46_1 b s (get ρ 0) (get ρ 1) := zd (by kernel_rfl)
@[go_sem] def R47_0 (_base : Nat) (s : St) (v0 v1 v2 v3 : V) : OR :=
 some (.normal, [(0, v0), (1, v1), (2, v2), (3, v3)], s)
@[go_sem] theorem t47_0 : rc D b c47_0 ρ s = R47_0 b s (get ρ 0) (get ρ 1) (get ρ 2) (get ρ 3) := zr (by kernel_rfl)
@[go_sem] def R47_1 (_base : Nat) (s : St) (v0 v1 v2 v3 : V) : OR :=
 obind (rf D f_nvm_Memory_at [v0, v1] s) fun x0 =>
 some (.normal, [(0, v0), (2, v2), (3, v3), (9, x0.1)], x0.2)
@[go_sem] theorem t47_1 : rc D b c47_1 ρ s = R47_1 b s (get ρ 0) (get ρ 1) (get ρ 2) (get ρ 3) := zr (by kernel_rfl)
@[go_sem] def R47_2 (_base : Nat) (s : St) (v0 v2 v3 v9 : V) : OR :=
 obind (eqv false 1 v9 .nilp) fun x0 =>
 oguard x0 false (
   obind (vbin .lss v2 (.int .i64 0)) fun x1 =>
   oguard x1 false (
     obind (vbin .geq v2 (.int .i64 8)) fun x2 =>
     some (.normal, [(0, v0), (2, v2), (3, v3), (9, v9), (23, x2)], s)) (
     some (.normal, [(0, v0), (2, v2), (3, v3), (9, v9), (23, (.bool true))], s)) (
     none)) (
   some (.normal, [(0, v0), (2, v2), (3, v3), (9, v9), (23, (.bool true))], s)) (
   none)
@[go_sem] theorem t47_2 : rc D b c47_2 ρ s = R47_2 b s (get ρ 0) (get ρ 2) (get ρ 3) (get ρ 9) := zr (by kernel_rfl)
@[go_sem] def R47_3 (_base : Nat) (s : St) : OR :=
 some (.normal, [(8, (.int .i64 1))], s)
@[go_sem] theorem t47_3 : rc D b c47_3 ρ s = R47_3 b s := zr (by kernel_rfl)
@[go_sem] def R47_4 (_base : Nat) (s : St) (v0 v2 v3 v9 : V) : OR :=
 obind (rf D f_nvm_Memory_step [v0] s) fun x0 =>
 some (.normal, [(2, v2), (3, v3), (9, v9), (10, x0.1)], x0.2)
@[go_sem] theorem t47_4 : rc D b c47_4 ρ s = R47_4 b s (get ρ 0) (get ρ 2) (get ρ 3) (get ρ 9) := zr (by kernel_rfl)
@[go_sem] def R47_5 (_base : Nat) (s : St) (v2 v3 v9 v10 : V) : OR :=
 obind (vbin .neq v10 (.int .i64 0)) fun x0 =>
 some (.normal, [(2, v2), (3, v3), (9, v9), (10, v10), (27, x0)], s)
@[go_sem] theorem t47_5 : rc D b c47_5 ρ s = R47_5 b s (get ρ 2) (get ρ 3) (get ρ 9) (get ρ 10) := zr (by kernel_rfl)
@[go_sem] def R47_6 (_base : Nat) (s : St) (v10 : V) : OR :=
 some (.normal, [(8, v10)], s)
@[go_sem] theorem t47_6 : rc D b c47_6 ρ s = R47_6 b s (get ρ 10) := zr (by kernel_rfl)
@[go_sem] def R47_7 (base : Nat) (s : St) (v2 v3 v9 : V) : OR :=
 obind (nilv v9) fun x0 =>
 obind (fadv 55 0 24 x0) fun x1 =>
 obind (iadv 24 8 18 x1 v2) fun x2 =>
 obind (stv base s 18 v3 x2) fun s3 =>
 some (.normal, [(2, v2), (3, v3), (9, v9)], s3)
@[go_sem] theorem t47_7 : rc D b c47_7 ρ s = R47_7 b s (get ρ 2) (get ρ 3) (get ρ 9) := zr (by kernel_rfl)
@[go_sem] def R47_8 (base : Nat) (s : St) (v2 v3 v9 : V) : OR :=
 obind (nilv v9) fun x0 =>
 obind (fadv 55 2 1 x0) fun x1 =>
 obind (ldv s 1 x1) fun x2 =>
 obind (setParts [(.int .i64 0), (.int .u64 0)] [(0, v2), (1, v3)]) fun x3 =>
 obind (bslv false 86 84 1 (.agg 84 [(.int .i64 0), (.int .u64 0)]) s [(0, (.agg 84 x3))]) fun x4 =>
 obind (vappend base true 86 84 x2 x4.1 x4.2) fun x5 =>
 obind (nilv v9) fun x6 =>
 obind (fadv 55 2 1 x6) fun x7 =>
 obind (stv base x5.2 1 x5.1 x7) fun s8 =>
 some (.normal, [], s8)
@[go_sem] theorem t47_8 : rc D b c47_8 ρ s = R47_8 b s (get ρ 2) (get ρ 3) (get ρ 9) := zr (by kernel_rfl)
@[go_sem] def R47_9 (_base : Nat) (s : St) : OR :=
 some (.normal, [(8, (.int .i64 0))], s)
@[go_sem] theorem t47_9 : rc D b c47_9 ρ s = R47_9 b s := zr (by kernel_rfl)
@[go_sem] def R48_0 (_base : Nat) (s : St) (v0 v1 : V) : OR :=
 if V.ok v1 && mayNew false v1 then let x0 : V := .ptr (St.fresh s false) [] (V.tag v1); let s0 : St := St.new s false v1
 some (.normal, [(0, v0), (3, x0)], s0)
 else none
@[go_sem] theorem t48_0 : rc D b c48_0 ρ s = R48_0 b s (get ρ 0) (get ρ 1) := zr (by kernel_rfl)
@[go_sem] def R48_1 (_base : Nat) (s : St) (v0 v3 : V) : OR :=
 obind (nilv v0) fun x0 =>
 obind (fadv 43 1 1 x0) fun x1 =>
 obind (ldv s 1 x1) fun x2 =>
 obind (rf D f_frames_Frames_Alloc [x2] s) fun x3 =>
 obind (extv 0 x3.1) fun x4 =>
 obind (extv 1 x3.1) fun x5 =>
 some (.normal, [(0, v0), (3, v3), (6, x4), (7, x5)], x3.2)
@[go_sem] theorem t48_1 : rc D b c48_1 ρ s = R48_1 b s (get ρ 0) (get ρ 3) := zr (by kernel_rfl)
@[go_sem] def R48_2 (_base : Nat) (s : St) (v0 v3 v6 v7 : V) : OR :=
 obind (vbin .neq v7 (.int .i64 0)) fun x0 =>
 some (.normal, [(0, v0), (3, v3), (6, v6), (7, v7), (20, x0)], s)
@[go_sem] theorem t48_2 : rc D b c48_2 ρ s = R48_2 b s (get ρ 0) (get ρ 3) (get ρ 6) (get ρ 7) := zr (by kernel_rfl)
@[go_sem] def R48_3 (_base : Nat) (s : St) (v7 : V) : OR :=
 some (.normal, [(4, (.int .i64 0)), (5, v7)], s)
@[go_sem] theorem t48_3 : rc D b c48_3 ρ s = R48_3 b s (get ρ 7) := zr (by kernel_rfl)
@[go_sem] def R48_4 (_base : Nat) (s : St) (v0 v3 v6 : V) : OR :=
 obind (ldv s 24 v3) fun x0 =>
 some (.normal, [(0, v0), (6, v6), (22, x0), (23, (.int .i64 0))], s)
@[go_sem] theorem t48_4 : rc D b c48_4 ρ s = R48_4 b s (get ρ 0) (get ρ 3) (get ρ 6) := zr (by kernel_rfl)
@[go_sem] def R48_5 (_base : Nat) (s : St) (v0 v6 v22 v23 : V) : OR :=
 obind (vbin .lss v23 (.int .i64 8)) fun x0 =>
 some (.normal, [(0, v0), (6, v6), (22, v22), (23, v23), (24, x0)], s)
@[go_sem] theorem t48_5 : rc D b c48_5 ρ s = R48_5 b s (get ρ 0) (get ρ 6) (get ρ 22) (get ρ 23) := zr (by kernel_rfl)
@[go_sem] def R48_6 (_base : Nat) (s : St) (v0 v6 v22 v23 : V) : OR :=
 obind (idxv 24 8 v22 v23) fun x0 =>
 some (.normal, [(0, v0), (6, v6), (8, v23), (9, x0), (22, v22), (23, v23)], s)
@[go_sem] theorem t48_6 : rc D b c48_6 ρ s = R48_6 b s (get ρ 0) (get ρ 6) (get ρ 22) (get ρ 23) := zr (by kernel_rfl)
@[go_sem] def R48_7 (_base : Nat) (s : St) (v0 v6 v8 v9 v22 v23 : V) : OR :=
 obind (nilv v0) fun x0 =>
 obind (fadv 43 0 1 x0) fun x1 =>
 obind (ldv s 1 x1) fun x2 =>
 obind (rf D f_nvm_Memory_Store [x2, v6, v8, v9] s) fun x3 =>
 some (.normal, [(0, v0), (6, v6), (10, x3.1), (22, v22), (23, v23)], x3.2)
@[go_sem] theorem t48_7 : rc D b c48_7 ρ s = R48_7 b s (get ρ 0) (get ρ 6) (get ρ 8) (get ρ 9) (get ρ 22) (get ρ 23) := zr (by kernel_rfl)
@[go_sem] def R48_8 (_base : Nat) (s : St) (v0 v6 v10 v22 v23 : V) : OR :=
 obind (vbin .neq v10 (.int .i64 0)) fun x0 =>
 some (.normal, [(0, v0), (6, v6), (10, v10), (22, v22), (23, v23), (36, x0)], s)
@[go_sem] theorem t48_8 : rc D b c48_8 ρ s = R48_8 b s (get ρ 0) (get ρ 6) (get ρ 10) (get ρ 22) (get ρ 23) := zr (by kernel_rfl)
@[go_sem] def R48_9 (_base : Nat) (s : St) (v10 : V) : OR :=
 some (.normal, [(4, (.int .i64 0)), (5, v10)], s)
@[go_sem] theorem t48_9 : rc D b c48_9 ρ s = R48_9 b s (get ρ 10) := zr (by kernel_rfl)
@[go_sem] def R48_10 (_base : Nat) (s : St) (v0 v6 v22 v23 : V) : OR :=
 obind (vbin .add v23 (.int .i64 1)) fun x0 =>
 some (.normal, [(0, v0), (6, v6), (22, v22), (23, x0)], s)
@[go_sem] theorem t48_10 : rc D b c48_10 ρ s = R48_10 b s (get ρ 0) (get ρ 6) (get ρ 22) (get ρ 23) := zr (by kernel_rfl)
@[go_sem] def R48_11 (_base : Nat) (s : St) (v6 : V) : OR :=
 some (.normal, [(4, v6), (5, (.int .i64 0))], s)
@[go_sem] theorem t48_11 : rc D b c48_11 ρ s = R48_11 b s (get ρ 6) := zr (by kernel_rfl)
@[go_sem] def R49_0 (_base : Nat) (s : St) (v0 : V) : OR :=
 some (.normal, [(0, v0)], s)
@[go_sem] theorem t49_0 : rc D b c49_0 ρ s = R49_0 b s (get ρ 0) := zr (by kernel_rfl)
@[go_sem] def R49_1 (_base : Nat) (s : St) (v0 : V) : OR :=
 obind (nilv v0) fun x0 =>
 obind (fadv 80 2 78 x0) fun x1 =>
 obind (ldv s 78 x1) fun x2 =>
 some (.normal, [(0, v0), (10, x2), (11, (.int .i64 0))], s)
@[go_sem] theorem t49_1 : rc D b c49_1 ρ s = R49_1 b s (get ρ 0) := zr (by kernel_rfl)
@[go_sem] def R49_2 (_base : Nat) (s : St) (v0 v10 v11 : V) : OR :=
 obind (vbin .lss v11 (.int .i64 16)) fun x0 =>
 some (.normal, [(0, v0), (10, v10), (11, v11), (12, x0)], s)
@[go_sem] theorem t49_2 : rc D b c49_2 ρ s = R49_2 b s (get ρ 0) (get ρ 10) (get ρ 11) := zr (by kernel_rfl)
@[go_sem] def R49_3 (_base : Nat) (s : St) (v0 v10 v11 : V) : OR :=
 obind (idxv 78 16 v10 v11) fun x0 =>
 some (.normal, [(0, v0), (4, v11), (5, x0), (10, v10), (11, v11)], s)
@[go_sem] theorem t49_3 : rc D b c49_3 ρ s = R49_3 b s (get ρ 0) (get ρ 10) (get ρ 11) := zr (by kernel_rfl)
@[go_sem] def R49_4 (_base : Nat) (s : St) (v0 v4 v5 v10 v11 : V) : OR :=
 obind (vbin .neq v5 (.int .u64 0)) fun x0 =>
 some (.normal, [(0, v0), (4, v4), (5, v5), (10, v10), (11, v11), (16, x0)], s)
@[go_sem] theorem t49_4 : rc D b c49_4 ρ s = R49_4 b s (get ρ 0) (get ρ 4) (get ρ 5) (get ρ 10) (get ρ 11) := zr (by kernel_rfl)
@[go_sem] def R49_5 (_base : Nat) (s : St) (v0 v4 v5 : V) : OR :=
 obind (vbin .mul (.int .i64 64) v4) fun x0 =>
 obind (rf D f_math_bits_TrailingZeros64 [v5] s) fun x1 =>
 obind (vbin .add x0 x1.1) fun x2 =>
 some (.normal, [(0, v0), (6, x2)], x1.2)
@[go_sem] theorem t49_5 : rc D b c49_5 ρ s = R49_5 b s (get ρ 0) (get ρ 4) (get ρ 5) := zr (by kernel_rfl)
@[go_sem] def R49_6 (_base : Nat) (s : St) (v0 v6 : V) : OR :=
 obind (nilv v0) fun x0 =>
 obind (fadv 80 2 78 x0) fun x1 =>
 obind (rf D f_frames_set_turn [x1, v6] s) fun x2 =>
 some (.normal, [(6, v6)], x2.2)
@[go_sem] theorem t49_6 : rc D b c49_6 ρ s = R49_6 b s (get ρ 0) (get ρ 6) := zr (by kernel_rfl)
@[go_sem] def R49_7 (_base : Nat) (s : St) (v6 : V) : OR :=
 some (.normal, [(2, v6), (3, (.int .i64 0))], s)
@[go_sem] theorem t49_7 : rc D b c49_7 ρ s = R49_7 b s (get ρ 6) := zr (by kernel_rfl)
@[go_sem] def R49_8 (_base : Nat) (s : St) (v0 v10 v11 : V) : OR :=
 obind (vbin .add v11 (.int .i64 1)) fun x0 =>
 some (.normal, [(0, v0), (10, v10), (11, x0)], s)
@[go_sem] theorem t49_8 : rc D b c49_8 ρ s = R49_8 b s (get ρ 0) (get ρ 10) (get ρ 11) := zr (by kernel_rfl)
@[go_sem] def R49_9 (_base : Nat) (s : St) : OR :=
 some (.normal, [(2, (.int .i64 0)), (3, (.int .i64 10))], s)
@[go_sem] theorem t49_9 : rc D b c49_9 ρ s = R49_9 b s := zr (by kernel_rfl)
@[go_sem] def R50_0 (_base : Nat) (s : St) (v0 v1 : V) : OR :=
 some (.normal, [(0, v0), (1, v1)], s)
@[go_sem] theorem t50_0 : rc D b c50_0 ρ s = R50_0 b s (get ρ 0) (get ρ 1) := zr (by kernel_rfl)
@[go_sem] def R50_1 (_base : Nat) (s : St) (v0 v1 : V) : OR :=
 obind (rf D f_frames_Frames_in [v0, v1, (.int .i64 1)] s) fun x0 =>
 some (.normal, [(0, v0), (1, v1), (5, x0.1)], x0.2)
@[go_sem] theorem t50_1 : rc D b c50_1 ρ s = R50_1 b s (get ρ 0) (get ρ 1) := zr (by kernel_rfl)
@[go_sem] def R50_2 (_base : Nat) (s : St) (v0 v1 v5 : V) : OR :=
 obind (vbin .eql v5 (.int .i64 0)) fun x0 =>
 some (.normal, [(0, v0), (1, v1), (5, v5), (10, x0)], s)
@[go_sem] theorem t50_2 : rc D b c50_2 ρ s = R50_2 b s (get ρ 0) (get ρ 1) (get ρ 5) := zr (by kernel_rfl)
@[go_sem] def R50_3 (_base : Nat) (s : St) (v0 v1 v5 : V) : OR :=
 obind (nilv v0) fun x0 =>
 obind (fadv 80 2 78 x0) fun x1 =>
 obind (rf D f_frames_set_turn [x1, v1] s) fun x2 =>
 some (.normal, [(5, v5)], x2.2)
@[go_sem] theorem t50_3 : rc D b c50_3 ρ s = R50_3 b s (get ρ 0) (get ρ 1) (get ρ 5) := zr (by kernel_rfl)
@[go_sem] def R50_4 (_base : Nat) (s : St) (v5 : V) : OR :=
 some (.normal, [(4, v5)], s)
@[go_sem] theorem t50_4 : rc D b c50_4 ρ s = R50_4 b s (get ρ 5) := zr (by kernel_rfl)
@[go_sem] def R51_0 (_base : Nat) (s : St) (v0 : V) : OR :=
 if V.ok v0 && mayNew false v0 then let x0 : V := .ptr (St.fresh s false) [] (V.tag v0); let s0 : St := St.new s false v0
 let x1 : V := .ptr (St.fresh s0 false) [] 42; let s1 : St := St.new s0 false (.agg 42 [(.int .i64 0), (.int .i64 0), (.int .i64 0)])
 some (.normal, [(1, x0), (2, x1)], s1)
 else none
@[go_sem] theorem t51_0 : rc D b c51_0 ρ s = R51_0 b s (get ρ 0) := zr (by kernel_rfl)
@[go_sem] def R51_1 (_base : Nat) (s : St) (v1 v2 : V) : OR :=
 obind (fadv 42 0 10 v1) fun x0 =>
 obind (ldv s 10 x0) fun x1 =>
 obind (vbin .eql x1 (.int .i64 0)) fun x2 =>
 some (.normal, [(1, v1), (2, v2), (6, x2)], s)
@[go_sem] theorem t51_1 : rc D b c51_1 ρ s = R51_1 b s (get ρ 1) (get ρ 2) := zr (by kernel_rfl)
@[go_sem] def R51_2 (base : Nat) (s : St) (v2 : V) : OR :=
 obind (setParts [(.int .i64 0), (.int .i64 0), (.int .i64 0)] []) fun x0 =>
 obind (stv base s 42 (.agg 42 x0) v2) fun s1 =>
 some (.normal, [(2, v2), (3, (.int .i64 30))], s1)
@[go_sem] theorem t51_2 : rc D b c51_2 ρ s = R51_2 b s (get ρ 2) := zr (by kernel_rfl)
@[go_sem] def R51_3 (base : Nat) (s : St) (v1 v2 : V) : OR :=
 obind (fadv 42 1 10 v1) fun x0 =>
 obind (ldv s 10 x0) fun x1 =>
 obind (fadv 42 1 10 v1) fun x2 =>
 obind (ldv s 10 x2) fun x3 =>
 obind (vbin .sub (.int .i64 16777215) x3) fun x4 =>
 obind (vmnx false (.int .i64 1) x4) fun x5 =>
 obind (vbin .add x1 x5) fun x6 =>
 obind (setParts [(.int .i64 0), (.int .i64 0), (.int .i64 0)] [(1, x6)]) fun x7 =>
 obind (stv base s 42 (.agg 42 x7) v2) fun s8 =>
 some (.normal, [(2, v2), (3, (.int .i64 0))], s8)
@[go_sem] theorem t51_3 : rc D b c51_3 ρ s = R51_3 b s (get ρ 1) (get ρ 2) := zr (by kernel_rfl)
@[go_sem] def R52_0 (_base : Nat) (s : St) (v0 v1 : V) : OR :=
 some (.normal, [(0, v0), (1, v1)], s)
@[go_sem] theorem t52_0 : rc D b c52_0 ρ s = R52_0 b s (get ρ 0) (get ρ 1) := zr (by kernel_rfl)
@[go_sem] def R52_1 (_base : Nat) (s : St) (v0 v1 : V) : OR :=
 obind (vbin .lss v1 (.int .i64 0)) fun x0 =>
 oguard x0 false (
   obind (nilv v0) fun x1 =>
   obind (fadv 59 0 1 x1) fun x2 =>
   obind (ldv s 1 x2) fun x3 =>
   obind (V.slen false x3) fun x4 =>
   obind (vbin .geq v1 (.int .i64 x4)) fun x5 =>
   some (.normal, [(0, v0), (1, v1), (15, x5)], s)) (
   some (.normal, [(0, v0), (1, v1), (15, (.bool true))], s)) (
   none)
@[go_sem] theorem t52_1 : rc D b c52_1 ρ s = R52_1 b s (get ρ 0) (get ρ 1) := zr (by kernel_rfl)
@[go_sem] def R52_2 (_base : Nat) (s : St) : OR :=
 some (.normal, [(4, .nilp)], s)
@[go_sem] theorem t52_2 : rc D b c52_2 ρ s = R52_2 b s := zr (by kernel_rfl)
@[go_sem] def R52_3 (_base : Nat) (s : St) (v0 v1 : V) : OR :=
 obind (nilv v0) fun x0 =>
 obind (fadv 59 0 1 x0) fun x1 =>
 obind (ldv s 1 x1) fun x2 =>
 obind (sadv 55 x2 v1) fun x3 =>
 some (.normal, [(4, x3)], s)
@[go_sem] theorem t52_3 : rc D b c52_3 ρ s = R52_3 b s (get ρ 0) (get ρ 1) := zr (by kernel_rfl)
@[go_sem] def R53_0 (_base : Nat) (s : St) (v0 : V) : OR :=
 let x0 : V := .ptr (St.fresh s false) [] 40; let s0 : St := St.new s false (.agg 40 [(.int .i64 0), (.int .i64 0), (.int .i64 0), (.int .i64 0), (.int .i64 0)])
 some (.normal, [(0, v0), (2, x0)], s0)
@[go_sem] theorem t53_0 : rc D b c53_0 ρ s = R53_0 b s (get ρ 0) := zr (by kernel_rfl)
@[go_sem] def R53_1 (base : Nat) (s : St) (v0 v2 : V) : OR :=
 obind (vbin .and v0 (.int .u64 15)) fun x0 =>
 obind (convv .i64 x0) fun x1 =>
 obind (vbin .shr v0 (.int .u64 4)) fun x2 =>
 obind (vbin .and x2 (.int .u64 15)) fun x3 =>
 obind (convv .i64 x3) fun x4 =>
 obind (vbin .shr v0 (.int .u64 8)) fun x5 =>
 obind (vbin .and x5 (.int .u64 65535)) fun x6 =>
 obind (convv .i64 x6) fun x7 =>
 obind (vbin .shr v0 (.int .u64 24)) fun x8 =>
 obind (vbin .and x8 (.int .u64 16777215)) fun x9 =>
 obind (convv .i64 x9) fun x10 =>
 obind (vbin .shr v0 (.int .u64 48)) fun x11 =>
 obind (convv .i64 x11) fun x12 =>
 obind (setParts [(.int .i64 0), (.int .i64 0), (.int .i64 0), (.int .i64 0), (.int .i64 0)] [(0, x1), (1, x4), (2, x7), (3, x10), (4, x12)]) fun x13 =>
 let x14 : V := .ptr (St.fresh s false) [] 40; let s14 : St := St.new s false (.agg 40 [(.int .i64 0), (.int .i64 0), (.int .i64 0), (.int .i64 0), (.int .i64 0)])
 obind (stv base s14 40 (.agg 40 x13) x14) fun s15 =>
 some (.normal, [(2, v2), (4, x14)], s15)
@[go_sem] theorem t53_1 : rc D b c53_1 ρ s = R53_1 b s (get ρ 0) (get ρ 2) := zr (by kernel_rfl)
@[go_sem] def R53_2 (_base : Nat) (s : St) (v2 v4 : V) : OR :=
 obind (ldv s 40 v4) fun x0 =>
 obind (rf D f_caps_may [x0] s) fun x1 =>
 obind (vun .not x1.1) fun x2 =>
 some (.normal, [(2, v2), (4, v4), (26, x2)], x1.2)
@[go_sem] theorem t53_2 : rc D b c53_2 ρ s = R53_2 b s (get ρ 2) (get ρ 4) := zr (by kernel_rfl)
@[go_sem] def R53_3 (base : Nat) (s : St) (v2 : V) : OR :=
 obind (setParts [(.int .i64 0), (.int .i64 0), (.int .i64 0), (.int .i64 0), (.int .i64 0)] []) fun x0 =>
 obind (stv base s 40 (.agg 40 x0) v2) fun s1 =>
 some (.normal, [(2, v2), (3, (.bool false))], s1)
@[go_sem] theorem t53_3 : rc D b c53_3 ρ s = R53_3 b s (get ρ 2) := zr (by kernel_rfl)
@[go_sem] def R53_4 (base : Nat) (s : St) (v2 v4 : V) : OR :=
 obind (ldv s 40 v4) fun x0 =>
 obind (stv base s 40 x0 v2) fun s1 =>
 some (.normal, [(2, v2), (3, (.bool true))], s1)
@[go_sem] theorem t53_4 : rc D b c53_4 ρ s = R53_4 b s (get ρ 2) (get ρ 4) := zr (by kernel_rfl)
@[go_sem] def R54_0 (_base : Nat) (s : St) (v0 v1 v2 : V) : OR :=
 if V.ok v0 && mayNew false v0 then let x0 : V := .ptr (St.fresh s false) [] (V.tag v0); let s0 : St := St.new s false v0
 some (.normal, [(1, v1), (2, v2), (3, x0)], s0)
 else none
@[go_sem] theorem t54_0 : rc D b c54_0 ρ s = R54_0 b s (get ρ 0) (get ρ 1) (get ρ 2) := zr (by kernel_rfl)
@[go_sem] def R54_1 (base : Nat) (s : St) (v1 v2 v3 : V) : OR :=
 obind (rf D f_caps_Of [v2] s) fun x0 =>
 obind (extv 0 x0.1) fun x1 =>
 obind (extv 1 x0.1) fun x2 =>
 let x3 : V := .ptr (St.fresh x0.2 false) [] 40; let s3 : St := St.new x0.2 false (.agg 40 [(.int .i64 0), (.int .i64 0), (.int .i64 0), (.int .i64 0), (.int .i64 0)])
 obind (stv base s3 40 x1 x3) fun s4 =>
 some (.normal, [(1, v1), (3, v3), (7, x3), (8, x2)], s4)
@[go_sem] theorem t54_1 : rc D b c54_1 ρ s = R54_1 b s (get ρ 1) (get ρ 2) (get ρ 3) := zr (by kernel_rfl)
@[go_sem] def R54_2 (_base : Nat) (s : St) (v1 v3 v7 v8 : V) : OR :=
 obind (vun .not v8) fun x0 =>
 some (.normal, [(1, v1), (3, v3), (7, v7), (14, x0)], s)
@[go_sem] theorem t54_2 : rc D b c54_2 ρ s = R54_2 b s (get ρ 1) (get ρ 3) (get ρ 7) (get ρ 8) := zr (by kernel_rfl)
@[go_sem] def R54_3 (_base : Nat) (s : St) (v1 v3 v7 : V) : OR :=
 obind (fadv 40 0 10 v7) fun x0 =>
 obind (ldv s 10 x0) fun x1 =>
 obind (vbin .gtr x1 (.int .i64 4)) fun x2 =>
 some (.normal, [(1, v1), (3, v3), (7, v7), (14, x2)], s)
@[go_sem] theorem t54_3 : rc D b c54_3 ρ s = R54_3 b s (get ρ 1) (get ρ 3) (get ρ 7) := zr (by kernel_rfl)
@[go_sem] def R54_4 (_base : Nat) (s : St) : OR :=
 some (.normal, [(6, (.int .i64 31))], s)
@[go_sem] theorem t54_4 : rc D b c54_4 ρ s = R54_4 b s := zr (by kernel_rfl)
@[go_sem] def R54_5 (_base : Nat) (s : St) (v1 v3 v7 : V) : OR :=
 obind (fadv 40 2 10 v7) fun x0 =>
 obind (ldv s 10 x0) fun x1 =>
 obind (vbin .neq x1 v1) fun x2 =>
 some (.normal, [(3, v3), (7, v7), (20, x2)], s)
@[go_sem] theorem t54_5 : rc D b c54_5 ρ s = R54_5 b s (get ρ 1) (get ρ 3) (get ρ 7) := zr (by kernel_rfl)
@[go_sem] def R54_6 (_base : Nat) (s : St) : OR :=
 some (.normal, [(6, (.int .i64 30))], s)
@[go_sem] theorem t54_6 : rc D b c54_6 ρ s = R54_6 b s := zr (by kernel_rfl)
@[go_sem] def R54_7 (_base : Nat) (s : St) (v3 v7 : V) : OR :=
 obind (fadv 40 3 10 v7) fun x0 =>
 obind (ldv s 10 x0) fun x1 =>
 obind (fadv 42 1 10 v3) fun x2 =>
 obind (ldv s 10 x2) fun x3 =>
 obind (vbin .neq x1 x3) fun x4 =>
 some (.normal, [(3, v3), (7, v7), (25, x4)], s)
@[go_sem] theorem t54_7 : rc D b c54_7 ρ s = R54_7 b s (get ρ 3) (get ρ 7) := zr (by kernel_rfl)
@[go_sem] def R54_8 (_base : Nat) (s : St) : OR :=
 some (.normal, [(6, (.int .i64 33))], s)
@[go_sem] theorem t54_8 : rc D b c54_8 ρ s = R54_8 b s := zr (by kernel_rfl)
@[go_sem] def R54_9 (_base : Nat) (s : St) (v3 v7 : V) : OR :=
 obind (fadv 42 0 10 v3) fun x0 =>
 obind (ldv s 10 x0) fun x1 =>
 obind (vbin .eql x1 (.int .i64 0)) fun x2 =>
 some (.normal, [(3, v3), (7, v7), (31, x2)], s)
@[go_sem] theorem t54_9 : rc D b c54_9 ρ s = R54_9 b s (get ρ 3) (get ρ 7) := zr (by kernel_rfl)
@[go_sem] def R54_10 (_base : Nat) (s : St) : OR :=
 some (.normal, [(6, (.int .i64 30))], s)
@[go_sem] theorem t54_10 : rc D b c54_10 ρ s = R54_10 b s := zr (by kernel_rfl)
@[go_sem] def R54_11 (_base : Nat) (s : St) (v3 v7 : V) : OR :=
 obind (fadv 40 0 10 v7) fun x0 =>
 obind (ldv s 10 x0) fun x1 =>
 obind (fadv 42 0 10 v3) fun x2 =>
 obind (ldv s 10 x2) fun x3 =>
 obind (vbin .neq x1 x3) fun x4 =>
 some (.normal, [(35, x4)], s)
@[go_sem] theorem t54_11 : rc D b c54_11 ρ s = R54_11 b s (get ρ 3) (get ρ 7) := zr (by kernel_rfl)
@[go_sem] def R54_12 (_base : Nat) (s : St) : OR :=
 some (.normal, [(6, (.int .i64 31))], s)
@[go_sem] theorem t54_12 : rc D b c54_12 ρ s = R54_12 b s := zr (by kernel_rfl)
@[go_sem] def R54_13 (_base : Nat) (s : St) : OR :=
 some (.normal, [(6, (.int .i64 0))], s)
@[go_sem] theorem t54_13 : rc D b c54_13 ρ s = R54_13 b s := zr (by kernel_rfl)
@[go_sem] def R55_0 (_base : Nat) (s : St) (v0 : V) : OR :=
 if V.ok v0 && mayNew false v0 then let x0 : V := .ptr (St.fresh s false) [] (V.tag v0); let s0 : St := St.new s false v0
 some (.normal, [(1, x0)], s0)
 else none
@[go_sem] theorem t55_0 : rc D b c55_0 ρ s = R55_0 b s (get ρ 0) := zr (by kernel_rfl)
@[go_sem] def R55_1 (_base : Nat) (s : St) (v1 : V) : OR :=
 obind (fadv 40 0 10 v1) fun x0 =>
 obind (ldv s 10 x0) fun x1 =>
 obind (vbin .eql x1 (.int .i64 5)) fun x2 =>
 oguard x2 false (
   obind (fadv 40 0 10 v1) fun x3 =>
   obind (ldv s 10 x3) fun x4 =>
   obind (vbin .eql x4 (.int .i64 6)) fun x5 =>
   some (.normal, [(1, v1), (3, x5)], s)) (
   some (.normal, [(1, v1), (3, (.bool true))], s)) (
   none)
@[go_sem] theorem t55_1 : rc D b c55_1 ρ s = R55_1 b s (get ρ 1) := zr (by kernel_rfl)
@[go_sem] def R55_2 (_base : Nat) (s : St) (v1 v3 : V) : OR :=
 obind (fadv 40 0 10 v1) fun x0 =>
 obind (ldv s 10 x0) fun x1 =>
 obind (rf D f_caps_within [x1, (.int .i64 1), (.int .i64 6)] s) fun x2 =>
 oguard x2.1 true (
   obind (fadv 40 1 10 v1) fun x3 =>
   obind (ldv x2.2 10 x3) fun x4 =>
   obind (rf D f_caps_within [x4, (.int .i64 0), (.int .i64 15)] x2.2) fun x5 =>
   oguard x5.1 true (
     obind (fadv 40 2 10 v1) fun x6 =>
     obind (ldv x5.2 10 x6) fun x7 =>
     obind (rf D f_caps_within [x7, (.int .i64 0), (.int .i64 48)] x5.2) fun x8 =>
     oguard x8.1 true (
       obind (fadv 40 3 10 v1) fun x9 =>
       obind (ldv x8.2 10 x9) fun x10 =>
       obind (rf D f_caps_within [x10, (.int .i64 0), (.int .i64 16777215)] x8.2) fun x11 =>
       oguard x11.1 true (
         obind (fadv 40 4 10 v1) fun x12 =>
         obind (ldv x11.2 10 x12) fun x13 =>
         obind (rf D f_caps_within [x13, (.int .i64 0), (.int .i64 65535)] x11.2) fun x14 =>
         oguard x14.1 true (
           obind (vun .not v3) fun x15 =>
           oguard x15 false (
             obind (fadv 40 2 10 v1) fun x16 =>
             obind (ldv x14.2 10 x16) fun x17 =>
             obind (vbin .eql x17 (.int .i64 0)) fun x18 =>
             oguard x18 true (
               obind (fadv 40 3 10 v1) fun x19 =>
               obind (ldv x14.2 10 x19) fun x20 =>
               obind (vbin .eql x20 (.int .i64 0)) fun x21 =>
               some (.normal, [(2, x21)], x14.2)) (
               some (.normal, [(2, (.bool false))], x14.2)) (
               none)) (
             some (.normal, [(2, (.bool true))], x14.2)) (
             none)) (
           some (.normal, [(2, (.bool false))], x14.2)) (
           none)) (
         some (.normal, [(2, (.bool false))], x11.2)) (
         none)) (
       some (.normal, [(2, (.bool false))], x8.2)) (
       none)) (
     some (.normal, [(2, (.bool false))], x5.2)) (
     none)) (
   some (.normal, [(2, (.bool false))], x2.2)) (
   none)
@[go_sem] theorem t55_2 : rc D b c55_2 ρ s = R55_2 b s (get ρ 1) (get ρ 3) := zr (by kernel_rfl)
@[go_sem] def R56_0 (base : Nat) (s : St) (v0 : V) : OR :=
 obind (nilv v0) fun x0 =>
 obind (fadv 43 6 0 x0) fun x1 =>
 obind (stv base s 0 (.bool false) x1) fun s2 =>
 some (.normal, [(0, v0)], s2)
@[go_sem] theorem t56_0 : rc D b c56_0 ρ s = R56_0 b s (get ρ 0) := zr (by kernel_rfl)
@[go_sem] def R56_1 (_base : Nat) (s : St) (v0 : V) : OR :=
 obind (rf D f_objects_Store_share [v0] s) fun x0 =>
 some (.normal, [(0, v0)], x0.2)
@[go_sem] theorem t56_1 : rc D b c56_1 ρ s = R56_1 b s (get ρ 0) := zr (by kernel_rfl)
@[go_sem] def R56_2 (base : Nat) (s : St) (v0 : V) : OR :=
 obind (nilv v0) fun x0 =>
 obind (fadv 43 7 82 x0) fun x1 =>
 obind (ldv s 82 x1) fun x2 =>
 let x3 : V := .ptr (St.fresh s false) [] 82; let s3 : St := St.new s false (.agg 82 (List.replicate 1024 (.bool false)))
 obind (stv base s3 82 x2 x3) fun s4 =>
 some (.normal, [(0, v0), (2, x3)], s4)
@[go_sem] theorem t56_2 : rc D b c56_2 ρ s = R56_2 b s (get ρ 0) := zr (by kernel_rfl)
@[go_sem] def R56_3 (_base : Nat) (s : St) (v0 v2 : V) : OR :=
 obind (nilv v0) fun x0 =>
 obind (fadv 43 2 48 x0) fun x1 =>
 obind (ldv s 48 x1) fun x2 =>
 obind (rf D f_objects_lines_add [v2, x2] s) fun x3 =>
 some (.normal, [(0, v0), (2, v2)], x3.2)
@[go_sem] theorem t56_3 : rc D b c56_3 ρ s = R56_3 b s (get ρ 0) (get ρ 2) := zr (by kernel_rfl)
@[go_sem] def R56_4 (_base : Nat) (s : St) (v0 v2 : V) : OR :=
 obind (nilv v0) fun x0 =>
 obind (fadv 43 4 50 x0) fun x1 =>
 obind (ldv s 50 x1) fun x2 =>
 some (.normal, [(0, v0), (2, v2), (23, x2), (24, (.int .i64 0))], s)
@[go_sem] theorem t56_4 : rc D b c56_4 ρ s = R56_4 b s (get ρ 0) (get ρ 2) := zr (by kernel_rfl)
@[go_sem] def R56_5 (_base : Nat) (s : St) (v0 v2 v23 v24 : V) : OR :=
 obind (vbin .lss v24 (.int .i64 8)) fun x0 =>
 some (.normal, [(0, v0), (2, v2), (23, v23), (24, v24), (25, x0)], s)
@[go_sem] theorem t56_5 : rc D b c56_5 ρ s = R56_5 b s (get ρ 0) (get ρ 2) (get ρ 23) (get ρ 24) := zr (by kernel_rfl)
@[go_sem] def R56_6 (_base : Nat) (s : St) (v0 v2 v23 v24 : V) : OR :=
 obind (idxv 50 8 v23 v24) fun x0 =>
 some (.normal, [(0, v0), (2, v2), (4, x0), (23, v23), (24, v24)], s)
@[go_sem] theorem t56_6 : rc D b c56_6 ρ s = R56_6 b s (get ρ 0) (get ρ 2) (get ρ 23) (get ρ 24) := zr (by kernel_rfl)
@[go_sem] def R56_7 (_base : Nat) (s : St) (v0 v2 v4 v23 v24 : V) : OR :=
 obind (vbin .geq v4 (.int .i64 0)) fun x0 =>
 oguard x0 true (
   obind (vbin .lss v4 (.int .i64 1024)) fun x1 =>
   some (.normal, [(0, v0), (2, v2), (4, v4), (23, v23), (24, v24), (32, x1)], s)) (
   some (.normal, [(0, v0), (2, v2), (4, v4), (23, v23), (24, v24), (32, (.bool false))], s)) (
   none)
@[go_sem] theorem t56_7 : rc D b c56_7 ρ s = R56_7 b s (get ρ 0) (get ρ 2) (get ρ 4) (get ρ 23) (get ρ 24) := zr (by kernel_rfl)
@[go_sem] def R56_8 (base : Nat) (s : St) (v0 v2 v4 v23 v24 : V) : OR :=
 obind (iadv 82 1024 0 v2 v4) fun x0 =>
 obind (stv base s 0 (.bool true) x0) fun s1 =>
 some (.normal, [(0, v0), (2, v2), (23, v23), (24, v24)], s1)
@[go_sem] theorem t56_8 : rc D b c56_8 ρ s = R56_8 b s (get ρ 0) (get ρ 2) (get ρ 4) (get ρ 23) (get ρ 24) := zr (by kernel_rfl)
@[go_sem] def R56_9 (_base : Nat) (s : St) (v0 v2 v23 v24 : V) : OR :=
 obind (vbin .add v24 (.int .i64 1)) fun x0 =>
 some (.normal, [(0, v0), (2, v2), (23, v23), (24, x0)], s)
@[go_sem] theorem t56_9 : rc D b c56_9 ρ s = R56_9 b s (get ρ 0) (get ρ 2) (get ρ 23) (get ρ 24) := zr (by kernel_rfl)
@[go_sem] def R56_10 (_base : Nat) (s : St) (v0 v2 : V) : OR :=
 obind (nilv v0) fun x0 =>
 obind (fadv 43 0 1 x0) fun x1 =>
 obind (ldv s 1 x1) fun x2 =>
 obind (rf D f_nvm_Memory_Lines [x2] s) fun x3 =>
 some (.normal, [(0, v0), (2, v2), (40, x3.1), (41, (.int .i64 0))], x3.2)
@[go_sem] theorem t56_10 : rc D b c56_10 ρ s = R56_10 b s (get ρ 0) (get ρ 2) := zr (by kernel_rfl)
@[go_sem] def R56_11 (_base : Nat) (s : St) (v0 v2 v40 v41 : V) : OR :=
 obind (vbin .lss v41 v40) fun x0 =>
 some (.normal, [(0, v0), (2, v2), (40, v40), (41, v41), (42, x0)], s)
@[go_sem] theorem t56_11 : rc D b c56_11 ρ s = R56_11 b s (get ρ 0) (get ρ 2) (get ρ 40) (get ρ 41) := zr (by kernel_rfl)
@[go_sem] def R56_12 (_base : Nat) (s : St) (v0 v2 v40 v41 : V) : OR :=
 some (.normal, [(0, v0), (2, v2), (5, v41), (40, v40), (41, v41)], s)
@[go_sem] theorem t56_12 : rc D b c56_12 ρ s = R56_12 b s (get ρ 0) (get ρ 2) (get ρ 40) (get ρ 41) := zr (by kernel_rfl)
@[go_sem] def R56_13 (_base : Nat) (s : St) (v0 v2 v5 v40 v41 : V) : OR :=
 obind (iadv 82 1024 0 v2 v5) fun x0 =>
 obind (ldv s 0 x0) fun x1 =>
 obind (vun .not x1) fun x2 =>
 oguard x2 true (
   obind (nilv v0) fun x3 =>
   obind (fadv 43 1 1 x3) fun x4 =>
   obind (ldv s 1 x4) fun x5 =>
   obind (rf D f_frames_Frames_State [x5, v5] s) fun x6 =>
   obind (vbin .eql x6.1 (.int .i64 1)) fun x7 =>
   some (.normal, [(0, v0), (2, v2), (5, v5), (40, v40), (41, v41), (56, x7)], x6.2)) (
   some (.normal, [(0, v0), (2, v2), (5, v5), (40, v40), (41, v41), (56, (.bool false))], s)) (
   none)
@[go_sem] theorem t56_13 : rc D b c56_13 ρ s = R56_13 b s (get ρ 0) (get ρ 2) (get ρ 5) (get ρ 40) (get ρ 41) := zr (by kernel_rfl)
@[go_sem] def R56_14 (_base : Nat) (s : St) (v0 v2 v5 v40 v41 : V) : OR :=
 obind (nilv v0) fun x0 =>
 obind (fadv 43 1 1 x0) fun x1 =>
 obind (ldv s 1 x1) fun x2 =>
 obind (rf D f_frames_Frames_Later [x2, v5] s) fun x3 =>
 some (.normal, [(0, v0), (2, v2), (40, v40), (41, v41)], x3.2)
@[go_sem] theorem t56_14 : rc D b c56_14 ρ s = R56_14 b s (get ρ 0) (get ρ 2) (get ρ 5) (get ρ 40) (get ρ 41) := zr (by kernel_rfl)
@[go_sem] def R56_15 (_base : Nat) (s : St) (v0 v2 v40 v41 : V) : OR :=
 obind (vbin .add v41 (.int .i64 1)) fun x0 =>
 some (.normal, [(0, v0), (2, v2), (40, v40), (41, x0)], s)
@[go_sem] theorem t56_15 : rc D b c56_15 ρ s = R56_15 b s (get ρ 0) (get ρ 2) (get ρ 40) (get ρ 41) := zr (by kernel_rfl)
@[go_sem] def R56_16 (_base : Nat) (s : St) (v0 : V) : OR :=
 obind (nilv v0) fun x0 =>
 obind (fadv 43 1 1 x0) fun x1 =>
 obind (ldv s 1 x1) fun x2 =>
 obind (rf D f_frames_Frames_Settle [x2] s) fun x3 =>
 some (.normal, [], x3.2)
@[go_sem] theorem t56_16 : rc D b c56_16 ρ s = R56_16 b s (get ρ 0) := zr (by kernel_rfl)
@[go_sem] def R57_0 (_base : Nat) (s : St) (v0 : V) : OR :=
 if V.ok v0 && mayNew false v0 then let x0 : V := .ptr (St.fresh s false) [] (V.tag v0); let s0 : St := St.new s false v0
 some (.normal, [(1, x0)], s0)
 else none
@[go_sem] theorem t57_0 : rc D b c57_0 ρ s = R57_0 b s (get ρ 0) := zr (by kernel_rfl)
@[go_sem] def R57_1 (_base : Nat) (s : St) (v1 : V) : OR :=
 obind (fadv 42 0 10 v1) fun x0 =>
 obind (ldv s 10 x0) fun x1 =>
 obind (vbin .eql x1 (.int .i64 0)) fun x2 =>
 oguard x2 true (
   obind (fadv 42 1 10 v1) fun x3 =>
   obind (ldv s 10 x3) fun x4 =>
   obind (vbin .lss x4 (.int .i64 16777215)) fun x5 =>
   some (.normal, [(2, x5)], s)) (
   some (.normal, [(2, (.bool false))], s)) (
   none)
@[go_sem] theorem t57_1 : rc D b c57_1 ρ s = R57_1 b s (get ρ 1) := zr (by kernel_rfl)
@[go_sem] def R58_0 (base : Nat) (s : St) (v0 v1 : V) : OR :=
 obind (vbin .quo v1 (.int .i64 64)) fun x0 =>
 obind (nilv v0) fun x1 =>
 obind (iadv 78 16 18 x1 x0) fun x2 =>
 obind (ldv s 18 x2) fun x3 =>
 obind (vbin .rem v1 (.int .i64 64)) fun x4 =>
 obind (vbin .shl (.int .u64 1) x4) fun x5 =>
 obind (vbin .xor x3 x5) fun x6 =>
 obind (nilv v0) fun x7 =>
 obind (iadv 78 16 18 x7 x0) fun x8 =>
 obind (stv base s 18 x6 x8) fun s9 =>
 some (.normal, [], s9)
@[go_sem] theorem t58_0 : rc D b c58_0 ρ s = R58_0 b s (get ρ 0) (get ρ 1) := zd (by kernel_rfl)
@[go_sem] def R59_0 (_base : Nat) (s : St) (v0 v1 v2 : V) : OR :=
 some (.normal, [(0, v0), (1, v1), (2, v2)], s)
@[go_sem] theorem t59_0 : rc D b c59_0 ρ s = R59_0 b s (get ρ 0) (get ρ 1) (get ρ 2) := zr (by kernel_rfl)
@[go_sem] def R59_1 (_base : Nat) (s : St) (v0 v1 v2 : V) : OR :=
 obind (rf D f_frames_Frames_State [v0, v1] s) fun x0 =>
 some (.normal, [(2, v2), (9, x0.1)], x0.2)
@[go_sem] theorem t59_1 : rc D b c59_1 ρ s = R59_1 b s (get ρ 0) (get ρ 1) (get ρ 2) := zr (by kernel_rfl)
@[go_sem] def R59_2 (_base : Nat) (s : St) (v2 v9 : V) : OR :=
 obind (vbin .eql v9 (.int .i64 (-1))) fun x0 =>
 some (.normal, [(2, v2), (9, v9), (10, x0)], s)
@[go_sem] theorem t59_2 : rc D b c59_2 ρ s = R59_2 b s (get ρ 2) (get ρ 9) := zr (by kernel_rfl)
@[go_sem] def R59_3 (_base : Nat) (s : St) : OR :=
 some (.normal, [(6, (.int .i64 1))], s)
@[go_sem] theorem t59_3 : rc D b c59_3 ρ s = R59_3 b s := zr (by kernel_rfl)
@[go_sem] def R59_4 (_base : Nat) (s : St) (v2 v9 : V) : OR :=
 obind (vbin .eql v9 v2) fun x0 =>
 some (.normal, [(12, x0)], s)
@[go_sem] theorem t59_4 : rc D b c59_4 ρ s = R59_4 b s (get ρ 2) (get ρ 9) := zr (by kernel_rfl)
@[go_sem] def R59_5 (_base : Nat) (s : St) : OR :=
 some (.normal, [(6, (.int .i64 0))], s)
@[go_sem] theorem t59_5 : rc D b c59_5 ρ s = R59_5 b s := zr (by kernel_rfl)
@[go_sem] def R59_6 (_base : Nat) (s : St) : OR :=
 some (.normal, [(6, (.int .i64 3))], s)
@[go_sem] theorem t59_6 : rc D b c59_6 ρ s = R59_6 b s := zr (by kernel_rfl)
@[go_sem] def R60_0 (_base : Nat) (s : St) (v0 v1 : V) : OR :=
 if V.ok v1 && mayNew false v1 then let x0 : V := .ptr (St.fresh s false) [] (V.tag v1); let s0 : St := St.new s false v1
 some (.normal, [(0, v0), (3, x0)], s0)
 else none
@[go_sem] theorem t60_0 : rc D b c60_0 ρ s = R60_0 b s (get ρ 0) (get ρ 1) := zr (by kernel_rfl)
@[go_sem] def R60_1 (_base : Nat) (s : St) (v0 v3 : V) : OR :=
 obind (ldv s 48 v3) fun x0 =>
 some (.normal, [(0, v0), (6, x0), (7, (.int .i64 0))], s)
@[go_sem] theorem t60_1 : rc D b c60_1 ρ s = R60_1 b s (get ρ 0) (get ρ 3) := zr (by kernel_rfl)
@[go_sem] def R60_2 (_base : Nat) (s : St) (v0 v6 v7 : V) : OR :=
 obind (vbin .lss v7 (.int .i64 49)) fun x0 =>
 some (.normal, [(0, v0), (6, v6), (7, v7), (8, x0)], s)
@[go_sem] theorem t60_2 : rc D b c60_2 ρ s = R60_2 b s (get ρ 0) (get ρ 6) (get ρ 7) := zr (by kernel_rfl)
@[go_sem] def R60_3 (base : Nat) (s : St) (v0 v6 v7 : V) : OR :=
 obind (idxv 48 49 v6 v7) fun x0 =>
 let x1 : V := .ptr (St.fresh s false) [] 42; let s1 : St := St.new s false (.agg 42 [(.int .i64 0), (.int .i64 0), (.int .i64 0)])
 obind (stv base s1 42 x0 x1) fun s2 =>
 some (.normal, [(0, v0), (5, x1), (6, v6), (7, v7)], s2)
@[go_sem] theorem t60_3 : rc D b c60_3 ρ s = R60_3 b s (get ρ 0) (get ρ 6) (get ρ 7) := zr (by kernel_rfl)
@[go_sem] def R60_4 (_base : Nat) (s : St) (v0 v5 v6 v7 : V) : OR :=
 obind (fadv 42 0 10 v5) fun x0 =>
 obind (ldv s 10 x0) fun x1 =>
 obind (vbin .neq x1 (.int .i64 0)) fun x2 =>
 some (.normal, [(0, v0), (5, v5), (6, v6), (7, v7), (12, x2)], s)
@[go_sem] theorem t60_4 : rc D b c60_4 ρ s = R60_4 b s (get ρ 0) (get ρ 5) (get ρ 6) (get ρ 7) := zr (by kernel_rfl)
@[go_sem] def R60_5 (base : Nat) (s : St) (v0 v5 v6 v7 : V) : OR :=
 obind (fadv 42 2 10 v5) fun x0 =>
 obind (ldv s 10 x0) fun x1 =>
 obind (nilv v0) fun x2 =>
 obind (iadv 82 1024 0 x2 x1) fun x3 =>
 obind (stv base s 0 (.bool true) x3) fun s4 =>
 some (.normal, [(0, v0), (6, v6), (7, v7)], s4)
@[go_sem] theorem t60_5 : rc D b c60_5 ρ s = R60_5 b s (get ρ 0) (get ρ 5) (get ρ 6) (get ρ 7) := zd (by kernel_rfl)
@[go_sem] def R60_6 (_base : Nat) (s : St) (v0 v6 v7 : V) : OR :=
 obind (vbin .add v7 (.int .i64 1)) fun x0 =>
 some (.normal, [(0, v0), (6, v6), (7, x0)], s)
@[go_sem] theorem t60_6 : rc D b c60_6 ρ s = R60_6 b s (get ρ 0) (get ρ 6) (get ρ 7) := zr (by kernel_rfl)
@[go_sem] def R61_0 (_base : Nat) (s : St) (v0 v1 v2 v3 : V) : OR :=
 some (.normal, [(0, v0), (1, v1), (2, v2), (3, v3)], s)
@[go_sem] theorem t61_0 : rc D b c61_0 ρ s = R61_0 b s (get ρ 0) (get ρ 1) (get ρ 2) (get ρ 3) := zr (by kernel_rfl)
@[go_sem] def R61_1 (_base : Nat) (s : St) (v0 v1 v2 v3 : V) : OR :=
 obind (rf D f_steadfastref04_Frames_State [v0, v1] s) fun x0 =>
 some (.normal, [(0, v0), (1, v1), (2, v2), (3, v3), (9, x0.1)], x0.2)
@[go_sem] theorem t61_1 : rc D b c61_1 ρ s = R61_1 b s (get ρ 0) (get ρ 1) (get ρ 2) (get ρ 3) := zr (by kernel_rfl)
@[go_sem] def R61_2 (_base : Nat) (s : St) (v0 v1 v2 v3 v9 : V) : OR :=
 obind (vbin .lss v9 (.int .i64 0)) fun x0 =>
 some (.normal, [(0, v0), (1, v1), (2, v2), (3, v3), (9, v9), (14, x0)], s)
@[go_sem] theorem t61_2 : rc D b c61_2 ρ s = R61_2 b s (get ρ 0) (get ρ 1) (get ρ 2) (get ρ 3) (get ρ 9) := zr (by kernel_rfl)
@[go_sem] def R61_3 (_base : Nat) (s : St) : OR :=
 some (.normal, [(8, (.int .i64 1))], s)
@[go_sem] theorem t61_3 : rc D b c61_3 ρ s = R61_3 b s := zr (by kernel_rfl)
@[go_sem] def R61_4 (_base : Nat) (s : St) (v0 v1 v2 v3 v9 : V) : OR :=
 obind (vbin .neq v9 v2) fun x0 =>
 some (.normal, [(0, v0), (1, v1), (3, v3), (17, x0)], s)
@[go_sem] theorem t61_4 : rc D b c61_4 ρ s = R61_4 b s (get ρ 0) (get ρ 1) (get ρ 2) (get ρ 3) (get ρ 9) := zr (by kernel_rfl)
@[go_sem] def R61_5 (_base : Nat) (s : St) : OR :=
 some (.normal, [(8, (.int .i64 3))], s)
@[go_sem] theorem t61_5 : rc D b c61_5 ρ s = R61_5 b s := zr (by kernel_rfl)
@[go_sem] def R61_6 (base : Nat) (s : St) (v0 v1 v3 : V) : OR :=
 obind (nilv v0) fun x0 =>
 obind (fadv 21 1 1 x0) fun x1 =>
 obind (ldv s 1 x1) fun x2 =>
 obind (nilv v0) fun x3 =>
 obind (fadv 21 0 10 x3) fun x4 =>
 obind (ldv s 10 x4) fun x5 =>
 obind (vbin .sub v1 x5) fun x6 =>
 obind (sadv 10 x2 x6) fun x7 =>
 obind (stv base s 10 v3 x7) fun s8 =>
 some (.normal, [], s8)
@[go_sem] theorem t61_6 : rc D b c61_6 ρ s = R61_6 b s (get ρ 0) (get ρ 1) (get ρ 3) := zd (by kernel_rfl)
@[go_sem] def R61_7 (_base : Nat) (s : St) : OR :=
 some (.normal, [(8, (.int .i64 0))], s)
@[go_sem] theorem t61_7 : rc D b c61_7 ρ s = R61_7 b s := zr (by kernel_rfl)
@[go_sem] def R62_0 (_base : Nat) (s : St) (v0 : V) : OR :=
 some (.normal, [(0, v0)], s)
@[go_sem] theorem t62_0 : rc D b c62_0 ρ s = R62_0 b s (get ρ 0) := zr (by kernel_rfl)
@[go_sem] def R62_1 (_base : Nat) (s : St) (v0 : V) : OR :=
 obind (vbin .shr v0 (.int .u64 1)) fun x0 =>
 obind (vbin .and x0 (.int .u64 6148914691236517205)) fun x1 =>
 obind (vbin .and v0 (.int .u64 6148914691236517205)) fun x2 =>
 obind (vbin .add x1 x2) fun x3 =>
 some (.normal, [(0, x3)], s)
@[go_sem] theorem t62_1 : rc D b c62_1 ρ s = R62_1 b s (get ρ 0) := zr (by kernel_rfl)
@[go_sem] def R62_2 (_base : Nat) (s : St) (v0 : V) : OR :=
 obind (vbin .shr v0 (.int .u64 2)) fun x0 =>
 obind (vbin .and x0 (.int .u64 3689348814741910323)) fun x1 =>
 obind (vbin .and v0 (.int .u64 3689348814741910323)) fun x2 =>
 obind (vbin .add x1 x2) fun x3 =>
 some (.normal, [(0, x3)], s)
@[go_sem] theorem t62_2 : rc D b c62_2 ρ s = R62_2 b s (get ρ 0) := zr (by kernel_rfl)
@[go_sem] def R62_3 (_base : Nat) (s : St) (v0 : V) : OR :=
 obind (vbin .shr v0 (.int .u64 4)) fun x0 =>
 obind (vbin .add x0 v0) fun x1 =>
 obind (vbin .and x1 (.int .u64 1085102592571150095)) fun x2 =>
 some (.normal, [(0, x2)], s)
@[go_sem] theorem t62_3 : rc D b c62_3 ρ s = R62_3 b s (get ρ 0) := zr (by kernel_rfl)
@[go_sem] def R62_4 (_base : Nat) (s : St) (v0 : V) : OR :=
 obind (vbin .shr v0 (.int .u64 8)) fun x0 =>
 obind (vbin .add v0 x0) fun x1 =>
 some (.normal, [(0, x1)], s)
@[go_sem] theorem t62_4 : rc D b c62_4 ρ s = R62_4 b s (get ρ 0) := zr (by kernel_rfl)
@[go_sem] def R62_5 (_base : Nat) (s : St) (v0 : V) : OR :=
 obind (vbin .shr v0 (.int .u64 16)) fun x0 =>
 obind (vbin .add v0 x0) fun x1 =>
 some (.normal, [(0, x1)], s)
@[go_sem] theorem t62_5 : rc D b c62_5 ρ s = R62_5 b s (get ρ 0) := zr (by kernel_rfl)
@[go_sem] def R62_6 (_base : Nat) (s : St) (v0 : V) : OR :=
 obind (vbin .shr v0 (.int .u64 32)) fun x0 =>
 obind (vbin .add v0 x0) fun x1 =>
 some (.normal, [(0, x1)], s)
@[go_sem] theorem t62_6 : rc D b c62_6 ρ s = R62_6 b s (get ρ 0) := zr (by kernel_rfl)
@[go_sem] def R62_7 (_base : Nat) (s : St) (v0 : V) : OR :=
 obind (convv .i64 v0) fun x0 =>
 obind (vbin .and x0 (.int .i64 127)) fun x1 =>
 some (.normal, [(2, x1)], s)
@[go_sem] theorem t62_7 : rc D b c62_7 ρ s = R62_7 b s (get ρ 0) := zr (by kernel_rfl)
@[go_sem] def R63_0 (_base : Nat) (s : St) (v0 : V) : OR :=
 some (.normal, [(0, v0)], s)
@[go_sem] theorem t63_0 : rc D b c63_0 ρ s = R63_0 b s (get ρ 0) := zr (by kernel_rfl)
@[go_sem] def R63_1 (_base : Nat) (s : St) (v0 : V) : OR :=
 obind (nilv v0) fun x0 =>
 obind (fadv 59 2 0 x0) fun x1 =>
 obind (ldv s 0 x1) fun x2 =>
 oguard x2 true (
   obind (nilv v0) fun x3 =>
   obind (fadv 59 3 10 x3) fun x4 =>
   obind (ldv s 10 x4) fun x5 =>
   obind (vbin .eql x5 (.int .i64 0)) fun x6 =>
   some (.normal, [(0, v0), (13, x6)], s)) (
   some (.normal, [(0, v0), (13, (.bool false))], s)) (
   none)
@[go_sem] theorem t63_1 : rc D b c63_1 ρ s = R63_1 b s (get ρ 0) := zr (by kernel_rfl)
@[go_sem] def R63_2 (base : Nat) (s : St) (v0 : V) : OR :=
 obind (nilv v0) fun x0 =>
 obind (fadv 59 1 0 x0) fun x1 =>
 obind (stv base s 0 (.bool true) x1) fun s2 =>
 some (.normal, [(0, v0)], s2)
@[go_sem] theorem t63_2 : rc D b c63_2 ρ s = R63_2 b s (get ρ 0) := zr (by kernel_rfl)
@[go_sem] def R63_3 (_base : Nat) (s : St) (v0 : V) : OR :=
 obind (nilv v0) fun x0 =>
 obind (fadv 59 1 0 x0) fun x1 =>
 obind (ldv s 0 x1) fun x2 =>
 some (.normal, [(0, v0), (20, x2)], s)
@[go_sem] theorem t63_3 : rc D b c63_3 ρ s = R63_3 b s (get ρ 0) := zr (by kernel_rfl)
@[go_sem] def R63_4 (_base : Nat) (s : St) : OR :=
 some (.normal, [(2, (.int .i64 4))], s)
@[go_sem] theorem t63_4 : rc D b c63_4 ρ s = R63_4 b s := zr (by kernel_rfl)
@[go_sem] def R63_5 (_base : Nat) (s : St) (v0 : V) : OR :=
 obind (nilv v0) fun x0 =>
 obind (fadv 59 2 0 x0) fun x1 =>
 obind (ldv s 0 x1) fun x2 =>
 some (.normal, [(0, v0), (24, x2)], s)
@[go_sem] theorem t63_5 : rc D b c63_5 ρ s = R63_5 b s (get ρ 0) := zr (by kernel_rfl)
@[go_sem] def R63_6 (base : Nat) (s : St) (v0 : V) : OR :=
 obind (nilv v0) fun x0 =>
 obind (fadv 59 3 10 x0) fun x1 =>
 obind (ldv s 10 x1) fun x2 =>
 obind (vbin .sub x2 (.int .i64 1)) fun x3 =>
 obind (nilv v0) fun x4 =>
 obind (fadv 59 3 10 x4) fun x5 =>
 obind (stv base s 10 x3 x5) fun s6 =>
 some (.normal, [(0, v0)], s6)
@[go_sem] theorem t63_6 : rc D b c63_6 ρ s = R63_6 b s (get ρ 0) := zr (by kernel_rfl)
@[go_sem] def R63_7 (base : Nat) (s : St) (v0 : V) : OR :=
 obind (nilv v0) fun x0 =>
 obind (fadv 59 4 10 x0) fun x1 =>
 obind (ldv s 10 x1) fun x2 =>
 obind (vbin .add x2 (.int .i64 1)) fun x3 =>
 obind (nilv v0) fun x4 =>
 obind (fadv 59 4 10 x4) fun x5 =>
 obind (stv base s 10 x3 x5) fun s6 =>
 some (.normal, [], s6)
@[go_sem] theorem t63_7 : rc D b c63_7 ρ s = R63_7 b s (get ρ 0) := zr (by kernel_rfl)
@[go_sem] def R63_8 (_base : Nat) (s : St) : OR :=
 some (.normal, [(2, (.int .i64 0))], s)
@[go_sem] theorem t63_8 : rc D b c63_8 ρ s = R63_8 b s := zr (by kernel_rfl)
@[go_sem] def R64_0 (_base : Nat) (s : St) (v0 : V) : OR :=
 some (.normal, [(0, v0)], s)
@[go_sem] theorem t64_0 : rc D b c64_0 ρ s = R64_0 b s (get ρ 0) := zr (by kernel_rfl)
@[go_sem] def R64_1 (_base : Nat) (s : St) (v0 : V) : OR :=
 obind (vbin .eql v0 (.int .u64 0)) fun x0 =>
 some (.normal, [(0, v0), (4, x0)], s)
@[go_sem] theorem t64_1 : rc D b c64_1 ρ s = R64_1 b s (get ρ 0) := zr (by kernel_rfl)
@[go_sem] def R64_2 (_base : Nat) (s : St) : OR :=
 some (.normal, [(2, (.int .i64 64))], s)
@[go_sem] theorem t64_2 : rc D b c64_2 ρ s = R64_2 b s := zr (by kernel_rfl)
@[go_sem] def R64_3 (_base : Nat) (s : St) (v0 : V) : OR :=
 obind (vun .neg v0) fun x0 =>
 obind (vbin .and v0 x0) fun x1 =>
 obind (vbin .mul x1 (.int .u64 285870213051353865)) fun x2 =>
 obind (vbin .shr x2 (.int .u64 58)) fun x3 =>
 obind (iadv 108 64 12 glob_0 x3) fun x4 =>
 obind (ldv s 12 x4) fun x5 =>
 obind (convv .i64 x5) fun x6 =>
 some (.normal, [(2, x6)], s)
@[go_sem] theorem t64_3 : rc D b c64_3 ρ s = R64_3 b s (get ρ 0) := zr (by kernel_rfl)
@[go_sem] def R65_0 (_base : Nat) (s : St) (v0 v1 v2 : V) : OR :=
 some (.normal, [(0, v0), (1, v1), (2, v2)], s)
@[go_sem] theorem t65_0 : rc D b c65_0 ρ s = R65_0 b s (get ρ 0) (get ρ 1) (get ρ 2) := zr (by kernel_rfl)
@[go_sem] def R65_1 (_base : Nat) (s : St) (v0 v1 v2 : V) : OR :=
 obind (vbin .geq v0 v1) fun x0 =>
 oguard x0 true (
   obind (vbin .leq v0 v2) fun x1 =>
   some (.normal, [(6, x1)], s)) (
   some (.normal, [(6, (.bool false))], s)) (
   none)
@[go_sem] theorem t65_1 : rc D b c65_1 ρ s = R65_1 b s (get ρ 0) (get ρ 1) (get ρ 2) := zr (by kernel_rfl)
@[go_sem] def R66_0 (_base : Nat) (s : St) (v0 v1 : V) : OR :=
 some (.normal, [(0, v0), (1, v1)], s)
@[go_sem] theorem t66_0 : rc D b c66_0 ρ s = R66_0 b s (get ρ 0) (get ρ 1) := zr (by kernel_rfl)
@[go_sem] def R66_1 (_base : Nat) (s : St) (v0 v1 : V) : OR :=
 obind (nilv v0) fun x0 =>
 obind (fadv 80 0 10 x0) fun x1 =>
 obind (ldv s 10 x1) fun x2 =>
 obind (vbin .lss v1 x2) fun x3 =>
 some (.normal, [(0, v0), (1, v1), (5, x3)], s)
@[go_sem] theorem t66_1 : rc D b c66_1 ρ s = R66_1 b s (get ρ 0) (get ρ 1) := zr (by kernel_rfl)
@[go_sem] def R66_2 (_base : Nat) (s : St) (v0 v1 : V) : OR :=
 obind (nilv v0) fun x0 =>
 obind (fadv 80 1 10 x0) fun x1 =>
 obind (ldv s 10 x1) fun x2 =>
 obind (vbin .geq v1 x2) fun x3 =>
 some (.normal, [(0, v0), (1, v1), (5, x3)], s)
@[go_sem] theorem t66_2 : rc D b c66_2 ρ s = R66_2 b s (get ρ 0) (get ρ 1) := zr (by kernel_rfl)
@[go_sem] def R66_3 (_base : Nat) (s : St) : OR :=
 some (.normal, [(4, (.int .i64 (-1)))], s)
@[go_sem] theorem t66_3 : rc D b c66_3 ρ s = R66_3 b s := zr (by kernel_rfl)
@[go_sem] def R66_4 (_base : Nat) (s : St) (v0 v1 : V) : OR :=
 obind (nilv v0) fun x0 =>
 obind (fadv 80 2 78 x0) fun x1 =>
 obind (rf D f_frames_set_has [x1, v1] s) fun x2 =>
 some (.normal, [(0, v0), (1, v1), (18, x2.1)], x2.2)
@[go_sem] theorem t66_4 : rc D b c66_4 ρ s = R66_4 b s (get ρ 0) (get ρ 1) := zr (by kernel_rfl)
@[go_sem] def R66_5 (_base : Nat) (s : St) : OR :=
 some (.normal, [(4, (.int .i64 0))], s)
@[go_sem] theorem t66_5 : rc D b c66_5 ρ s = R66_5 b s := zr (by kernel_rfl)
@[go_sem] def R66_6 (_base : Nat) (s : St) (v0 v1 : V) : OR :=
 obind (nilv v0) fun x0 =>
 obind (fadv 80 3 78 x0) fun x1 =>
 obind (rf D f_frames_set_has [x1, v1] s) fun x2 =>
 some (.normal, [(24, x2.1)], x2.2)
@[go_sem] theorem t66_6 : rc D b c66_6 ρ s = R66_6 b s (get ρ 0) (get ρ 1) := zr (by kernel_rfl)
@[go_sem] def R66_7 (_base : Nat) (s : St) : OR :=
 some (.normal, [(4, (.int .i64 2))], s)
@[go_sem] theorem t66_7 : rc D b c66_7 ρ s = R66_7 b s := zr (by kernel_rfl)
@[go_sem] def R66_8 (_base : Nat) (s : St) : OR :=
 some (.normal, [(4, (.int .i64 1))], s)
@[go_sem] theorem t66_8 : rc D b c66_8 ρ s = R66_8 b s := zr (by kernel_rfl)
@[go_sem] def R67_0 (_base : Nat) (s : St) (v0 v1 : V) : OR :=
 some (.normal, [(0, v0), (1, v1)], s)
@[go_sem] theorem t67_0 : rc D b c67_0 ρ s = R67_0 b s (get ρ 0) (get ρ 1) := zr (by kernel_rfl)
@[go_sem] def R67_1 (_base : Nat) (s : St) (v0 v1 : V) : OR :=
 obind (rf D f_frames_Frames_in [v0, v1, (.int .i64 1)] s) fun x0 =>
 some (.normal, [(0, v0), (1, v1), (5, x0.1)], x0.2)
@[go_sem] theorem t67_1 : rc D b c67_1 ρ s = R67_1 b s (get ρ 0) (get ρ 1) := zr (by kernel_rfl)
@[go_sem] def R67_2 (_base : Nat) (s : St) (v0 v1 v5 : V) : OR :=
 obind (vbin .eql v5 (.int .i64 0)) fun x0 =>
 some (.normal, [(0, v0), (1, v1), (5, v5), (10, x0)], s)
@[go_sem] theorem t67_2 : rc D b c67_2 ρ s = R67_2 b s (get ρ 0) (get ρ 1) (get ρ 5) := zr (by kernel_rfl)
@[go_sem] def R67_3 (_base : Nat) (s : St) (v0 v1 v5 : V) : OR :=
 obind (nilv v0) fun x0 =>
 obind (fadv 80 3 78 x0) fun x1 =>
 obind (rf D f_frames_set_turn [x1, v1] s) fun x2 =>
 some (.normal, [(5, v5)], x2.2)
@[go_sem] theorem t67_3 : rc D b c67_3 ρ s = R67_3 b s (get ρ 0) (get ρ 1) (get ρ 5) := zr (by kernel_rfl)
@[go_sem] def R67_4 (_base : Nat) (s : St) (v5 : V) : OR :=
 some (.normal, [(4, v5)], s)
@[go_sem] theorem t67_4 : rc D b c67_4 ρ s = R67_4 b s (get ρ 5) := zr (by kernel_rfl)
@[go_sem] def R68_0 (_base : Nat) (s : St) (v0 : V) : OR :=
 obind (nilv v0) fun x0 =>
 obind (fadv 80 3 78 x0) fun x1 =>
 obind (ldv s 78 x1) fun x2 =>
 some (.normal, [(0, v0), (7, x2), (8, (.int .i64 0))], s)
@[go_sem] theorem t68_0 : rc D b c68_0 ρ s = R68_0 b s (get ρ 0) := zr (by kernel_rfl)
@[go_sem] def R68_1 (_base : Nat) (s : St) (v0 v7 v8 : V) : OR :=
 obind (vbin .lss v8 (.int .i64 16)) fun x0 =>
 some (.normal, [(0, v0), (7, v7), (8, v8), (9, x0)], s)
@[go_sem] theorem t68_1 : rc D b c68_1 ρ s = R68_1 b s (get ρ 0) (get ρ 7) (get ρ 8) := zr (by kernel_rfl)
@[go_sem] def R68_2 (_base : Nat) (s : St) (v0 v7 v8 : V) : OR :=
 obind (idxv 78 16 v7 v8) fun x0 =>
 some (.normal, [(0, v0), (2, v8), (3, x0), (7, v7), (8, v8)], s)
@[go_sem] theorem t68_2 : rc D b c68_2 ρ s = R68_2 b s (get ρ 0) (get ρ 7) (get ρ 8) := zr (by kernel_rfl)
@[go_sem] def R68_3 (base : Nat) (s : St) (v0 v2 v3 v7 v8 : V) : OR :=
 obind (nilv v0) fun x0 =>
 obind (fadv 80 2 78 x0) fun x1 =>
 obind (iadv 78 16 18 x1 v2) fun x2 =>
 obind (ldv s 18 x2) fun x3 =>
 obind (vbin .or x3 v3) fun x4 =>
 obind (nilv v0) fun x5 =>
 obind (fadv 80 2 78 x5) fun x6 =>
 obind (iadv 78 16 18 x6 v2) fun x7 =>
 obind (stv base s 18 x4 x7) fun s8 =>
 some (.normal, [(0, v0), (7, v7), (8, v8)], s8)
@[go_sem] theorem t68_3 : rc D b c68_3 ρ s = R68_3 b s (get ρ 0) (get ρ 2) (get ρ 3) (get ρ 7) (get ρ 8) := zd (by kernel_rfl)
@[go_sem] def R68_4 (_base : Nat) (s : St) (v0 v7 v8 : V) : OR :=
 obind (vbin .add v8 (.int .i64 1)) fun x0 =>
 some (.normal, [(0, v0), (7, v7), (8, x0)], s)
@[go_sem] theorem t68_4 : rc D b c68_4 ρ s = R68_4 b s (get ρ 0) (get ρ 7) (get ρ 8) := zr (by kernel_rfl)
@[go_sem] def R68_5 (base : Nat) (s : St) (v0 : V) : OR :=
 obind (setParts (List.replicate 16 (.int .u64 0)) []) fun x0 =>
 obind (nilv v0) fun x1 =>
 obind (fadv 80 3 78 x1) fun x2 =>
 obind (stv base s 78 (.agg 78 x0) x2) fun s3 =>
 some (.normal, [], s3)
@[go_sem] theorem t68_5 : rc D b c68_5 ρ s = R68_5 b s (get ρ 0) := zr (by kernel_rfl)
@[go_sem] def R69_0 (_base : Nat) (s : St) (v0 v1 : V) : OR :=
 some (.normal, [(0, v0), (1, v1)], s)
@[go_sem] theorem t69_0 : rc D b c69_0 ρ s = R69_0 b s (get ρ 0) (get ρ 1) := zr (by kernel_rfl)
@[go_sem] def R69_1 (_base : Nat) (s : St) (v0 v1 : V) : OR :=
 obind (nilv v0) fun x0 =>
 obind (fadv 21 0 10 x0) fun x1 =>
 obind (ldv s 10 x1) fun x2 =>
 obind (vbin .lss v1 x2) fun x3 =>
 oguard x3 false (
   obind (nilv v0) fun x4 =>
   obind (fadv 21 0 10 x4) fun x5 =>
   obind (ldv s 10 x5) fun x6 =>
   obind (vbin .sub v1 x6) fun x7 =>
   obind (nilv v0) fun x8 =>
   obind (fadv 21 1 1 x8) fun x9 =>
   obind (ldv s 1 x9) fun x10 =>
   obind (V.slen false x10) fun x11 =>
   obind (vbin .geq x7 (.int .i64 x11)) fun x12 =>
   some (.normal, [(0, v0), (1, v1), (24, x12)], s)) (
   some (.normal, [(0, v0), (1, v1), (24, (.bool true))], s)) (
   none)
@[go_sem] theorem t69_1 : rc D b c69_1 ρ s = R69_1 b s (get ρ 0) (get ρ 1) := zd (by kernel_rfl)
@[go_sem] def R69_2 (_base : Nat) (s : St) : OR :=
 some (.normal, [(4, (.int .i64 (-1)))], s)
@[go_sem] theorem t69_2 : rc D b c69_2 ρ s = R69_2 b s := zr (by kernel_rfl)
@[go_sem] def R69_3 (_base : Nat) (s : St) (v0 v1 : V) : OR :=
 obind (nilv v0) fun x0 =>
 obind (fadv 21 1 1 x0) fun x1 =>
 obind (ldv s 1 x1) fun x2 =>
 obind (nilv v0) fun x3 =>
 obind (fadv 21 0 10 x3) fun x4 =>
 obind (ldv s 10 x4) fun x5 =>
 obind (vbin .sub v1 x5) fun x6 =>
 obind (sadv 10 x2 x6) fun x7 =>
 obind (ldv s 10 x7) fun x8 =>
 some (.normal, [(4, x8)], s)
@[go_sem] theorem t69_3 : rc D b c69_3 ρ s = R69_3 b s (get ρ 0) (get ρ 1) := zd (by kernel_rfl)
@[go_sem] def R70_0 (_base : Nat) (s : St) (v0 v1 : V) : OR :=
 some (.normal, [(0, v0), (1, v1)], s)
@[go_sem] theorem t70_0 : rc D b c70_0 ρ s = R70_0 b s (get ρ 0) (get ρ 1) := zr (by kernel_rfl)
@[go_sem] def R70_1 (_base : Nat) (s : St) (v0 v1 : V) : OR :=
 obind (vbin .quo v1 (.int .i64 64)) fun x0 =>
 obind (nilv v0) fun x1 =>
 obind (iadv 78 16 18 x1 x0) fun x2 =>
 obind (ldv s 18 x2) fun x3 =>
 obind (vbin .rem v1 (.int .i64 64)) fun x4 =>
 obind (vbin .shr x3 x4) fun x5 =>
 obind (vbin .and x5 (.int .u64 1)) fun x6 =>
 obind (vbin .eql x6 (.int .u64 1)) fun x7 =>
 some (.normal, [(4, x7)], s)
@[go_sem] theorem t70_1 : rc D b c70_1 ρ s = R70_1 b s (get ρ 0) (get ρ 1) := zr (by kernel_rfl)

end
end Go.Proofs.YtnffmibpblibdaaDoor
