/-
  YtpbpgbedkmbfkaaCode: the code of the functions that this seat's laws reach, in the form of Ab1 (printed by a program out of the translation; held against it in YtpbpgbedkmbfkaaChk).
-/
import Derived.Test.YtpbpgbedkmbfkaaAbG
import Derived.KernelRfl
set_option maxRecDepth 100000
namespace Go.Proofs.Ytpbpgbedkmbfkaa
open Go.Ab
/-! The functions' numbers. -/
def f_steadfastlaw23_ReachFinds : Nat := 3
def f_steadfastlaw23_ReachApart : Nat := 4
def f_steadfastlaw23_shown : Nat := 12
def f_steadfastlaw23_world : Nat := 13
def f_reach_Names : Nat := 14
def f_steadfastref23_Names : Nat := 15
def f_reach_From : Nat := 16
def f_steadfastref23_From : Nat := 17
def f_reach_Of : Nat := 18
def f_steadfastref23_Of : Nat := 19
def f_reach_Apart : Nat := 20
def f_steadfastref23_Apart : Nat := 21
def f_reach_Holds : Nat := 22
def f_steadfastref23_Holds : Nat := 23
def f_caps_Word : Nat := 26
def f_caps_Of : Nat := 28
def f_steadfastref07_Word : Nat := 41
def f_entry_Names : Nat := 42
def f_steadfastref07_Of : Nat := 43
def f_reach_From_1 : Nat := 44
def f_regs_Of : Nat := 45
def f_steadfastref14_Of : Nat := 46
def f_slices_ContainsFunc_int : Nat := 47
def f_reach_Apart_1 : Nat := 48
def f_reach_Apart_1_1 : Nat := 49
def f_slices_ContainsFunc_api_Object : Nat := 50
def f_reach_Holds_1 : Nat := 51
def f_slices_ContainsFunc_uint64 : Nat := 52
def f_reach_Holds_1_1 : Nat := 53
def f_caps_may : Nat := 58
def f_caps_within : Nat := 70
def f_steadfastref01_With : Nat := 71
def f_steadfastref01_Field : Nat := 72
def f_word_Number : Nat := 73
def f_regs_Of_1 : Nat := 74
def f_word_Field : Nat := 75
def f_regs_Line : Nat := 76
def f_steadfastref01_Number : Nat := 77
def f_steadfastref14_Line : Nat := 78
def f_slices_IndexFunc_int : Nat := 79
def f_slices_IndexFunc_api_Object : Nat := 80
def f_slices_IndexFunc_uint64 : Nat := 81
def f_steadfastref01_is : Nat := 98
def f_steadfastref01_bit : Nat := 99
def f_word_field : Nat := 100
def f_word_mask : Nat := 101
def f_regs_right : Nat := 102
def f_regs_within : Nat := 103
def o_steadfastlaw23_ReachFinds_0 : List Ab.Op := [
  ⟨some 6, none, .mv (.k (.bool false))⟩]
def o_steadfastlaw23_ReachFinds_1 : List Ab.Op := [
  ⟨some 13, none, .call (.k (.fn f_steadfastlaw23_shown [])) []⟩,
  ⟨some 7, none, .mv (.t 13)⟩]
def o_steadfastlaw23_ReachFinds_2 : List Ab.Op := [
  ⟨some 14, none, .mv (.t 0)⟩,
  ⟨some 15, none, .call (.k (.fn f_steadfastlaw23_world [])) [(.t 14)]⟩,
  ⟨some 8, none, .alloc false (.agg 30 (List.replicate 49 (.agg 26 [(.int .i64 0), (.int .i64 0), (.agg 24 (List.replicate 8 (.int .u64 0)))])))⟩,
  ⟨none, none, .st 30 (.t 8) (.t 15)⟩]
def o_steadfastlaw23_ReachFinds_3 : List Ab.Op := [
  ⟨some 17, none, .ld 30 (.t 8)⟩,
  ⟨some 18, none, .mv (.t 1)⟩,
  ⟨some 19, none, .call (.k (.fn f_reach_Names [])) [(.t 17), (.t 18)]⟩,
  ⟨some 16, none, .mv (.t 19)⟩,
  ⟨some 20, none, .ext (.t 16) 0⟩,
  ⟨some 21, none, .ext (.t 16) 1⟩,
  ⟨some 9, none, .mv (.t 20)⟩,
  ⟨some 10, none, .mv (.t 21)⟩]
def o_steadfastlaw23_ReachFinds_4 : List Ab.Op := [
  ⟨some 23, none, .ld 30 (.t 8)⟩,
  ⟨some 24, none, .mv (.t 1)⟩,
  ⟨some 25, none, .call (.k (.fn f_steadfastref23_Names [])) [(.t 23), (.t 24)]⟩,
  ⟨some 22, none, .mv (.t 25)⟩,
  ⟨some 26, none, .ext (.t 22) 0⟩,
  ⟨some 27, none, .ext (.t 22) 1⟩,
  ⟨some 11, none, .mv (.t 26)⟩,
  ⟨some 12, none, .mv (.t 27)⟩]
def o_steadfastlaw23_ReachFinds_5 : List Ab.Op := [
  ⟨some 28, none, .mv (.t 7)⟩,
  ⟨some 29, none, .mv (.t 28)⟩,
  ⟨some 30, some (29, true), .mv (.t 9)⟩,
  ⟨some 31, some (29, true), .mv (.t 11)⟩,
  ⟨some 32, some (29, true), .bin .eql (.t 30) (.t 31)⟩,
  ⟨some 33, none, .pick (.t 29) (.t 32) (.k (.bool false))⟩,
  ⟨some 34, none, .mv (.t 33)⟩,
  ⟨some 35, some (34, true), .mv (.t 10)⟩,
  ⟨some 36, some (34, true), .mv (.t 12)⟩,
  ⟨some 37, some (34, true), .eq false 0 (.t 35) (.t 36)⟩,
  ⟨some 38, none, .pick (.t 34) (.t 37) (.k (.bool false))⟩,
  ⟨some 39, none, .mv (.t 38)⟩,
  ⟨some 40, some (39, true), .ld 30 (.t 8)⟩,
  ⟨some 41, some (39, true), .mv (.t 1)⟩,
  ⟨some 42, some (39, true), .pcall (.k (.fn f_reach_From [])) [(.t 40), (.t 41)]⟩,
  ⟨some 43, some (39, true), .ld 30 (.t 8)⟩,
  ⟨some 44, some (39, true), .mv (.t 1)⟩,
  ⟨some 45, some (39, true), .pcall (.k (.fn f_steadfastref23_From [])) [(.t 43), (.t 44)]⟩,
  ⟨some 46, some (39, true), .eq false 32 (.t 42) (.t 45)⟩,
  ⟨some 47, none, .pick (.t 39) (.t 46) (.k (.bool false))⟩,
  ⟨some 48, none, .mv (.t 47)⟩,
  ⟨some 49, some (48, true), .ld 30 (.t 8)⟩,
  ⟨some 50, some (48, true), .mv (.t 2)⟩,
  ⟨some 51, some (48, true), .pcall (.k (.fn f_reach_Of [])) [(.t 49), (.t 50)]⟩,
  ⟨some 52, some (48, true), .ld 30 (.t 8)⟩,
  ⟨some 53, some (48, true), .mv (.t 2)⟩,
  ⟨some 54, some (48, true), .pcall (.k (.fn f_steadfastref23_Of [])) [(.t 52), (.t 53)]⟩,
  ⟨some 55, some (48, true), .eq false 32 (.t 51) (.t 54)⟩,
  ⟨some 56, none, .pick (.t 48) (.t 55) (.k (.bool false))⟩,
  ⟨some 6, none, .mv (.t 56)⟩]
/-- steadfast/steadfastlaw23.ReachFinds -/
@[go_sem] def fc_steadfastlaw23_ReachFinds : Fc := ⟨3,
  .seq ((.reg (some [0, 1, 2]) o_steadfastlaw23_ReachFinds_0)) (
  .seq ((.reg (some [0, 1, 2, 7]) o_steadfastlaw23_ReachFinds_1)) (
  .seq ((.reg (some [1, 2, 7, 8]) o_steadfastlaw23_ReachFinds_2)) (
  .seq ((.reg (some [1, 2, 7, 8, 9, 10]) o_steadfastlaw23_ReachFinds_3)) (
  .seq ((.reg (some [1, 2, 7, 8, 9, 10, 11, 12]) o_steadfastlaw23_ReachFinds_4)) (
  .seq ((.regd (some [6]) o_steadfastlaw23_ReachFinds_5)) (
  .ret)))))),
  [.t 6]⟩
def o_steadfastlaw23_ReachApart_0 : List Ab.Op := [
  ⟨some 4, none, .box false (.t 1)⟩,
  ⟨some 6, none, .mv (.k (.bool false))⟩]
def o_steadfastlaw23_ReachApart_1 : List Ab.Op := [
  ⟨some 11, none, .call (.k (.fn f_steadfastlaw23_shown [])) []⟩,
  ⟨some 7, none, .mv (.t 11)⟩]
def o_steadfastlaw23_ReachApart_2 : List Ab.Op := [
  ⟨some 12, none, .mv (.t 0)⟩,
  ⟨some 13, none, .call (.k (.fn f_steadfastlaw23_world [])) [(.t 12)]⟩,
  ⟨some 8, none, .alloc false (.agg 30 (List.replicate 49 (.agg 26 [(.int .i64 0), (.int .i64 0), (.agg 24 (List.replicate 8 (.int .u64 0)))])))⟩,
  ⟨none, none, .st 30 (.t 8) (.t 13)⟩]
def o_steadfastlaw23_ReachApart_3 : List Ab.Op := [
  ⟨some 14, none, .iad 23 2 1 (.t 4) (.k (.int .i64 0))⟩,
  ⟨some 15, none, .ld 1 (.t 14)⟩,
  ⟨some 9, none, .mv (.t 15)⟩]
def o_steadfastlaw23_ReachApart_4 : List Ab.Op := [
  ⟨some 16, none, .iad 23 2 1 (.t 4) (.k (.int .i64 1))⟩,
  ⟨some 17, none, .ld 1 (.t 16)⟩,
  ⟨some 10, none, .mv (.t 17)⟩]
def o_steadfastlaw23_ReachApart_5 : List Ab.Op := [
  ⟨some 18, none, .mv (.t 9)⟩,
  ⟨some 19, none, .len false (.t 18)⟩,
  ⟨some 20, none, .bin .gtr (.t 19) (.k (.int .i64 8))⟩]
def o_steadfastlaw23_ReachApart_6 : List Ab.Op := [
  ⟨some 21, none, .mv (.t 9)⟩,
  ⟨some 22, none, .slc 10 (.t 21) none (some (.k (.int .i64 8))) none⟩,
  ⟨some 9, none, .mv (.t 22)⟩]
def o_steadfastlaw23_ReachApart_7 : List Ab.Op := [
  ⟨some 23, none, .mv (.t 10)⟩,
  ⟨some 24, none, .len false (.t 23)⟩,
  ⟨some 25, none, .bin .gtr (.t 24) (.k (.int .i64 8))⟩]
def o_steadfastlaw23_ReachApart_8 : List Ab.Op := [
  ⟨some 26, none, .mv (.t 10)⟩,
  ⟨some 27, none, .slc 10 (.t 26) none (some (.k (.int .i64 8))) none⟩,
  ⟨some 10, none, .mv (.t 27)⟩]
def o_steadfastlaw23_ReachApart_9 : List Ab.Op := [
  ⟨some 28, none, .mv (.t 7)⟩,
  ⟨some 29, none, .mv (.t 28)⟩,
  ⟨some 30, some (29, true), .ld 30 (.t 8)⟩,
  ⟨some 31, some (29, true), .mv (.t 9)⟩,
  ⟨some 32, some (29, true), .mv (.t 10)⟩,
  ⟨some 33, some (29, true), .pcall (.k (.fn f_reach_Apart [])) [(.t 30), (.t 31), (.t 32)]⟩,
  ⟨some 34, some (29, true), .ld 30 (.t 8)⟩,
  ⟨some 35, some (29, true), .mv (.t 9)⟩,
  ⟨some 36, some (29, true), .mv (.t 10)⟩,
  ⟨some 37, some (29, true), .pcall (.k (.fn f_steadfastref23_Apart [])) [(.t 34), (.t 35), (.t 36)]⟩,
  ⟨some 38, some (29, true), .eq false 0 (.t 33) (.t 37)⟩,
  ⟨some 39, none, .pick (.t 29) (.t 38) (.k (.bool false))⟩,
  ⟨some 40, none, .mv (.t 39)⟩,
  ⟨some 41, some (40, true), .ld 30 (.t 8)⟩,
  ⟨some 42, some (40, true), .mv (.t 10)⟩,
  ⟨some 43, some (40, true), .mv (.t 9)⟩,
  ⟨some 44, some (40, true), .pcall (.k (.fn f_reach_Apart [])) [(.t 41), (.t 42), (.t 43)]⟩,
  ⟨some 45, some (40, true), .ld 30 (.t 8)⟩,
  ⟨some 46, some (40, true), .mv (.t 9)⟩,
  ⟨some 47, some (40, true), .mv (.t 10)⟩,
  ⟨some 48, some (40, true), .pcall (.k (.fn f_reach_Apart [])) [(.t 45), (.t 46), (.t 47)]⟩,
  ⟨some 49, some (40, true), .eq false 0 (.t 44) (.t 48)⟩,
  ⟨some 50, none, .pick (.t 40) (.t 49) (.k (.bool false))⟩,
  ⟨some 51, none, .mv (.t 50)⟩,
  ⟨some 52, some (51, true), .ld 30 (.t 8)⟩,
  ⟨some 53, some (51, true), .mv (.t 2)⟩,
  ⟨some 54, some (51, true), .pcall (.k (.fn f_reach_Holds [])) [(.t 52), (.t 53)]⟩,
  ⟨some 55, some (51, true), .ld 30 (.t 8)⟩,
  ⟨some 56, some (51, true), .mv (.t 2)⟩,
  ⟨some 57, some (51, true), .pcall (.k (.fn f_steadfastref23_Holds [])) [(.t 55), (.t 56)]⟩,
  ⟨some 58, some (51, true), .eq false 0 (.t 54) (.t 57)⟩,
  ⟨some 59, none, .pick (.t 51) (.t 58) (.k (.bool false))⟩,
  ⟨some 6, none, .mv (.t 59)⟩]
/-- steadfast/steadfastlaw23.ReachApart -/
@[go_sem] def fc_steadfastlaw23_ReachApart : Fc := ⟨3,
  .seq ((.reg (some [0, 2, 4]) o_steadfastlaw23_ReachApart_0)) (
  .seq ((.reg (some [0, 2, 4, 7]) o_steadfastlaw23_ReachApart_1)) (
  .seq ((.reg (some [2, 4, 7, 8]) o_steadfastlaw23_ReachApart_2)) (
  .seq ((.reg (some [2, 4, 7, 8, 9]) o_steadfastlaw23_ReachApart_3)) (
  .seq ((.reg (some [2, 7, 8, 9, 10]) o_steadfastlaw23_ReachApart_4)) (
  .seq (.seq ((.reg (some [2, 7, 8, 9, 10, 20]) o_steadfastlaw23_ReachApart_5)) (
  .cond (.t 20) (
    (.reg (some [2, 7, 8, 9, 10]) o_steadfastlaw23_ReachApart_6)) (
    .skip))) (
  .seq (.seq ((.reg (some [2, 7, 8, 9, 10, 25]) o_steadfastlaw23_ReachApart_7)) (
  .cond (.t 25) (
    (.reg (some [2, 7, 8, 9, 10]) o_steadfastlaw23_ReachApart_8)) (
    .skip))) (
  .seq ((.regd (some [6]) o_steadfastlaw23_ReachApart_9)) (
  .ret)))))))),
  [.t 6]⟩
def o_steadfastlaw23_shown_0 : List Ab.Op := [
  ⟨some 0, none, .mv (.k (.bool false))⟩]
def o_steadfastlaw23_shown_1 : List Ab.Op := [
  ⟨some 8, none, .bld (.agg 40 [(.int .i64 0), (.int .i64 0), (.int .i64 0), (.int .i64 0), (.int .i64 0)]) [(0, (.k (.int .i64 1))), (1, (.k (.int .i64 1)))]⟩,
  ⟨some 9, none, .call (.k (.fn f_steadfastref07_Word [])) [(.t 8)]⟩,
  ⟨some 7, none, .mv (.t 9)⟩,
  ⟨some 10, none, .ext (.t 7) 0⟩,
  ⟨some 11, none, .ext (.t 7) 1⟩,
  ⟨some 1, none, .mv (.t 10)⟩,
  ⟨some 2, none, .mv (.t 11)⟩]
def o_steadfastlaw23_shown_2 : List Ab.Op := [
  ⟨some 13, none, .bld (.agg 40 [(.int .i64 0), (.int .i64 0), (.int .i64 0), (.int .i64 0), (.int .i64 0)]) [(0, (.k (.int .i64 2))), (1, (.k (.int .i64 1))), (2, (.k (.int .i64 1)))]⟩,
  ⟨some 14, none, .call (.k (.fn f_steadfastref07_Word [])) [(.t 13)]⟩,
  ⟨some 12, none, .mv (.t 14)⟩,
  ⟨some 15, none, .ext (.t 12) 0⟩,
  ⟨some 16, none, .ext (.t 12) 1⟩,
  ⟨some 3, none, .mv (.t 15)⟩,
  ⟨some 4, none, .mv (.t 16)⟩]
def o_steadfastlaw23_shown_3 : List Ab.Op := [
  ⟨some 17, none, .bld (.agg 26 [(.int .i64 0), (.int .i64 0), (.agg 24 (List.replicate 8 (.int .u64 0)))]) [(0, (.k (.int .i64 1)))]⟩,
  ⟨some 18, none, .mv (.t 1)⟩,
  ⟨some 19, none, .bld (.agg 24 (List.replicate 8 (.int .u64 0))) [(2, (.t 18))]⟩,
  ⟨some 20, none, .bld (.agg 26 [(.int .i64 0), (.int .i64 0), (.agg 24 (List.replicate 8 (.int .u64 0)))]) [(0, (.k (.int .i64 2))), (2, (.t 19))]⟩,
  ⟨some 21, none, .bsl false 28 26 (.agg 26 [(.int .i64 0), (.int .i64 0), (.agg 24 (List.replicate 8 (.int .u64 0)))]) 2 [(0, (.t 17)), (1, (.t 20))]⟩,
  ⟨some 22, none, .call (.k (.fn f_steadfastlaw23_world [])) [(.t 21)]⟩,
  ⟨some 5, none, .alloc false (.agg 30 (List.replicate 49 (.agg 26 [(.int .i64 0), (.int .i64 0), (.agg 24 (List.replicate 8 (.int .u64 0)))])))⟩,
  ⟨none, none, .st 30 (.t 5) (.t 22)⟩]
def o_steadfastlaw23_shown_4 : List Ab.Op := [
  ⟨some 23, none, .ld 30 (.t 5)⟩,
  ⟨some 24, none, .mv (.t 3)⟩,
  ⟨some 25, none, .call (.k (.fn f_reach_From [])) [(.t 23), (.t 24)]⟩,
  ⟨some 6, none, .alloc false (.agg 32 (List.replicate 49 (.bool false)))⟩,
  ⟨none, none, .st 32 (.t 6) (.t 25)⟩]
def o_steadfastlaw23_shown_5 : List Ab.Op := [
  ⟨some 26, none, .iad 32 49 0 (.t 6) (.k (.int .i64 0))⟩,
  ⟨some 27, none, .ld 0 (.t 26)⟩,
  ⟨some 28, none, .mv (.t 27)⟩,
  ⟨some 29, some (28, true), .iad 32 49 0 (.t 6) (.k (.int .i64 1))⟩,
  ⟨some 30, some (28, true), .ld 0 (.t 29)⟩,
  ⟨some 31, none, .pick (.t 28) (.t 30) (.k (.bool false))⟩,
  ⟨some 32, none, .mv (.t 31)⟩,
  ⟨some 33, some (32, true), .iad 32 49 0 (.t 6) (.k (.int .i64 2))⟩,
  ⟨some 34, some (32, true), .ld 0 (.t 33)⟩,
  ⟨some 35, some (32, true), .un .not (.t 34)⟩,
  ⟨some 36, none, .pick (.t 32) (.t 35) (.k (.bool false))⟩,
  ⟨some 37, none, .mv (.t 36)⟩,
  ⟨some 38, some (37, true), .ld 30 (.t 5)⟩,
  ⟨some 39, some (37, true), .call (.k (.fn f_reach_From [])) [(.t 38), (.k (.int .u64 0))]⟩,
  ⟨some 40, some (37, true), .bld (.agg 32 (List.replicate 49 (.bool false))) []⟩,
  ⟨some 41, some (37, true), .eq false 32 (.t 39) (.t 40)⟩,
  ⟨some 42, none, .pick (.t 37) (.t 41) (.k (.bool false))⟩,
  ⟨some 0, none, .mv (.t 42)⟩]
/-- steadfast/steadfastlaw23.shown -/
@[go_sem] def fc_steadfastlaw23_shown : Fc := ⟨0,
  .seq ((.reg (some []) o_steadfastlaw23_shown_0)) (
  .seq ((.reg (some [1]) o_steadfastlaw23_shown_1)) (
  .seq ((.reg (some [1, 3]) o_steadfastlaw23_shown_2)) (
  .seq ((.reg (some [3, 5]) o_steadfastlaw23_shown_3)) (
  .seq ((.reg (some [5, 6]) o_steadfastlaw23_shown_4)) (
  .seq ((.reg (some [0]) o_steadfastlaw23_shown_5)) (
  .ret)))))),
  [.t 0]⟩
def o_steadfastlaw23_world_0 : List Ab.Op := [
  ⟨some 2, none, .alloc false (.agg 30 (List.replicate 49 (.agg 26 [(.int .i64 0), (.int .i64 0), (.agg 24 (List.replicate 8 (.int .u64 0)))])))⟩]
def o_steadfastlaw23_world_1 : List Ab.Op := [
  ⟨some 7, none, .bld (.agg 30 (List.replicate 49 (.agg 26 [(.int .i64 0), (.int .i64 0), (.agg 24 (List.replicate 8 (.int .u64 0)))]))) []⟩,
  ⟨some 3, none, .alloc false (.agg 30 (List.replicate 49 (.agg 26 [(.int .i64 0), (.int .i64 0), (.agg 24 (List.replicate 8 (.int .u64 0)))])))⟩,
  ⟨none, none, .st 30 (.t 3) (.t 7)⟩]
def o_steadfastlaw23_world_2 : List Ab.Op := [
  ⟨some 4, none, .mv (.k (.int .i64 0))⟩]
def o_steadfastlaw23_world_3 : List Ab.Op := [
  ⟨some 8, none, .mv (.t 4)⟩,
  ⟨some 9, none, .mv (.t 0)⟩,
  ⟨some 10, none, .len false (.t 9)⟩,
  ⟨some 11, none, .bin .lss (.t 8) (.t 10)⟩,
  ⟨some 12, none, .mv (.t 11)⟩,
  ⟨some 13, some (12, true), .mv (.t 4)⟩,
  ⟨some 14, some (12, true), .bin .lss (.t 13) (.k (.int .i64 49))⟩,
  ⟨some 15, none, .pick (.t 12) (.t 14) (.k (.bool false))⟩]
def o_steadfastlaw23_world_4 : List Ab.Op := [
  ⟨some 18, none, .mv (.t 0)⟩,
  ⟨some 19, none, .mv (.t 4)⟩,
  ⟨some 20, none, .sad 26 (.t 18) (.t 19)⟩,
  ⟨some 21, none, .fad 26 0 10 (.t 20)⟩,
  ⟨some 22, none, .ld 10 (.t 21)⟩,
  ⟨some 23, none, .bin .rem (.t 22) (.k (.int .i64 5))⟩,
  ⟨some 5, none, .mv (.t 23)⟩]
def o_steadfastlaw23_world_5 : List Ab.Op := [
  ⟨some 24, none, .mv (.t 5)⟩,
  ⟨some 25, none, .bin .lss (.t 24) (.k (.int .i64 0))⟩]
def o_steadfastlaw23_world_6 : List Ab.Op := [
  ⟨some 26, none, .mv (.t 5)⟩,
  ⟨some 27, none, .un .neg (.t 26)⟩,
  ⟨some 5, none, .mv (.t 27)⟩]
def o_steadfastlaw23_world_7 : List Ab.Op := [
  ⟨some 28, none, .mv (.t 0)⟩,
  ⟨some 29, none, .mv (.t 4)⟩,
  ⟨some 30, none, .sad 26 (.t 28) (.t 29)⟩,
  ⟨some 31, none, .fad 26 1 10 (.t 30)⟩,
  ⟨some 32, none, .ld 10 (.t 31)⟩,
  ⟨some 33, none, .bin .rem (.t 32) (.k (.int .i64 100))⟩,
  ⟨some 6, none, .mv (.t 33)⟩]
def o_steadfastlaw23_world_8 : List Ab.Op := [
  ⟨some 34, none, .mv (.t 6)⟩,
  ⟨some 35, none, .bin .lss (.t 34) (.k (.int .i64 0))⟩]
def o_steadfastlaw23_world_9 : List Ab.Op := [
  ⟨some 36, none, .mv (.t 6)⟩,
  ⟨some 37, none, .un .neg (.t 36)⟩,
  ⟨some 6, none, .mv (.t 37)⟩]
def o_steadfastlaw23_world_10 : List Ab.Op := [
  ⟨some 38, none, .mv (.t 5)⟩,
  ⟨some 39, none, .bin .neq (.t 38) (.k (.int .i64 0))⟩]
def o_steadfastlaw23_world_11 : List Ab.Op := [
  ⟨some 40, none, .mv (.t 4)⟩,
  ⟨some 41, none, .mv (.t 5)⟩,
  ⟨some 42, none, .mv (.t 6)⟩,
  ⟨some 43, none, .mv (.t 0)⟩,
  ⟨some 44, none, .mv (.t 4)⟩,
  ⟨some 45, none, .sad 26 (.t 43) (.t 44)⟩,
  ⟨some 46, none, .fad 26 2 24 (.t 45)⟩,
  ⟨some 47, none, .ld 24 (.t 46)⟩,
  ⟨some 48, none, .bld (.agg 26 [(.int .i64 0), (.int .i64 0), (.agg 24 (List.replicate 8 (.int .u64 0)))]) [(0, (.t 41)), (1, (.t 42)), (2, (.t 47))]⟩,
  ⟨some 49, none, .iad 30 49 26 (.t 3) (.t 40)⟩,
  ⟨none, none, .st 26 (.t 49) (.t 48)⟩]
def o_steadfastlaw23_world_12 : List Ab.Op := [
  ⟨some 16, none, .mv (.t 4)⟩,
  ⟨some 17, none, .bin .add (.t 16) (.k (.int .i64 1))⟩,
  ⟨some 4, none, .mv (.t 17)⟩]
def o_steadfastlaw23_world_13 : List Ab.Op := [
  ⟨some 50, none, .ld 30 (.t 3)⟩,
  ⟨none, none, .st 30 (.t 2) (.t 50)⟩]
def b_steadfastlaw23_world_0 : C :=
    .seq (.seq ((.reg (some [0, 2, 3, 4, 15]) o_steadfastlaw23_world_3)) (
    .cond (.t 15) (
      .skip) (
      .exit 0))) (
    .seq (.block 1 (
      .seq ((.reg (some [0, 2, 3, 4, 5]) o_steadfastlaw23_world_4)) (
      .seq (.seq ((.reg (some [0, 2, 3, 4, 5, 25]) o_steadfastlaw23_world_5)) (
      .cond (.t 25) (
        (.reg (some [0, 2, 3, 4, 5]) o_steadfastlaw23_world_6)) (
        .skip))) (
      .seq ((.reg (some [0, 2, 3, 4, 5, 6]) o_steadfastlaw23_world_7)) (
      .seq (.seq ((.reg (some [0, 2, 3, 4, 5, 6, 35]) o_steadfastlaw23_world_8)) (
      .cond (.t 35) (
        (.reg (some [0, 2, 3, 4, 5, 6]) o_steadfastlaw23_world_9)) (
        .skip))) (
      .seq ((.reg (some [0, 2, 3, 4, 5, 6, 39]) o_steadfastlaw23_world_10)) (
      .cond (.t 39) (
        (.reg (some [0, 2, 3, 4]) o_steadfastlaw23_world_11)) (
        .skip)))))))) (
    (.reg (some [0, 2, 3, 4]) o_steadfastlaw23_world_12)))
/-- steadfast/steadfastlaw23.world -/
@[go_sem] def fc_steadfastlaw23_world : Fc := ⟨1,
  .seq ((.reg (some [0, 2]) o_steadfastlaw23_world_0)) (
  .seq ((.reg (some [0, 2, 3]) o_steadfastlaw23_world_1)) (
  .seq (.seq ((.reg (some [0, 2, 3, 4]) o_steadfastlaw23_world_2)) (
  .block 0 (
    .loop [0, 2, 3, 4] b_steadfastlaw23_world_0))) (
  .seq ((.reg (some [2]) o_steadfastlaw23_world_13)) (
  .ret)))),
  [.cell 2 30]⟩
def o_reach_Names_0 : List Ab.Op := [
  ⟨some 2, none, .box false (.t 0)⟩,
  ⟨some 4, none, .mv (.k (.int .i64 0))⟩,
  ⟨some 5, none, .mv (.k (.bool false))⟩]
def o_reach_Names_1 : List Ab.Op := [
  ⟨some 10, none, .mv (.t 1)⟩,
  ⟨some 11, none, .call (.k (.fn f_caps_Of [])) [(.t 10)]⟩,
  ⟨some 9, none, .mv (.t 11)⟩,
  ⟨some 12, none, .ext (.t 9) 0⟩,
  ⟨some 13, none, .ext (.t 9) 1⟩,
  ⟨some 6, none, .alloc false (.agg 40 [(.int .i64 0), (.int .i64 0), (.int .i64 0), (.int .i64 0), (.int .i64 0)])⟩,
  ⟨none, none, .st 40 (.t 6) (.t 12)⟩,
  ⟨some 7, none, .mv (.t 13)⟩]
def o_reach_Names_2 : List Ab.Op := [
  ⟨some 14, none, .mv (.t 7)⟩,
  ⟨some 15, none, .un .not (.t 14)⟩]
def o_reach_Names_3 : List Ab.Op := [
  ⟨some 4, none, .mv (.k (.int .i64 0))⟩,
  ⟨some 5, none, .mv (.k (.bool false))⟩]
def o_reach_Names_4 : List Ab.Op := [
  ⟨some 16, none, .fad 40 2 10 (.t 6)⟩,
  ⟨some 17, none, .ld 10 (.t 16)⟩,
  ⟨some 18, none, .iad 30 49 26 (.t 2) (.t 17)⟩,
  ⟨some 19, none, .ld 26 (.t 18)⟩,
  ⟨some 8, none, .alloc false (.agg 26 [(.int .i64 0), (.int .i64 0), (.agg 24 (List.replicate 8 (.int .u64 0)))])⟩,
  ⟨none, none, .st 26 (.t 8) (.t 19)⟩]
def o_reach_Names_5 : List Ab.Op := [
  ⟨some 20, none, .fad 26 0 10 (.t 8)⟩,
  ⟨some 21, none, .ld 10 (.t 20)⟩,
  ⟨some 22, none, .fad 26 1 10 (.t 8)⟩,
  ⟨some 23, none, .ld 10 (.t 22)⟩,
  ⟨some 24, none, .bld (.agg 42 [(.int .i64 0), (.int .i64 0), (.int .i64 0)]) [(0, (.t 21)), (1, (.t 23))]⟩,
  ⟨some 25, none, .fad 40 2 10 (.t 6)⟩,
  ⟨some 26, none, .ld 10 (.t 25)⟩,
  ⟨some 27, none, .mv (.t 1)⟩,
  ⟨some 28, none, .call (.k (.fn f_entry_Names [])) [(.t 24), (.t 26), (.t 27)]⟩,
  ⟨some 29, none, .bin .neq (.t 28) (.k (.int .i64 0))⟩]
def o_reach_Names_6 : List Ab.Op := [
  ⟨some 4, none, .mv (.k (.int .i64 0))⟩,
  ⟨some 5, none, .mv (.k (.bool false))⟩]
def o_reach_Names_7 : List Ab.Op := [
  ⟨some 30, none, .fad 40 2 10 (.t 6)⟩,
  ⟨some 31, none, .ld 10 (.t 30)⟩,
  ⟨some 4, none, .mv (.t 31)⟩,
  ⟨some 5, none, .mv (.k (.bool true))⟩]
/-- steadfast/reach.Names -/
@[go_sem] def fc_reach_Names : Fc := ⟨2,
  .seq ((.reg (some [1, 2]) o_reach_Names_0)) (
  .seq ((.reg (some [1, 2, 6, 7]) o_reach_Names_1)) (
  .seq (.seq ((.reg (some [1, 2, 6, 15]) o_reach_Names_2)) (
  .cond (.t 15) (
    .seq ((.reg (some [4, 5]) o_reach_Names_3)) (
    .ret)) (
    .skip))) (
  .seq ((.reg (some [1, 6, 8]) o_reach_Names_4)) (
  .seq (.seq ((.reg (some [6, 29]) o_reach_Names_5)) (
  .cond (.t 29) (
    .seq ((.reg (some [4, 5]) o_reach_Names_6)) (
    .ret)) (
    .skip))) (
  .seq ((.reg (some [4, 5]) o_reach_Names_7)) (
  .ret)))))),
  [.t 4, .t 5]⟩
def o_steadfastref23_Names_0 : List Ab.Op := [
  ⟨some 2, none, .box false (.t 0)⟩,
  ⟨some 4, none, .mv (.k (.int .i64 0))⟩,
  ⟨some 5, none, .mv (.k (.bool false))⟩]
def o_steadfastref23_Names_1 : List Ab.Op := [
  ⟨some 9, none, .mv (.t 1)⟩,
  ⟨some 10, none, .call (.k (.fn f_steadfastref07_Of [])) [(.t 9)]⟩,
  ⟨some 8, none, .mv (.t 10)⟩,
  ⟨some 11, none, .ext (.t 8) 0⟩,
  ⟨some 12, none, .ext (.t 8) 1⟩,
  ⟨some 6, none, .alloc false (.agg 40 [(.int .i64 0), (.int .i64 0), (.int .i64 0), (.int .i64 0), (.int .i64 0)])⟩,
  ⟨none, none, .st 40 (.t 6) (.t 11)⟩,
  ⟨some 7, none, .mv (.t 12)⟩]
def o_steadfastref23_Names_2 : List Ab.Op := [
  ⟨some 13, none, .mv (.t 7)⟩,
  ⟨some 14, none, .un .not (.t 13)⟩,
  ⟨some 15, none, .mv (.t 14)⟩,
  ⟨some 16, some (15, false), .fad 40 0 10 (.t 6)⟩,
  ⟨some 17, some (15, false), .ld 10 (.t 16)⟩,
  ⟨some 18, some (15, false), .bin .gtr (.t 17) (.k (.int .i64 4))⟩,
  ⟨some 19, none, .pick (.t 15) (.k (.bool true)) (.t 18)⟩,
  ⟨some 20, none, .mv (.t 19)⟩,
  ⟨some 21, some (20, false), .fad 40 2 10 (.t 6)⟩,
  ⟨some 22, some (20, false), .ld 10 (.t 21)⟩,
  ⟨some 23, some (20, false), .iad 30 49 26 (.t 2) (.t 22)⟩,
  ⟨some 24, some (20, false), .fad 26 0 10 (.t 23)⟩,
  ⟨some 25, some (20, false), .ld 10 (.t 24)⟩,
  ⟨some 26, some (20, false), .fad 40 0 10 (.t 6)⟩,
  ⟨some 27, some (20, false), .ld 10 (.t 26)⟩,
  ⟨some 28, some (20, false), .bin .neq (.t 25) (.t 27)⟩,
  ⟨some 29, none, .pick (.t 20) (.k (.bool true)) (.t 28)⟩,
  ⟨some 30, none, .mv (.t 29)⟩,
  ⟨some 31, some (30, false), .fad 40 2 10 (.t 6)⟩,
  ⟨some 32, some (30, false), .ld 10 (.t 31)⟩,
  ⟨some 33, some (30, false), .iad 30 49 26 (.t 2) (.t 32)⟩,
  ⟨some 34, some (30, false), .fad 26 1 10 (.t 33)⟩,
  ⟨some 35, some (30, false), .ld 10 (.t 34)⟩,
  ⟨some 36, some (30, false), .fad 40 3 10 (.t 6)⟩,
  ⟨some 37, some (30, false), .ld 10 (.t 36)⟩,
  ⟨some 38, some (30, false), .bin .neq (.t 35) (.t 37)⟩,
  ⟨some 39, none, .pick (.t 30) (.k (.bool true)) (.t 38)⟩]
def o_steadfastref23_Names_3 : List Ab.Op := [
  ⟨some 4, none, .mv (.k (.int .i64 0))⟩,
  ⟨some 5, none, .mv (.k (.bool false))⟩]
def o_steadfastref23_Names_4 : List Ab.Op := [
  ⟨some 40, none, .fad 40 2 10 (.t 6)⟩,
  ⟨some 41, none, .ld 10 (.t 40)⟩,
  ⟨some 4, none, .mv (.t 41)⟩,
  ⟨some 5, none, .mv (.k (.bool true))⟩]
/-- steadfast/steadfastref23.Names -/
@[go_sem] def fc_steadfastref23_Names : Fc := ⟨2,
  .seq ((.reg (some [1, 2]) o_steadfastref23_Names_0)) (
  .seq ((.reg (some [2, 6, 7]) o_steadfastref23_Names_1)) (
  .seq (.seq ((.regd (some [6, 39]) o_steadfastref23_Names_2)) (
  .cond (.t 39) (
    .seq ((.reg (some [4, 5]) o_steadfastref23_Names_3)) (
    .ret)) (
    .skip))) (
  .seq ((.reg (some [4, 5]) o_steadfastref23_Names_4)) (
  .ret)))),
  [.t 4, .t 5]⟩
def o_reach_From_0 : List Ab.Op := [
  ⟨some 2, none, .box false (.t 0)⟩,
  ⟨some 4, none, .alloc false (.agg 32 (List.replicate 49 (.bool false)))⟩]
def o_reach_From_1 : List Ab.Op := [
  ⟨some 5, none, .alloc false (.agg 32 (List.replicate 49 (.bool false)))⟩]
def o_reach_From_2 : List Ab.Op := [
  ⟨some 6, none, .alloc false .nilf⟩]
def o_reach_From_3 : List Ab.Op := [
  ⟨some 7, none, .mkfn f_reach_From_1 [(.t 2), (.t 5), (.t 6)]⟩,
  ⟨none, none, .st 1 (.t 6) (.t 7)⟩]
def o_reach_From_4 : List Ab.Op := [
  ⟨some 8, none, .ld 1 (.t 6)⟩,
  ⟨some 9, none, .mv (.t 1)⟩,
  ⟨some 10, none, .call (.t 8) [(.t 9)]⟩]
def o_reach_From_5 : List Ab.Op := [
  ⟨some 11, none, .ld 32 (.t 5)⟩,
  ⟨none, none, .st 32 (.t 4) (.t 11)⟩]
/-- steadfast/reach.From -/
@[go_sem] def fc_reach_From : Fc := ⟨2,
  .seq ((.reg (some [1, 2, 4]) o_reach_From_0)) (
  .seq ((.reg (some [1, 2, 4, 5]) o_reach_From_1)) (
  .seq ((.reg (some [1, 2, 4, 5, 6]) o_reach_From_2)) (
  .seq ((.reg (some [1, 4, 5, 6]) o_reach_From_3)) (
  .seq ((.reg (some [4, 5]) o_reach_From_4)) (
  .seq ((.reg (some [4]) o_reach_From_5)) (
  .ret)))))),
  [.cell 4 32]⟩
def o_steadfastref23_From_0 : List Ab.Op := [
  ⟨some 2, none, .box false (.t 0)⟩,
  ⟨some 4, none, .alloc false (.agg 32 (List.replicate 49 (.bool false)))⟩]
def o_steadfastref23_From_1 : List Ab.Op := [
  ⟨some 13, none, .bld (.agg 32 (List.replicate 49 (.bool false))) []⟩,
  ⟨some 5, none, .alloc false (.agg 32 (List.replicate 49 (.bool false)))⟩,
  ⟨none, none, .st 32 (.t 5) (.t 13)⟩]
def o_steadfastref23_From_2 : List Ab.Op := [
  ⟨some 15, none, .ld 30 (.t 2)⟩,
  ⟨some 16, none, .mv (.t 1)⟩,
  ⟨some 17, none, .call (.k (.fn f_steadfastref23_Names [])) [(.t 15), (.t 16)]⟩,
  ⟨some 14, none, .mv (.t 17)⟩,
  ⟨some 18, none, .ext (.t 14) 0⟩,
  ⟨some 19, none, .ext (.t 14) 1⟩,
  ⟨some 6, none, .mv (.t 18)⟩,
  ⟨some 7, none, .mv (.t 19)⟩]
def o_steadfastref23_From_3 : List Ab.Op := [
  ⟨some 20, none, .mv (.t 7)⟩,
  ⟨some 21, none, .un .not (.t 20)⟩]
def o_steadfastref23_From_4 : List Ab.Op := [
  ⟨some 22, none, .ld 32 (.t 5)⟩,
  ⟨none, none, .st 32 (.t 4) (.t 22)⟩]
def o_steadfastref23_From_5 : List Ab.Op := [
  ⟨some 23, none, .mv (.t 6)⟩,
  ⟨some 24, none, .iad 32 49 0 (.t 5) (.t 23)⟩,
  ⟨none, none, .st 0 (.t 24) (.k (.bool true))⟩]
def o_steadfastref23_From_6 : List Ab.Op := [
  ⟨some 8, none, .mv (.k (.int .i64 0))⟩]
def o_steadfastref23_From_7 : List Ab.Op := [
  ⟨some 25, none, .mv (.t 8)⟩,
  ⟨some 26, none, .bin .lss (.t 25) (.k (.int .i64 49))⟩]
def o_steadfastref23_From_8 : List Ab.Op := [
  ⟨some 9, none, .mv (.k (.int .i64 0))⟩]
def o_steadfastref23_From_9 : List Ab.Op := [
  ⟨some 29, none, .mv (.t 9)⟩,
  ⟨some 30, none, .bin .lss (.t 29) (.k (.int .i64 49))⟩]
def o_steadfastref23_From_10 : List Ab.Op := [
  ⟨some 10, none, .mv (.k (.int .i64 0))⟩]
def o_steadfastref23_From_11 : List Ab.Op := [
  ⟨some 33, none, .mv (.t 10)⟩,
  ⟨some 34, none, .bin .lss (.t 33) (.k (.int .i64 8))⟩,
  ⟨some 35, none, .mv (.t 34)⟩,
  ⟨some 36, some (35, true), .mv (.t 9)⟩,
  ⟨some 37, some (35, true), .iad 32 49 0 (.t 5) (.t 36)⟩,
  ⟨some 38, some (35, true), .ld 0 (.t 37)⟩,
  ⟨some 39, none, .pick (.t 35) (.t 38) (.k (.bool false))⟩,
  ⟨some 40, none, .mv (.t 39)⟩,
  ⟨some 41, some (40, true), .mv (.t 9)⟩,
  ⟨some 42, some (40, true), .iad 30 49 26 (.t 2) (.t 41)⟩,
  ⟨some 43, some (40, true), .fad 26 0 10 (.t 42)⟩,
  ⟨some 44, some (40, true), .ld 10 (.t 43)⟩,
  ⟨some 45, some (40, true), .bin .eql (.t 44) (.k (.int .i64 2))⟩,
  ⟨some 46, none, .pick (.t 40) (.t 45) (.k (.bool false))⟩]
def o_steadfastref23_From_12 : List Ab.Op := [
  ⟨some 50, none, .ld 30 (.t 2)⟩,
  ⟨some 51, none, .mv (.t 9)⟩,
  ⟨some 52, none, .mv (.t 10)⟩,
  ⟨some 53, none, .iad 30 49 26 (.t 2) (.t 51)⟩,
  ⟨some 54, none, .fad 26 2 24 (.t 53)⟩,
  ⟨some 55, none, .iad 24 8 18 (.t 54) (.t 52)⟩,
  ⟨some 56, none, .ld 18 (.t 55)⟩,
  ⟨some 57, none, .pcall (.k (.fn f_steadfastref23_Names [])) [(.t 50), (.t 56)]⟩,
  ⟨some 49, none, .mv (.t 57)⟩,
  ⟨some 58, none, .ext (.t 49) 0⟩,
  ⟨some 59, none, .ext (.t 49) 1⟩,
  ⟨some 11, none, .mv (.t 58)⟩,
  ⟨some 12, none, .mv (.t 59)⟩]
def o_steadfastref23_From_13 : List Ab.Op := [
  ⟨some 60, none, .mv (.t 12)⟩]
def o_steadfastref23_From_14 : List Ab.Op := [
  ⟨some 61, none, .mv (.t 11)⟩,
  ⟨some 62, none, .iad 32 49 0 (.t 5) (.t 61)⟩,
  ⟨none, none, .st 0 (.t 62) (.k (.bool true))⟩]
def o_steadfastref23_From_15 : List Ab.Op := [
  ⟨some 47, none, .mv (.t 10)⟩,
  ⟨some 48, none, .bin .add (.t 47) (.k (.int .i64 1))⟩,
  ⟨some 10, none, .mv (.t 48)⟩]
def o_steadfastref23_From_16 : List Ab.Op := [
  ⟨some 31, none, .mv (.t 9)⟩,
  ⟨some 32, none, .bin .add (.t 31) (.k (.int .i64 1))⟩,
  ⟨some 9, none, .mv (.t 32)⟩]
def o_steadfastref23_From_17 : List Ab.Op := [
  ⟨some 27, none, .mv (.t 8)⟩,
  ⟨some 28, none, .bin .add (.t 27) (.k (.int .i64 1))⟩,
  ⟨some 8, none, .mv (.t 28)⟩]
def o_steadfastref23_From_18 : List Ab.Op := [
  ⟨some 63, none, .ld 32 (.t 5)⟩,
  ⟨none, none, .st 32 (.t 4) (.t 63)⟩]
def b_steadfastref23_From_2 : C :=
    .seq (.seq ((.reg (some [2, 4, 5, 8, 9, 10, 46]) o_steadfastref23_From_11)) (
    .cond (.t 46) (
      .skip) (
      .exit 4))) (
    .seq (.block 5 (
      .seq ((.regd (some [2, 4, 5, 8, 9, 10, 11, 12]) o_steadfastref23_From_12)) (
      .seq ((.reg (some [2, 4, 5, 8, 9, 10, 11, 60]) o_steadfastref23_From_13)) (
      .cond (.t 60) (
        (.reg (some [2, 4, 5, 8, 9, 10]) o_steadfastref23_From_14)) (
        .skip))))) (
    (.reg (some [2, 4, 5, 8, 9, 10]) o_steadfastref23_From_15)))
def b_steadfastref23_From_1 : C :=
    .seq (.seq ((.reg (some [2, 4, 5, 8, 9, 30]) o_steadfastref23_From_9)) (
    .cond (.t 30) (
      .skip) (
      .exit 2))) (
    .seq (.block 3 (
      .seq ((.reg (some [2, 4, 5, 8, 9, 10]) o_steadfastref23_From_10)) (
      .block 4 (
        .loop [2, 4, 5, 8, 9, 10] b_steadfastref23_From_2)))) (
    (.reg (some [2, 4, 5, 8, 9]) o_steadfastref23_From_16)))
def b_steadfastref23_From_0 : C :=
    .seq (.seq ((.reg (some [2, 4, 5, 8, 26]) o_steadfastref23_From_7)) (
    .cond (.t 26) (
      .skip) (
      .exit 0))) (
    .seq (.block 1 (
      .seq ((.reg (some [2, 4, 5, 8, 9]) o_steadfastref23_From_8)) (
      .block 2 (
        .loop [2, 4, 5, 8, 9] b_steadfastref23_From_1)))) (
    (.reg (some [2, 4, 5, 8]) o_steadfastref23_From_17)))
/-- steadfast/steadfastref23.From -/
@[go_sem] def fc_steadfastref23_From : Fc := ⟨2,
  .seq ((.reg (some [1, 2, 4]) o_steadfastref23_From_0)) (
  .seq ((.reg (some [1, 2, 4, 5]) o_steadfastref23_From_1)) (
  .seq ((.reg (some [2, 4, 5, 6, 7]) o_steadfastref23_From_2)) (
  .seq (.seq ((.reg (some [2, 4, 5, 6, 21]) o_steadfastref23_From_3)) (
  .cond (.t 21) (
    .seq ((.reg (some [4]) o_steadfastref23_From_4)) (
    .ret)) (
    .skip))) (
  .seq ((.reg (some [2, 4, 5]) o_steadfastref23_From_5)) (
  .seq (.seq ((.reg (some [2, 4, 5, 8]) o_steadfastref23_From_6)) (
  .block 0 (
    .loop [2, 4, 5, 8] b_steadfastref23_From_0))) (
  .seq ((.reg (some [4]) o_steadfastref23_From_18)) (
  .ret))))))),
  [.cell 4 32]⟩
def o_reach_Of_0 : List Ab.Op := [
  ⟨some 2, none, .box false (.t 0)⟩,
  ⟨some 4, none, .alloc false (.agg 32 (List.replicate 49 (.bool false)))⟩]
def o_reach_Of_1 : List Ab.Op := [
  ⟨some 5, none, .alloc false (.agg 32 (List.replicate 49 (.bool false)))⟩]
def o_reach_Of_2 : List Ab.Op := [
  ⟨some 11, none, .mv (.t 1)⟩,
  ⟨some 12, none, .bin .lss (.t 11) (.k (.int .i64 0))⟩,
  ⟨some 13, none, .mv (.t 12)⟩,
  ⟨some 14, some (13, false), .mv (.t 1)⟩,
  ⟨some 15, some (13, false), .bin .geq (.t 14) (.k (.int .i64 49))⟩,
  ⟨some 16, none, .pick (.t 13) (.k (.bool true)) (.t 15)⟩,
  ⟨some 17, none, .mv (.t 16)⟩,
  ⟨some 18, some (17, false), .mv (.t 1)⟩,
  ⟨some 19, some (17, false), .iad 30 49 26 (.t 2) (.t 18)⟩,
  ⟨some 20, some (17, false), .fad 26 0 10 (.t 19)⟩,
  ⟨some 21, some (17, false), .ld 10 (.t 20)⟩,
  ⟨some 22, some (17, false), .bin .neq (.t 21) (.k (.int .i64 3))⟩,
  ⟨some 23, none, .pick (.t 17) (.k (.bool true)) (.t 22)⟩]
def o_reach_Of_3 : List Ab.Op := [
  ⟨some 24, none, .ld 32 (.t 5)⟩,
  ⟨none, none, .st 32 (.t 4) (.t 24)⟩]
def o_reach_Of_4 : List Ab.Op := [
  ⟨some 26, none, .mv (.t 1)⟩,
  ⟨some 27, none, .iad 30 49 26 (.t 2) (.t 26)⟩,
  ⟨some 28, none, .fad 26 2 24 (.t 27)⟩,
  ⟨some 29, none, .ld 24 (.t 28)⟩,
  ⟨some 30, none, .call (.k (.fn f_regs_Of [])) [(.t 29)]⟩,
  ⟨some 25, none, .mv (.t 30)⟩,
  ⟨some 31, none, .ext (.t 25) 0⟩,
  ⟨some 32, none, .ext (.t 25) 1⟩,
  ⟨some 6, none, .alloc false (.agg 64 [(.int .i64 0), (.agg 62 (List.replicate 4 (.int .u64 0))), (.int .u64 0), (.int .u64 0), (.int .i64 0), (.int .i64 0), (.int .i64 0), (.int .i64 0)])⟩,
  ⟨none, none, .st 64 (.t 6) (.t 31)⟩,
  ⟨some 7, none, .mv (.t 32)⟩]
def o_reach_Of_5 : List Ab.Op := [
  ⟨some 33, none, .mv (.t 7)⟩,
  ⟨some 34, none, .un .not (.t 33)⟩]
def o_reach_Of_6 : List Ab.Op := [
  ⟨some 35, none, .ld 32 (.t 5)⟩,
  ⟨none, none, .st 32 (.t 4) (.t 35)⟩]
def o_reach_Of_7 : List Ab.Op := [
  ⟨some 36, none, .ld 30 (.t 2)⟩,
  ⟨some 37, none, .fad 64 2 18 (.t 6)⟩,
  ⟨some 38, none, .ld 18 (.t 37)⟩,
  ⟨some 39, none, .pcall (.k (.fn f_reach_From [])) [(.t 36), (.t 38)]⟩,
  ⟨some 40, none, .ld 30 (.t 2)⟩,
  ⟨some 41, none, .fad 64 3 18 (.t 6)⟩,
  ⟨some 42, none, .ld 18 (.t 41)⟩,
  ⟨some 43, none, .pcall (.k (.fn f_reach_From [])) [(.t 40), (.t 42)]⟩,
  ⟨some 8, none, .alloc false (.agg 32 (List.replicate 49 (.bool false)))⟩,
  ⟨some 9, none, .alloc false (.agg 32 (List.replicate 49 (.bool false)))⟩,
  ⟨none, none, .st 32 (.t 8) (.t 39)⟩,
  ⟨none, none, .st 32 (.t 9) (.t 43)⟩]
def o_reach_Of_8 : List Ab.Op := [
  ⟨some 44, none, .mv (.k (.int .i64 0))⟩]
def o_reach_Of_9 : List Ab.Op := [
  ⟨some 45, none, .bin .lss (.t 44) (.k (.int .i64 49))⟩]
def o_reach_Of_10 : List Ab.Op := [
  ⟨some 46, none, .mv (.t 44)⟩,
  ⟨some 10, none, .mv (.t 46)⟩]
def o_reach_Of_11 : List Ab.Op := [
  ⟨some 47, none, .mv (.t 10)⟩,
  ⟨some 48, none, .mv (.t 10)⟩,
  ⟨some 49, none, .iad 32 49 0 (.t 8) (.t 48)⟩,
  ⟨some 50, none, .ld 0 (.t 49)⟩,
  ⟨some 51, none, .mv (.t 50)⟩,
  ⟨some 52, some (51, false), .mv (.t 10)⟩,
  ⟨some 53, some (51, false), .iad 32 49 0 (.t 9) (.t 52)⟩,
  ⟨some 54, some (51, false), .ld 0 (.t 53)⟩,
  ⟨some 55, none, .pick (.t 51) (.k (.bool true)) (.t 54)⟩,
  ⟨some 56, none, .iad 32 49 0 (.t 5) (.t 47)⟩,
  ⟨none, none, .st 0 (.t 56) (.t 55)⟩]
def o_reach_Of_12 : List Ab.Op := [
  ⟨some 57, none, .bin .add (.t 44) (.k (.int .i64 1))⟩,
  ⟨some 44, none, .mv (.t 57)⟩]
def o_reach_Of_13 : List Ab.Op := [
  ⟨some 58, none, .ld 32 (.t 5)⟩,
  ⟨none, none, .st 32 (.t 4) (.t 58)⟩]
def b_reach_Of_0 : C :=
    .seq ((.reg (some [4, 5, 8, 9, 44, 45]) o_reach_Of_9)) (
    .seq (.cond (.t 45) (
      .skip) (
      .exit 0)) (
    .seq (.block 1 (
      .seq ((.reg (some [4, 5, 8, 9, 10, 44]) o_reach_Of_10)) (
      (.reg (some [4, 5, 8, 9, 44]) o_reach_Of_11)))) (
    (.reg (some [4, 5, 8, 9, 44]) o_reach_Of_12))))
/-- steadfast/reach.Of -/
@[go_sem] def fc_reach_Of : Fc := ⟨2,
  .seq ((.reg (some [1, 2, 4]) o_reach_Of_0)) (
  .seq ((.reg (some [1, 2, 4, 5]) o_reach_Of_1)) (
  .seq (.seq ((.reg (some [1, 2, 4, 5, 23]) o_reach_Of_2)) (
  .cond (.t 23) (
    .seq ((.reg (some [4]) o_reach_Of_3)) (
    .ret)) (
    .skip))) (
  .seq ((.reg (some [2, 4, 5, 6, 7]) o_reach_Of_4)) (
  .seq (.seq ((.reg (some [2, 4, 5, 6, 34]) o_reach_Of_5)) (
  .cond (.t 34) (
    .seq ((.reg (some [4]) o_reach_Of_6)) (
    .ret)) (
    .skip))) (
  .seq ((.regd (some [4, 5, 8, 9]) o_reach_Of_7)) (
  .seq (.seq ((.reg (some [4, 5, 8, 9, 44]) o_reach_Of_8)) (
  .block 0 (
    .loop [4, 5, 8, 9, 44] b_reach_Of_0))) (
  .seq ((.reg (some [4]) o_reach_Of_13)) (
  .ret)))))))),
  [.cell 4 32]⟩
def o_steadfastref23_Of_0 : List Ab.Op := [
  ⟨some 2, none, .box false (.t 0)⟩,
  ⟨some 4, none, .alloc false (.agg 32 (List.replicate 49 (.bool false)))⟩]
def o_steadfastref23_Of_1 : List Ab.Op := [
  ⟨some 11, none, .bld (.agg 32 (List.replicate 49 (.bool false))) []⟩,
  ⟨some 5, none, .alloc false (.agg 32 (List.replicate 49 (.bool false)))⟩,
  ⟨none, none, .st 32 (.t 5) (.t 11)⟩]
def o_steadfastref23_Of_2 : List Ab.Op := [
  ⟨some 12, none, .mv (.t 1)⟩,
  ⟨some 13, none, .bin .lss (.t 12) (.k (.int .i64 0))⟩,
  ⟨some 14, none, .mv (.t 13)⟩,
  ⟨some 15, some (14, false), .mv (.t 1)⟩,
  ⟨some 16, some (14, false), .bin .geq (.t 15) (.k (.int .i64 49))⟩,
  ⟨some 17, none, .pick (.t 14) (.k (.bool true)) (.t 16)⟩,
  ⟨some 18, none, .mv (.t 17)⟩,
  ⟨some 19, some (18, false), .mv (.t 1)⟩,
  ⟨some 20, some (18, false), .iad 30 49 26 (.t 2) (.t 19)⟩,
  ⟨some 21, some (18, false), .fad 26 0 10 (.t 20)⟩,
  ⟨some 22, some (18, false), .ld 10 (.t 21)⟩,
  ⟨some 23, some (18, false), .bin .neq (.t 22) (.k (.int .i64 3))⟩,
  ⟨some 24, none, .pick (.t 18) (.k (.bool true)) (.t 23)⟩]
def o_steadfastref23_Of_3 : List Ab.Op := [
  ⟨some 25, none, .ld 32 (.t 5)⟩,
  ⟨none, none, .st 32 (.t 4) (.t 25)⟩]
def o_steadfastref23_Of_4 : List Ab.Op := [
  ⟨some 27, none, .mv (.t 1)⟩,
  ⟨some 28, none, .iad 30 49 26 (.t 2) (.t 27)⟩,
  ⟨some 29, none, .fad 26 2 24 (.t 28)⟩,
  ⟨some 30, none, .ld 24 (.t 29)⟩,
  ⟨some 31, none, .call (.k (.fn f_steadfastref14_Of [])) [(.t 30)]⟩,
  ⟨some 26, none, .mv (.t 31)⟩,
  ⟨some 32, none, .ext (.t 26) 0⟩,
  ⟨some 33, none, .ext (.t 26) 1⟩,
  ⟨some 6, none, .alloc false (.agg 64 [(.int .i64 0), (.agg 62 (List.replicate 4 (.int .u64 0))), (.int .u64 0), (.int .u64 0), (.int .i64 0), (.int .i64 0), (.int .i64 0), (.int .i64 0)])⟩,
  ⟨none, none, .st 64 (.t 6) (.t 32)⟩,
  ⟨some 7, none, .mv (.t 33)⟩]
def o_steadfastref23_Of_5 : List Ab.Op := [
  ⟨some 34, none, .mv (.t 7)⟩,
  ⟨some 35, none, .un .not (.t 34)⟩]
def o_steadfastref23_Of_6 : List Ab.Op := [
  ⟨some 36, none, .ld 32 (.t 5)⟩,
  ⟨none, none, .st 32 (.t 4) (.t 36)⟩]
def o_steadfastref23_Of_7 : List Ab.Op := [
  ⟨some 37, none, .ld 30 (.t 2)⟩,
  ⟨some 38, none, .fad 64 2 18 (.t 6)⟩,
  ⟨some 39, none, .ld 18 (.t 38)⟩,
  ⟨some 40, none, .call (.k (.fn f_steadfastref23_From [])) [(.t 37), (.t 39)]⟩,
  ⟨some 8, none, .alloc false (.agg 32 (List.replicate 49 (.bool false)))⟩,
  ⟨none, none, .st 32 (.t 8) (.t 40)⟩]
def o_steadfastref23_Of_8 : List Ab.Op := [
  ⟨some 41, none, .ld 30 (.t 2)⟩,
  ⟨some 42, none, .fad 64 3 18 (.t 6)⟩,
  ⟨some 43, none, .ld 18 (.t 42)⟩,
  ⟨some 44, none, .call (.k (.fn f_steadfastref23_From [])) [(.t 41), (.t 43)]⟩,
  ⟨some 9, none, .alloc false (.agg 32 (List.replicate 49 (.bool false)))⟩,
  ⟨none, none, .st 32 (.t 9) (.t 44)⟩]
def o_steadfastref23_Of_9 : List Ab.Op := [
  ⟨some 10, none, .mv (.k (.int .i64 0))⟩]
def o_steadfastref23_Of_10 : List Ab.Op := [
  ⟨some 45, none, .mv (.t 10)⟩,
  ⟨some 46, none, .bin .lss (.t 45) (.k (.int .i64 49))⟩]
def o_steadfastref23_Of_11 : List Ab.Op := [
  ⟨some 49, none, .mv (.t 10)⟩,
  ⟨some 50, none, .mv (.t 10)⟩,
  ⟨some 51, none, .iad 32 49 0 (.t 8) (.t 50)⟩,
  ⟨some 52, none, .ld 0 (.t 51)⟩,
  ⟨some 53, none, .mv (.t 52)⟩,
  ⟨some 54, some (53, false), .mv (.t 10)⟩,
  ⟨some 55, some (53, false), .iad 32 49 0 (.t 9) (.t 54)⟩,
  ⟨some 56, some (53, false), .ld 0 (.t 55)⟩,
  ⟨some 57, none, .pick (.t 53) (.k (.bool true)) (.t 56)⟩,
  ⟨some 58, none, .iad 32 49 0 (.t 8) (.t 49)⟩,
  ⟨none, none, .st 0 (.t 58) (.t 57)⟩]
def o_steadfastref23_Of_12 : List Ab.Op := [
  ⟨some 47, none, .mv (.t 10)⟩,
  ⟨some 48, none, .bin .add (.t 47) (.k (.int .i64 1))⟩,
  ⟨some 10, none, .mv (.t 48)⟩]
def o_steadfastref23_Of_13 : List Ab.Op := [
  ⟨some 59, none, .ld 32 (.t 8)⟩,
  ⟨none, none, .st 32 (.t 4) (.t 59)⟩]
def b_steadfastref23_Of_0 : C :=
    .seq (.seq ((.reg (some [4, 8, 9, 10, 46]) o_steadfastref23_Of_10)) (
    .cond (.t 46) (
      .skip) (
      .exit 0))) (
    .seq (.block 1 (
      (.reg (some [4, 8, 9, 10]) o_steadfastref23_Of_11))) (
    (.reg (some [4, 8, 9, 10]) o_steadfastref23_Of_12)))
/-- steadfast/steadfastref23.Of -/
@[go_sem] def fc_steadfastref23_Of : Fc := ⟨2,
  .seq ((.reg (some [1, 2, 4]) o_steadfastref23_Of_0)) (
  .seq ((.reg (some [1, 2, 4, 5]) o_steadfastref23_Of_1)) (
  .seq (.seq ((.reg (some [1, 2, 4, 5, 24]) o_steadfastref23_Of_2)) (
  .cond (.t 24) (
    .seq ((.reg (some [4]) o_steadfastref23_Of_3)) (
    .ret)) (
    .skip))) (
  .seq ((.reg (some [2, 4, 5, 6, 7]) o_steadfastref23_Of_4)) (
  .seq (.seq ((.reg (some [2, 4, 5, 6, 35]) o_steadfastref23_Of_5)) (
  .cond (.t 35) (
    .seq ((.reg (some [4]) o_steadfastref23_Of_6)) (
    .ret)) (
    .skip))) (
  .seq ((.reg (some [2, 4, 6, 8]) o_steadfastref23_Of_7)) (
  .seq ((.reg (some [4, 8, 9]) o_steadfastref23_Of_8)) (
  .seq (.seq ((.reg (some [4, 8, 9, 10]) o_steadfastref23_Of_9)) (
  .block 0 (
    .loop [4, 8, 9, 10] b_steadfastref23_Of_0))) (
  .seq ((.reg (some [4]) o_steadfastref23_Of_13)) (
  .ret))))))))),
  [.cell 4 32]⟩
def o_reach_Apart_0 : List Ab.Op := [
  ⟨some 3, none, .box false (.t 0)⟩,
  ⟨some 5, none, .box false (.t 2)⟩,
  ⟨some 6, none, .mv (.k (.bool false))⟩]
def o_reach_Apart_1 : List Ab.Op := [
  ⟨some 7, none, .mv (.t 1)⟩,
  ⟨some 8, none, .mkfn f_reach_Apart_1 [(.t 3), (.t 5)]⟩,
  ⟨some 9, none, .call (.k (.fn f_slices_ContainsFunc_int [])) [(.t 7), (.t 8)]⟩,
  ⟨some 10, none, .un .not (.t 9)⟩,
  ⟨some 6, none, .mv (.t 10)⟩]
/-- steadfast/reach.Apart -/
@[go_sem] def fc_reach_Apart : Fc := ⟨3,
  .seq ((.reg (some [1, 3, 5]) o_reach_Apart_0)) (
  .seq ((.reg (some [6]) o_reach_Apart_1)) (
  .ret)),
  [.t 6]⟩
def o_steadfastref23_Apart_0 : List Ab.Op := [
  ⟨some 3, none, .box false (.t 0)⟩,
  ⟨some 6, none, .mv (.k (.bool false))⟩]
def o_steadfastref23_Apart_1 : List Ab.Op := [
  ⟨some 7, none, .mv (.k (.int .i64 0))⟩]
def o_steadfastref23_Apart_2 : List Ab.Op := [
  ⟨some 12, none, .mv (.t 7)⟩,
  ⟨some 13, none, .mv (.t 1)⟩,
  ⟨some 14, none, .len false (.t 13)⟩,
  ⟨some 15, none, .bin .lss (.t 12) (.t 14)⟩]
def o_steadfastref23_Apart_3 : List Ab.Op := [
  ⟨some 18, none, .ld 30 (.t 3)⟩,
  ⟨some 19, none, .mv (.t 1)⟩,
  ⟨some 20, none, .mv (.t 7)⟩,
  ⟨some 21, none, .sad 10 (.t 19) (.t 20)⟩,
  ⟨some 22, none, .ld 10 (.t 21)⟩,
  ⟨some 23, none, .pcall (.k (.fn f_steadfastref23_Of [])) [(.t 18), (.t 22)]⟩,
  ⟨some 8, none, .alloc false (.agg 32 (List.replicate 49 (.bool false)))⟩,
  ⟨none, none, .st 32 (.t 8) (.t 23)⟩]
def o_steadfastref23_Apart_4 : List Ab.Op := [
  ⟨some 9, none, .mv (.k (.int .i64 0))⟩]
def o_steadfastref23_Apart_5 : List Ab.Op := [
  ⟨some 24, none, .mv (.t 9)⟩,
  ⟨some 25, none, .mv (.t 2)⟩,
  ⟨some 26, none, .len false (.t 25)⟩,
  ⟨some 27, none, .bin .lss (.t 24) (.t 26)⟩]
def o_steadfastref23_Apart_6 : List Ab.Op := [
  ⟨some 30, none, .ld 30 (.t 3)⟩,
  ⟨some 31, none, .mv (.t 2)⟩,
  ⟨some 32, none, .mv (.t 9)⟩,
  ⟨some 33, none, .sad 10 (.t 31) (.t 32)⟩,
  ⟨some 34, none, .ld 10 (.t 33)⟩,
  ⟨some 35, none, .pcall (.k (.fn f_steadfastref23_Of [])) [(.t 30), (.t 34)]⟩,
  ⟨some 10, none, .alloc false (.agg 32 (List.replicate 49 (.bool false)))⟩,
  ⟨none, none, .st 32 (.t 10) (.t 35)⟩]
def o_steadfastref23_Apart_7 : List Ab.Op := [
  ⟨some 11, none, .mv (.k (.int .i64 0))⟩]
def o_steadfastref23_Apart_8 : List Ab.Op := [
  ⟨some 36, none, .mv (.t 11)⟩,
  ⟨some 37, none, .bin .lss (.t 36) (.k (.int .i64 49))⟩]
def o_steadfastref23_Apart_9 : List Ab.Op := [
  ⟨some 40, none, .mv (.t 11)⟩,
  ⟨some 41, none, .iad 32 49 0 (.t 8) (.t 40)⟩,
  ⟨some 42, none, .ld 0 (.t 41)⟩,
  ⟨some 43, none, .mv (.t 42)⟩,
  ⟨some 44, some (43, true), .mv (.t 11)⟩,
  ⟨some 45, some (43, true), .iad 32 49 0 (.t 10) (.t 44)⟩,
  ⟨some 46, some (43, true), .ld 0 (.t 45)⟩,
  ⟨some 47, none, .pick (.t 43) (.t 46) (.k (.bool false))⟩,
  ⟨some 48, none, .mv (.t 47)⟩,
  ⟨some 49, some (48, false), .mv (.t 11)⟩,
  ⟨some 50, some (48, false), .iad 32 49 0 (.t 8) (.t 49)⟩,
  ⟨some 51, some (48, false), .ld 0 (.t 50)⟩,
  ⟨some 52, some (48, false), .mv (.t 51)⟩,
  ⟨some 53, some (52, true), .mv (.t 11)⟩,
  ⟨some 54, some (52, true), .mv (.t 2)⟩,
  ⟨some 55, some (52, true), .mv (.t 9)⟩,
  ⟨some 56, some (52, true), .sad 10 (.t 54) (.t 55)⟩,
  ⟨some 57, some (52, true), .ld 10 (.t 56)⟩,
  ⟨some 58, some (52, true), .bin .eql (.t 53) (.t 57)⟩,
  ⟨some 59, some (48, false), .pick (.t 52) (.t 58) (.k (.bool false))⟩,
  ⟨some 60, none, .pick (.t 48) (.k (.bool true)) (.t 59)⟩,
  ⟨some 61, none, .mv (.t 60)⟩,
  ⟨some 62, some (61, false), .mv (.t 11)⟩,
  ⟨some 63, some (61, false), .iad 32 49 0 (.t 10) (.t 62)⟩,
  ⟨some 64, some (61, false), .ld 0 (.t 63)⟩,
  ⟨some 65, some (61, false), .mv (.t 64)⟩,
  ⟨some 66, some (65, true), .mv (.t 11)⟩,
  ⟨some 67, some (65, true), .mv (.t 1)⟩,
  ⟨some 68, some (65, true), .mv (.t 7)⟩,
  ⟨some 69, some (65, true), .sad 10 (.t 67) (.t 68)⟩,
  ⟨some 70, some (65, true), .ld 10 (.t 69)⟩,
  ⟨some 71, some (65, true), .bin .eql (.t 66) (.t 70)⟩,
  ⟨some 72, some (61, false), .pick (.t 65) (.t 71) (.k (.bool false))⟩,
  ⟨some 73, none, .pick (.t 61) (.k (.bool true)) (.t 72)⟩]
def o_steadfastref23_Apart_10 : List Ab.Op := [
  ⟨some 6, none, .mv (.k (.bool false))⟩]
def o_steadfastref23_Apart_11 : List Ab.Op := [
  ⟨some 38, none, .mv (.t 11)⟩,
  ⟨some 39, none, .bin .add (.t 38) (.k (.int .i64 1))⟩,
  ⟨some 11, none, .mv (.t 39)⟩]
def o_steadfastref23_Apart_12 : List Ab.Op := [
  ⟨some 28, none, .mv (.t 9)⟩,
  ⟨some 29, none, .bin .add (.t 28) (.k (.int .i64 1))⟩,
  ⟨some 9, none, .mv (.t 29)⟩]
def o_steadfastref23_Apart_13 : List Ab.Op := [
  ⟨some 16, none, .mv (.t 7)⟩,
  ⟨some 17, none, .bin .add (.t 16) (.k (.int .i64 1))⟩,
  ⟨some 7, none, .mv (.t 17)⟩]
def o_steadfastref23_Apart_14 : List Ab.Op := [
  ⟨some 6, none, .mv (.k (.bool true))⟩]
def b_steadfastref23_Apart_2 : C :=
    .seq (.seq ((.reg (some [1, 2, 3, 7, 8, 9, 10, 11, 37]) o_steadfastref23_Apart_8)) (
    .cond (.t 37) (
      .skip) (
      .exit 4))) (
    .seq (.block 5 (
      .seq ((.reg (some [1, 2, 3, 7, 8, 9, 10, 11, 73]) o_steadfastref23_Apart_9)) (
      .cond (.t 73) (
        .seq ((.reg (some [6]) o_steadfastref23_Apart_10)) (
        .ret)) (
        .skip)))) (
    (.reg (some [1, 2, 3, 7, 8, 9, 10, 11]) o_steadfastref23_Apart_11)))
def b_steadfastref23_Apart_1 : C :=
    .seq (.seq ((.reg (some [1, 2, 3, 7, 8, 9, 27]) o_steadfastref23_Apart_5)) (
    .cond (.t 27) (
      .skip) (
      .exit 2))) (
    .seq (.block 3 (
      .seq ((.regd (some [1, 2, 3, 7, 8, 9, 10]) o_steadfastref23_Apart_6)) (
      .seq ((.reg (some [1, 2, 3, 7, 8, 9, 10, 11]) o_steadfastref23_Apart_7)) (
      .block 4 (
        .loop [1, 2, 3, 7, 8, 9, 10, 11] b_steadfastref23_Apart_2))))) (
    (.reg (some [1, 2, 3, 7, 8, 9]) o_steadfastref23_Apart_12)))
def b_steadfastref23_Apart_0 : C :=
    .seq (.seq ((.reg (some [1, 2, 3, 7, 15]) o_steadfastref23_Apart_2)) (
    .cond (.t 15) (
      .skip) (
      .exit 0))) (
    .seq (.block 1 (
      .seq ((.regd (some [1, 2, 3, 7, 8]) o_steadfastref23_Apart_3)) (
      .seq ((.reg (some [1, 2, 3, 7, 8, 9]) o_steadfastref23_Apart_4)) (
      .block 2 (
        .loop [1, 2, 3, 7, 8, 9] b_steadfastref23_Apart_1))))) (
    (.reg (some [1, 2, 3, 7]) o_steadfastref23_Apart_13)))
/-- steadfast/steadfastref23.Apart -/
@[go_sem] def fc_steadfastref23_Apart : Fc := ⟨3,
  .seq ((.reg (some [1, 2, 3]) o_steadfastref23_Apart_0)) (
  .seq (.seq ((.reg (some [1, 2, 3, 7]) o_steadfastref23_Apart_1)) (
  .block 0 (
    .loop [1, 2, 3, 7] b_steadfastref23_Apart_0))) (
  .seq ((.reg (some [6]) o_steadfastref23_Apart_14)) (
  .ret))),
  [.t 6]⟩
def o_reach_Holds_0 : List Ab.Op := [
  ⟨some 2, none, .box false (.t 0)⟩,
  ⟨some 3, none, .box false (.t 1)⟩,
  ⟨some 4, none, .mv (.k (.bool false))⟩]
def o_reach_Holds_1 : List Ab.Op := [
  ⟨some 5, none, .slarr 30 49 26 (.t 2) none none none⟩,
  ⟨some 6, none, .mkfn f_reach_Holds_1 [(.t 3)]⟩,
  ⟨some 7, none, .call (.k (.fn f_slices_ContainsFunc_api_Object [])) [(.t 5), (.t 6)]⟩,
  ⟨some 4, none, .mv (.t 7)⟩]
/-- steadfast/reach.Holds -/
@[go_sem] def fc_reach_Holds : Fc := ⟨2,
  .seq ((.reg (some [2, 3]) o_reach_Holds_0)) (
  .seq ((.reg (some [4]) o_reach_Holds_1)) (
  .ret)),
  [.t 4]⟩
def o_steadfastref23_Holds_0 : List Ab.Op := [
  ⟨some 2, none, .box false (.t 0)⟩,
  ⟨some 4, none, .mv (.k (.bool false))⟩]
def o_steadfastref23_Holds_1 : List Ab.Op := [
  ⟨some 5, none, .mv (.k (.int .i64 0))⟩]
def o_steadfastref23_Holds_2 : List Ab.Op := [
  ⟨some 9, none, .mv (.t 5)⟩,
  ⟨some 10, none, .bin .lss (.t 9) (.k (.int .i64 49))⟩]
def o_steadfastref23_Holds_3 : List Ab.Op := [
  ⟨some 6, none, .mv (.k (.int .i64 0))⟩]
def o_steadfastref23_Holds_4 : List Ab.Op := [
  ⟨some 13, none, .mv (.t 6)⟩,
  ⟨some 14, none, .bin .lss (.t 13) (.k (.int .i64 8))⟩]
def o_steadfastref23_Holds_5 : List Ab.Op := [
  ⟨some 18, none, .mv (.t 5)⟩,
  ⟨some 19, none, .mv (.t 6)⟩,
  ⟨some 20, none, .iad 30 49 26 (.t 2) (.t 18)⟩,
  ⟨some 21, none, .fad 26 2 24 (.t 20)⟩,
  ⟨some 22, none, .iad 24 8 18 (.t 21) (.t 19)⟩,
  ⟨some 23, none, .ld 18 (.t 22)⟩,
  ⟨some 24, none, .call (.k (.fn f_steadfastref07_Of [])) [(.t 23)]⟩,
  ⟨some 17, none, .mv (.t 24)⟩,
  ⟨some 25, none, .ext (.t 17) 0⟩,
  ⟨some 26, none, .ext (.t 17) 1⟩,
  ⟨some 7, none, .alloc false (.agg 40 [(.int .i64 0), (.int .i64 0), (.int .i64 0), (.int .i64 0), (.int .i64 0)])⟩,
  ⟨none, none, .st 40 (.t 7) (.t 25)⟩,
  ⟨some 8, none, .mv (.t 26)⟩]
def o_steadfastref23_Holds_6 : List Ab.Op := [
  ⟨some 27, none, .mv (.t 5)⟩,
  ⟨some 28, none, .iad 30 49 26 (.t 2) (.t 27)⟩,
  ⟨some 29, none, .fad 26 0 10 (.t 28)⟩,
  ⟨some 30, none, .ld 10 (.t 29)⟩,
  ⟨some 31, none, .bin .eql (.t 30) (.k (.int .i64 2))⟩,
  ⟨some 32, none, .mv (.t 31)⟩,
  ⟨some 33, some (32, true), .mv (.t 8)⟩,
  ⟨some 34, none, .pick (.t 32) (.t 33) (.k (.bool false))⟩,
  ⟨some 35, none, .mv (.t 34)⟩,
  ⟨some 36, some (35, true), .fad 40 0 10 (.t 7)⟩,
  ⟨some 37, some (35, true), .ld 10 (.t 36)⟩,
  ⟨some 38, some (35, true), .mv (.t 1)⟩,
  ⟨some 39, some (35, true), .bin .eql (.t 37) (.t 38)⟩,
  ⟨some 40, none, .pick (.t 35) (.t 39) (.k (.bool false))⟩]
def o_steadfastref23_Holds_7 : List Ab.Op := [
  ⟨some 4, none, .mv (.k (.bool true))⟩]
def o_steadfastref23_Holds_8 : List Ab.Op := [
  ⟨some 15, none, .mv (.t 6)⟩,
  ⟨some 16, none, .bin .add (.t 15) (.k (.int .i64 1))⟩,
  ⟨some 6, none, .mv (.t 16)⟩]
def o_steadfastref23_Holds_9 : List Ab.Op := [
  ⟨some 11, none, .mv (.t 5)⟩,
  ⟨some 12, none, .bin .add (.t 11) (.k (.int .i64 1))⟩,
  ⟨some 5, none, .mv (.t 12)⟩]
def o_steadfastref23_Holds_10 : List Ab.Op := [
  ⟨some 4, none, .mv (.k (.bool false))⟩]
def b_steadfastref23_Holds_1 : C :=
    .seq (.seq ((.reg (some [1, 2, 5, 6, 14]) o_steadfastref23_Holds_4)) (
    .cond (.t 14) (
      .skip) (
      .exit 2))) (
    .seq (.block 3 (
      .seq ((.reg (some [1, 2, 5, 6, 7, 8]) o_steadfastref23_Holds_5)) (
      .seq ((.reg (some [1, 2, 5, 6, 40]) o_steadfastref23_Holds_6)) (
      .cond (.t 40) (
        .seq ((.reg (some [4]) o_steadfastref23_Holds_7)) (
        .ret)) (
        .skip))))) (
    (.reg (some [1, 2, 5, 6]) o_steadfastref23_Holds_8)))
def b_steadfastref23_Holds_0 : C :=
    .seq (.seq ((.reg (some [1, 2, 5, 10]) o_steadfastref23_Holds_2)) (
    .cond (.t 10) (
      .skip) (
      .exit 0))) (
    .seq (.block 1 (
      .seq ((.reg (some [1, 2, 5, 6]) o_steadfastref23_Holds_3)) (
      .block 2 (
        .loop [1, 2, 5, 6] b_steadfastref23_Holds_1)))) (
    (.reg (some [1, 2, 5]) o_steadfastref23_Holds_9)))
/-- steadfast/steadfastref23.Holds -/
@[go_sem] def fc_steadfastref23_Holds : Fc := ⟨2,
  .seq ((.reg (some [1, 2]) o_steadfastref23_Holds_0)) (
  .seq (.seq ((.reg (some [1, 2, 5]) o_steadfastref23_Holds_1)) (
  .block 0 (
    .loop [1, 2, 5] b_steadfastref23_Holds_0))) (
  .seq ((.reg (some [4]) o_steadfastref23_Holds_10)) (
  .ret))),
  [.t 4]⟩
def o_caps_Word_0 : List Ab.Op := [
  ⟨some 1, none, .box false (.t 0)⟩,
  ⟨some 2, none, .mv (.k (.int .u64 0))⟩,
  ⟨some 3, none, .mv (.k (.int .i64 0))⟩]
def o_caps_Word_1 : List Ab.Op := [
  ⟨some 4, none, .ld 40 (.t 1)⟩,
  ⟨some 5, none, .call (.k (.fn f_caps_may [])) [(.t 4)]⟩,
  ⟨some 6, none, .un .not (.t 5)⟩]
def o_caps_Word_2 : List Ab.Op := [
  ⟨some 2, none, .mv (.k (.int .u64 0))⟩,
  ⟨some 3, none, .mv (.k (.int .i64 1))⟩]
def o_caps_Word_3 : List Ab.Op := [
  ⟨some 7, none, .fad 40 0 10 (.t 1)⟩,
  ⟨some 8, none, .ld 10 (.t 7)⟩,
  ⟨some 9, none, .conv .u64 (.t 8)⟩,
  ⟨some 10, none, .fad 40 1 10 (.t 1)⟩,
  ⟨some 11, none, .ld 10 (.t 10)⟩,
  ⟨some 12, none, .conv .u64 (.t 11)⟩,
  ⟨some 13, none, .bin .shl (.t 12) (.k (.int .u64 4))⟩,
  ⟨some 14, none, .bin .or (.t 9) (.t 13)⟩,
  ⟨some 15, none, .fad 40 2 10 (.t 1)⟩,
  ⟨some 16, none, .ld 10 (.t 15)⟩,
  ⟨some 17, none, .conv .u64 (.t 16)⟩,
  ⟨some 18, none, .bin .shl (.t 17) (.k (.int .u64 8))⟩,
  ⟨some 19, none, .bin .or (.t 14) (.t 18)⟩,
  ⟨some 20, none, .fad 40 3 10 (.t 1)⟩,
  ⟨some 21, none, .ld 10 (.t 20)⟩,
  ⟨some 22, none, .conv .u64 (.t 21)⟩,
  ⟨some 23, none, .bin .shl (.t 22) (.k (.int .u64 24))⟩,
  ⟨some 24, none, .bin .or (.t 19) (.t 23)⟩,
  ⟨some 25, none, .fad 40 4 10 (.t 1)⟩,
  ⟨some 26, none, .ld 10 (.t 25)⟩,
  ⟨some 27, none, .conv .u64 (.t 26)⟩,
  ⟨some 28, none, .bin .shl (.t 27) (.k (.int .u64 48))⟩,
  ⟨some 29, none, .bin .or (.t 24) (.t 28)⟩,
  ⟨some 2, none, .mv (.t 29)⟩,
  ⟨some 3, none, .mv (.k (.int .i64 0))⟩]
/-- steadfast/caps.Word -/
@[go_sem] def fc_caps_Word : Fc := ⟨1,
  .seq ((.reg (some [1]) o_caps_Word_0)) (
  .seq (.seq ((.reg (some [1, 6]) o_caps_Word_1)) (
  .cond (.t 6) (
    .seq ((.reg (some [2, 3]) o_caps_Word_2)) (
    .ret)) (
    .skip))) (
  .seq ((.reg (some [2, 3]) o_caps_Word_3)) (
  .ret))),
  [.t 2, .t 3]⟩
def o_caps_Of_0 : List Ab.Op := [
  ⟨some 2, none, .alloc false (.agg 40 [(.int .i64 0), (.int .i64 0), (.int .i64 0), (.int .i64 0), (.int .i64 0)])⟩,
  ⟨some 3, none, .mv (.k (.bool false))⟩]
def o_caps_Of_1 : List Ab.Op := [
  ⟨some 5, none, .mv (.t 0)⟩,
  ⟨some 6, none, .bin .and (.t 5) (.k (.int .u64 15))⟩,
  ⟨some 7, none, .conv .i64 (.t 6)⟩,
  ⟨some 8, none, .mv (.t 0)⟩,
  ⟨some 9, none, .bin .shr (.t 8) (.k (.int .u64 4))⟩,
  ⟨some 10, none, .bin .and (.t 9) (.k (.int .u64 15))⟩,
  ⟨some 11, none, .conv .i64 (.t 10)⟩,
  ⟨some 12, none, .mv (.t 0)⟩,
  ⟨some 13, none, .bin .shr (.t 12) (.k (.int .u64 8))⟩,
  ⟨some 14, none, .bin .and (.t 13) (.k (.int .u64 65535))⟩,
  ⟨some 15, none, .conv .i64 (.t 14)⟩,
  ⟨some 16, none, .mv (.t 0)⟩,
  ⟨some 17, none, .bin .shr (.t 16) (.k (.int .u64 24))⟩,
  ⟨some 18, none, .bin .and (.t 17) (.k (.int .u64 16777215))⟩,
  ⟨some 19, none, .conv .i64 (.t 18)⟩,
  ⟨some 20, none, .mv (.t 0)⟩,
  ⟨some 21, none, .bin .shr (.t 20) (.k (.int .u64 48))⟩,
  ⟨some 22, none, .conv .i64 (.t 21)⟩,
  ⟨some 23, none, .bld (.agg 40 [(.int .i64 0), (.int .i64 0), (.int .i64 0), (.int .i64 0), (.int .i64 0)]) [(0, (.t 7)), (1, (.t 11)), (2, (.t 15)), (3, (.t 19)), (4, (.t 22))]⟩,
  ⟨some 4, none, .alloc false (.agg 40 [(.int .i64 0), (.int .i64 0), (.int .i64 0), (.int .i64 0), (.int .i64 0)])⟩,
  ⟨none, none, .st 40 (.t 4) (.t 23)⟩]
def o_caps_Of_2 : List Ab.Op := [
  ⟨some 24, none, .ld 40 (.t 4)⟩,
  ⟨some 25, none, .call (.k (.fn f_caps_may [])) [(.t 24)]⟩,
  ⟨some 26, none, .un .not (.t 25)⟩]
def o_caps_Of_3 : List Ab.Op := [
  ⟨some 27, none, .bld (.agg 40 [(.int .i64 0), (.int .i64 0), (.int .i64 0), (.int .i64 0), (.int .i64 0)]) []⟩,
  ⟨none, none, .st 40 (.t 2) (.t 27)⟩,
  ⟨some 3, none, .mv (.k (.bool false))⟩]
def o_caps_Of_4 : List Ab.Op := [
  ⟨some 28, none, .ld 40 (.t 4)⟩,
  ⟨none, none, .st 40 (.t 2) (.t 28)⟩,
  ⟨some 3, none, .mv (.k (.bool true))⟩]
/-- steadfast/caps.Of -/
@[go_sem] def fc_caps_Of : Fc := ⟨1,
  .seq ((.reg (some [0, 2]) o_caps_Of_0)) (
  .seq ((.reg (some [2, 4]) o_caps_Of_1)) (
  .seq (.seq ((.reg (some [2, 4, 26]) o_caps_Of_2)) (
  .cond (.t 26) (
    .seq ((.reg (some [2, 3]) o_caps_Of_3)) (
    .ret)) (
    .skip))) (
  .seq ((.reg (some [2, 3]) o_caps_Of_4)) (
  .ret)))),
  [.cell 2 40, .t 3]⟩
def o_steadfastref07_Word_0 : List Ab.Op := [
  ⟨some 1, none, .box false (.t 0)⟩,
  ⟨some 2, none, .mv (.k (.int .u64 0))⟩,
  ⟨some 3, none, .mv (.k (.int .i64 0))⟩]
def o_steadfastref07_Word_1 : List Ab.Op := [
  ⟨some 6, none, .fad 40 0 10 (.t 1)⟩,
  ⟨some 7, none, .ld 10 (.t 6)⟩,
  ⟨some 8, none, .bin .lss (.t 7) (.k (.int .i64 1))⟩,
  ⟨some 9, none, .mv (.t 8)⟩,
  ⟨some 10, some (9, false), .fad 40 0 10 (.t 1)⟩,
  ⟨some 11, some (9, false), .ld 10 (.t 10)⟩,
  ⟨some 12, some (9, false), .bin .gtr (.t 11) (.k (.int .i64 6))⟩,
  ⟨some 13, none, .pick (.t 9) (.k (.bool true)) (.t 12)⟩,
  ⟨some 14, none, .mv (.t 13)⟩,
  ⟨some 15, some (14, false), .fad 40 1 10 (.t 1)⟩,
  ⟨some 16, some (14, false), .ld 10 (.t 15)⟩,
  ⟨some 17, some (14, false), .bin .lss (.t 16) (.k (.int .i64 0))⟩,
  ⟨some 18, none, .pick (.t 14) (.k (.bool true)) (.t 17)⟩,
  ⟨some 19, none, .mv (.t 18)⟩,
  ⟨some 20, some (19, false), .fad 40 1 10 (.t 1)⟩,
  ⟨some 21, some (19, false), .ld 10 (.t 20)⟩,
  ⟨some 22, some (19, false), .bin .gtr (.t 21) (.k (.int .i64 15))⟩,
  ⟨some 23, none, .pick (.t 19) (.k (.bool true)) (.t 22)⟩,
  ⟨some 24, none, .mv (.t 23)⟩,
  ⟨some 25, some (24, false), .fad 40 2 10 (.t 1)⟩,
  ⟨some 26, some (24, false), .ld 10 (.t 25)⟩,
  ⟨some 27, some (24, false), .bin .lss (.t 26) (.k (.int .i64 0))⟩,
  ⟨some 28, none, .pick (.t 24) (.k (.bool true)) (.t 27)⟩,
  ⟨some 29, none, .mv (.t 28)⟩,
  ⟨some 30, some (29, false), .fad 40 2 10 (.t 1)⟩,
  ⟨some 31, some (29, false), .ld 10 (.t 30)⟩,
  ⟨some 32, some (29, false), .bin .geq (.t 31) (.k (.int .i64 49))⟩,
  ⟨some 33, none, .pick (.t 29) (.k (.bool true)) (.t 32)⟩,
  ⟨some 34, none, .mv (.t 33)⟩,
  ⟨some 35, some (34, false), .fad 40 3 10 (.t 1)⟩,
  ⟨some 36, some (34, false), .ld 10 (.t 35)⟩,
  ⟨some 37, some (34, false), .bin .lss (.t 36) (.k (.int .i64 0))⟩,
  ⟨some 38, none, .pick (.t 34) (.k (.bool true)) (.t 37)⟩,
  ⟨some 39, none, .mv (.t 38)⟩,
  ⟨some 40, some (39, false), .fad 40 3 10 (.t 1)⟩,
  ⟨some 41, some (39, false), .ld 10 (.t 40)⟩,
  ⟨some 42, some (39, false), .bin .gtr (.t 41) (.k (.int .i64 16777215))⟩,
  ⟨some 43, none, .pick (.t 39) (.k (.bool true)) (.t 42)⟩,
  ⟨some 44, none, .mv (.t 43)⟩,
  ⟨some 45, some (44, false), .fad 40 4 10 (.t 1)⟩,
  ⟨some 46, some (44, false), .ld 10 (.t 45)⟩,
  ⟨some 47, some (44, false), .bin .lss (.t 46) (.k (.int .i64 0))⟩,
  ⟨some 48, none, .pick (.t 44) (.k (.bool true)) (.t 47)⟩,
  ⟨some 49, none, .mv (.t 48)⟩,
  ⟨some 50, some (49, false), .fad 40 4 10 (.t 1)⟩,
  ⟨some 51, some (49, false), .ld 10 (.t 50)⟩,
  ⟨some 52, some (49, false), .bin .gtr (.t 51) (.k (.int .i64 65535))⟩,
  ⟨some 53, none, .pick (.t 49) (.k (.bool true)) (.t 52)⟩]
def o_steadfastref07_Word_2 : List Ab.Op := [
  ⟨some 2, none, .mv (.k (.int .u64 0))⟩,
  ⟨some 3, none, .mv (.k (.int .i64 1))⟩]
def o_steadfastref07_Word_3 : List Ab.Op := [
  ⟨some 54, none, .fad 40 0 10 (.t 1)⟩,
  ⟨some 55, none, .ld 10 (.t 54)⟩,
  ⟨some 56, none, .bin .eql (.t 55) (.k (.int .i64 5))⟩,
  ⟨some 57, none, .mv (.t 56)⟩,
  ⟨some 58, some (57, false), .fad 40 0 10 (.t 1)⟩,
  ⟨some 59, some (57, false), .ld 10 (.t 58)⟩,
  ⟨some 60, some (57, false), .bin .eql (.t 59) (.k (.int .i64 6))⟩,
  ⟨some 61, none, .pick (.t 57) (.k (.bool true)) (.t 60)⟩,
  ⟨some 62, none, .mv (.t 61)⟩,
  ⟨some 63, some (62, true), .fad 40 2 10 (.t 1)⟩,
  ⟨some 64, some (62, true), .ld 10 (.t 63)⟩,
  ⟨some 65, some (62, true), .bin .neq (.t 64) (.k (.int .i64 0))⟩,
  ⟨some 66, some (62, true), .mv (.t 65)⟩,
  ⟨some 67, some (66, false), .fad 40 3 10 (.t 1)⟩,
  ⟨some 68, some (66, false), .ld 10 (.t 67)⟩,
  ⟨some 69, some (66, false), .bin .neq (.t 68) (.k (.int .i64 0))⟩,
  ⟨some 70, some (62, true), .pick (.t 66) (.k (.bool true)) (.t 69)⟩,
  ⟨some 71, none, .pick (.t 62) (.t 70) (.k (.bool false))⟩]
def o_steadfastref07_Word_4 : List Ab.Op := [
  ⟨some 2, none, .mv (.k (.int .u64 0))⟩,
  ⟨some 3, none, .mv (.k (.int .i64 1))⟩]
def o_steadfastref07_Word_5 : List Ab.Op := [
  ⟨some 73, none, .fad 40 0 10 (.t 1)⟩,
  ⟨some 74, none, .ld 10 (.t 73)⟩,
  ⟨some 75, none, .conv .u64 (.t 74)⟩,
  ⟨some 76, none, .call (.k (.fn f_steadfastref01_With [])) [(.k (.int .u64 0)), (.k (.int .i64 0)), (.k (.int .i64 4)), (.t 75)]⟩,
  ⟨some 72, none, .mv (.t 76)⟩,
  ⟨some 77, none, .ext (.t 72) 0⟩,
  ⟨some 78, none, .ext (.t 72) 1⟩,
  ⟨some 4, none, .mv (.t 77)⟩,
  ⟨some 5, none, .mv (.t 78)⟩]
def o_steadfastref07_Word_6 : List Ab.Op := [
  ⟨some 80, none, .mv (.t 4)⟩,
  ⟨some 81, none, .fad 40 1 10 (.t 1)⟩,
  ⟨some 82, none, .ld 10 (.t 81)⟩,
  ⟨some 83, none, .conv .u64 (.t 82)⟩,
  ⟨some 84, none, .call (.k (.fn f_steadfastref01_With [])) [(.t 80), (.k (.int .i64 4)), (.k (.int .i64 4)), (.t 83)]⟩,
  ⟨some 79, none, .mv (.t 84)⟩,
  ⟨some 85, none, .ext (.t 79) 0⟩,
  ⟨some 86, none, .ext (.t 79) 1⟩,
  ⟨some 4, none, .mv (.t 85)⟩]
def o_steadfastref07_Word_7 : List Ab.Op := [
  ⟨some 88, none, .mv (.t 4)⟩,
  ⟨some 89, none, .fad 40 2 10 (.t 1)⟩,
  ⟨some 90, none, .ld 10 (.t 89)⟩,
  ⟨some 91, none, .conv .u64 (.t 90)⟩,
  ⟨some 92, none, .call (.k (.fn f_steadfastref01_With [])) [(.t 88), (.k (.int .i64 8)), (.k (.int .i64 16)), (.t 91)]⟩,
  ⟨some 87, none, .mv (.t 92)⟩,
  ⟨some 93, none, .ext (.t 87) 0⟩,
  ⟨some 94, none, .ext (.t 87) 1⟩,
  ⟨some 4, none, .mv (.t 93)⟩]
def o_steadfastref07_Word_8 : List Ab.Op := [
  ⟨some 96, none, .mv (.t 4)⟩,
  ⟨some 97, none, .fad 40 3 10 (.t 1)⟩,
  ⟨some 98, none, .ld 10 (.t 97)⟩,
  ⟨some 99, none, .conv .u64 (.t 98)⟩,
  ⟨some 100, none, .call (.k (.fn f_steadfastref01_With [])) [(.t 96), (.k (.int .i64 24)), (.k (.int .i64 24)), (.t 99)]⟩,
  ⟨some 95, none, .mv (.t 100)⟩,
  ⟨some 101, none, .ext (.t 95) 0⟩,
  ⟨some 102, none, .ext (.t 95) 1⟩,
  ⟨some 4, none, .mv (.t 101)⟩]
def o_steadfastref07_Word_9 : List Ab.Op := [
  ⟨some 104, none, .mv (.t 4)⟩,
  ⟨some 105, none, .fad 40 4 10 (.t 1)⟩,
  ⟨some 106, none, .ld 10 (.t 105)⟩,
  ⟨some 107, none, .conv .u64 (.t 106)⟩,
  ⟨some 108, none, .call (.k (.fn f_steadfastref01_With [])) [(.t 104), (.k (.int .i64 48)), (.k (.int .i64 16)), (.t 107)]⟩,
  ⟨some 103, none, .mv (.t 108)⟩,
  ⟨some 109, none, .ext (.t 103) 0⟩,
  ⟨some 110, none, .ext (.t 103) 1⟩,
  ⟨some 4, none, .mv (.t 109)⟩]
def o_steadfastref07_Word_10 : List Ab.Op := [
  ⟨some 111, none, .mv (.t 4)⟩,
  ⟨some 2, none, .mv (.t 111)⟩,
  ⟨some 3, none, .mv (.k (.int .i64 0))⟩]
/-- steadfast/steadfastref07.Word -/
@[go_sem] def fc_steadfastref07_Word : Fc := ⟨1,
  .seq ((.reg (some [1]) o_steadfastref07_Word_0)) (
  .seq (.seq ((.reg (some [1, 53]) o_steadfastref07_Word_1)) (
  .cond (.t 53) (
    .seq ((.reg (some [2, 3]) o_steadfastref07_Word_2)) (
    .ret)) (
    .skip))) (
  .seq (.seq ((.reg (some [1, 71]) o_steadfastref07_Word_3)) (
  .cond (.t 71) (
    .seq ((.reg (some [2, 3]) o_steadfastref07_Word_4)) (
    .ret)) (
    .skip))) (
  .seq ((.reg (some [1, 4]) o_steadfastref07_Word_5)) (
  .seq ((.reg (some [1, 4]) o_steadfastref07_Word_6)) (
  .seq ((.reg (some [1, 4]) o_steadfastref07_Word_7)) (
  .seq ((.reg (some [1, 4]) o_steadfastref07_Word_8)) (
  .seq ((.reg (some [4]) o_steadfastref07_Word_9)) (
  .seq ((.reg (some [2, 3]) o_steadfastref07_Word_10)) (
  .ret))))))))),
  [.t 2, .t 3]⟩
def o_entry_Names_0 : List Ab.Op := [
  ⟨some 3, none, .box false (.t 0)⟩,
  ⟨some 6, none, .mv (.k (.int .i64 0))⟩]
def o_entry_Names_1 : List Ab.Op := [
  ⟨some 10, none, .mv (.t 2)⟩,
  ⟨some 11, none, .call (.k (.fn f_caps_Of [])) [(.t 10)]⟩,
  ⟨some 9, none, .mv (.t 11)⟩,
  ⟨some 12, none, .ext (.t 9) 0⟩,
  ⟨some 13, none, .ext (.t 9) 1⟩,
  ⟨some 7, none, .alloc false (.agg 40 [(.int .i64 0), (.int .i64 0), (.int .i64 0), (.int .i64 0), (.int .i64 0)])⟩,
  ⟨none, none, .st 40 (.t 7) (.t 12)⟩,
  ⟨some 8, none, .mv (.t 13)⟩]
def o_entry_Names_2 : List Ab.Op := [
  ⟨some 15, none, .mv (.t 8)⟩,
  ⟨some 16, none, .un .not (.t 15)⟩,
  ⟨some 14, none, .mv (.t 16)⟩]
def o_entry_Names_3 : List Ab.Op := [
  ⟨some 17, none, .fad 40 0 10 (.t 7)⟩,
  ⟨some 18, none, .ld 10 (.t 17)⟩,
  ⟨some 19, none, .bin .gtr (.t 18) (.k (.int .i64 4))⟩,
  ⟨some 14, none, .mv (.t 19)⟩]
def o_entry_Names_4 : List Ab.Op := [
  ⟨some 6, none, .mv (.k (.int .i64 31))⟩]
def o_entry_Names_5 : List Ab.Op := [
  ⟨some 21, none, .fad 40 2 10 (.t 7)⟩,
  ⟨some 22, none, .ld 10 (.t 21)⟩,
  ⟨some 23, none, .mv (.t 1)⟩,
  ⟨some 24, none, .bin .neq (.t 22) (.t 23)⟩,
  ⟨some 20, none, .mv (.t 24)⟩]
def o_entry_Names_6 : List Ab.Op := [
  ⟨some 6, none, .mv (.k (.int .i64 30))⟩]
def o_entry_Names_7 : List Ab.Op := [
  ⟨some 26, none, .fad 40 3 10 (.t 7)⟩,
  ⟨some 27, none, .ld 10 (.t 26)⟩,
  ⟨some 28, none, .fad 42 1 10 (.t 3)⟩,
  ⟨some 29, none, .ld 10 (.t 28)⟩,
  ⟨some 30, none, .bin .neq (.t 27) (.t 29)⟩,
  ⟨some 25, none, .mv (.t 30)⟩]
def o_entry_Names_8 : List Ab.Op := [
  ⟨some 6, none, .mv (.k (.int .i64 33))⟩]
def o_entry_Names_9 : List Ab.Op := [
  ⟨some 32, none, .fad 42 0 10 (.t 3)⟩,
  ⟨some 33, none, .ld 10 (.t 32)⟩,
  ⟨some 34, none, .bin .eql (.t 33) (.k (.int .i64 0))⟩,
  ⟨some 31, none, .mv (.t 34)⟩]
def o_entry_Names_10 : List Ab.Op := [
  ⟨some 6, none, .mv (.k (.int .i64 30))⟩]
def o_entry_Names_11 : List Ab.Op := [
  ⟨some 36, none, .fad 40 0 10 (.t 7)⟩,
  ⟨some 37, none, .ld 10 (.t 36)⟩,
  ⟨some 38, none, .fad 42 0 10 (.t 3)⟩,
  ⟨some 39, none, .ld 10 (.t 38)⟩,
  ⟨some 40, none, .bin .neq (.t 37) (.t 39)⟩,
  ⟨some 35, none, .mv (.t 40)⟩]
def o_entry_Names_12 : List Ab.Op := [
  ⟨some 6, none, .mv (.k (.int .i64 31))⟩]
def o_entry_Names_13 : List Ab.Op := [
  ⟨some 6, none, .mv (.k (.int .i64 0))⟩]
/-- steadfast/entry.Names -/
@[go_sem] def fc_entry_Names : Fc := ⟨3,
  .seq ((.reg (some [1, 2, 3]) o_entry_Names_0)) (
  .seq ((.reg (some [1, 3, 7, 8]) o_entry_Names_1)) (
  .seq (.block 0 (
    .seq (.seq ((.reg (some [1, 3, 7, 14]) o_entry_Names_2)) (
    .cond (.t 14) (
      .skip) (
      (.reg (some [1, 3, 7, 14]) o_entry_Names_3)))) (
    .cond (.t 14) (
      .seq ((.reg (some [6]) o_entry_Names_4)) (
      .ret)) (
      .seq ((.reg (some [3, 7, 20]) o_entry_Names_5)) (
      .cond (.t 20) (
        .seq ((.reg (some [6]) o_entry_Names_6)) (
        .ret)) (
        .seq ((.reg (some [3, 7, 25]) o_entry_Names_7)) (
        .cond (.t 25) (
          .seq ((.reg (some [6]) o_entry_Names_8)) (
          .ret)) (
          .seq ((.reg (some [3, 7, 31]) o_entry_Names_9)) (
          .cond (.t 31) (
            .seq ((.reg (some [6]) o_entry_Names_10)) (
            .ret)) (
            .seq ((.reg (some [35]) o_entry_Names_11)) (
            .cond (.t 35) (
              .seq ((.reg (some [6]) o_entry_Names_12)) (
              .ret)) (
              .skip)))))))))))) (
  .seq ((.reg (some [6]) o_entry_Names_13)) (
  .ret)))),
  [.t 6]⟩
def o_steadfastref07_Of_0 : List Ab.Op := [
  ⟨some 2, none, .alloc false (.agg 40 [(.int .i64 0), (.int .i64 0), (.int .i64 0), (.int .i64 0), (.int .i64 0)])⟩,
  ⟨some 3, none, .mv (.k (.bool false))⟩]
def o_steadfastref07_Of_1 : List Ab.Op := [
  ⟨some 7, none, .mv (.t 0)⟩,
  ⟨some 8, none, .call (.k (.fn f_steadfastref01_Field [])) [(.t 7), (.k (.int .i64 0)), (.k (.int .i64 4))]⟩,
  ⟨some 9, none, .conv .i64 (.t 8)⟩,
  ⟨some 10, none, .mv (.t 0)⟩,
  ⟨some 11, none, .call (.k (.fn f_steadfastref01_Field [])) [(.t 10), (.k (.int .i64 4)), (.k (.int .i64 4))]⟩,
  ⟨some 12, none, .conv .i64 (.t 11)⟩,
  ⟨some 13, none, .mv (.t 0)⟩,
  ⟨some 14, none, .call (.k (.fn f_steadfastref01_Field [])) [(.t 13), (.k (.int .i64 8)), (.k (.int .i64 16))]⟩,
  ⟨some 15, none, .conv .i64 (.t 14)⟩,
  ⟨some 16, none, .mv (.t 0)⟩,
  ⟨some 17, none, .call (.k (.fn f_steadfastref01_Field [])) [(.t 16), (.k (.int .i64 24)), (.k (.int .i64 24))]⟩,
  ⟨some 18, none, .conv .i64 (.t 17)⟩,
  ⟨some 19, none, .mv (.t 0)⟩,
  ⟨some 20, none, .call (.k (.fn f_steadfastref01_Field [])) [(.t 19), (.k (.int .i64 48)), (.k (.int .i64 16))]⟩,
  ⟨some 21, none, .conv .i64 (.t 20)⟩,
  ⟨some 22, none, .bld (.agg 40 [(.int .i64 0), (.int .i64 0), (.int .i64 0), (.int .i64 0), (.int .i64 0)]) [(0, (.t 9)), (1, (.t 12)), (2, (.t 15)), (3, (.t 18)), (4, (.t 21))]⟩,
  ⟨some 4, none, .alloc false (.agg 40 [(.int .i64 0), (.int .i64 0), (.int .i64 0), (.int .i64 0), (.int .i64 0)])⟩,
  ⟨none, none, .st 40 (.t 4) (.t 22)⟩]
def o_steadfastref07_Of_2 : List Ab.Op := [
  ⟨some 24, none, .ld 40 (.t 4)⟩,
  ⟨some 25, none, .call (.k (.fn f_steadfastref07_Word [])) [(.t 24)]⟩,
  ⟨some 23, none, .mv (.t 25)⟩,
  ⟨some 26, none, .ext (.t 23) 0⟩,
  ⟨some 27, none, .ext (.t 23) 1⟩,
  ⟨some 5, none, .mv (.t 26)⟩,
  ⟨some 6, none, .mv (.t 27)⟩]
def o_steadfastref07_Of_3 : List Ab.Op := [
  ⟨some 28, none, .mv (.t 6)⟩,
  ⟨some 29, none, .bin .neq (.t 28) (.k (.int .i64 0))⟩,
  ⟨some 30, none, .mv (.t 29)⟩,
  ⟨some 31, some (30, false), .mv (.t 5)⟩,
  ⟨some 32, some (30, false), .mv (.t 0)⟩,
  ⟨some 33, some (30, false), .bin .neq (.t 31) (.t 32)⟩,
  ⟨some 34, none, .pick (.t 30) (.k (.bool true)) (.t 33)⟩]
def o_steadfastref07_Of_4 : List Ab.Op := [
  ⟨some 35, none, .bld (.agg 40 [(.int .i64 0), (.int .i64 0), (.int .i64 0), (.int .i64 0), (.int .i64 0)]) []⟩,
  ⟨none, none, .st 40 (.t 2) (.t 35)⟩,
  ⟨some 3, none, .mv (.k (.bool false))⟩]
def o_steadfastref07_Of_5 : List Ab.Op := [
  ⟨some 36, none, .ld 40 (.t 4)⟩,
  ⟨none, none, .st 40 (.t 2) (.t 36)⟩,
  ⟨some 3, none, .mv (.k (.bool true))⟩]
/-- steadfast/steadfastref07.Of -/
@[go_sem] def fc_steadfastref07_Of : Fc := ⟨1,
  .seq ((.reg (some [0, 2]) o_steadfastref07_Of_0)) (
  .seq ((.reg (some [0, 2, 4]) o_steadfastref07_Of_1)) (
  .seq ((.reg (some [0, 2, 4, 5, 6]) o_steadfastref07_Of_2)) (
  .seq (.seq ((.reg (some [2, 4, 34]) o_steadfastref07_Of_3)) (
  .cond (.t 34) (
    .seq ((.reg (some [2, 3]) o_steadfastref07_Of_4)) (
    .ret)) (
    .skip))) (
  .seq ((.reg (some [2, 3]) o_steadfastref07_Of_5)) (
  .ret))))),
  [.cell 2 40, .t 3]⟩
def o_reach_From_1_0 : List Ab.Op := [
  ⟨some 10, none, .ld 30 (.t 1)⟩,
  ⟨some 11, none, .mv (.t 0)⟩,
  ⟨some 12, none, .call (.k (.fn f_reach_Names [])) [(.t 10), (.t 11)]⟩,
  ⟨some 9, none, .mv (.t 12)⟩,
  ⟨some 13, none, .ext (.t 9) 0⟩,
  ⟨some 14, none, .ext (.t 9) 1⟩,
  ⟨some 5, none, .mv (.t 13)⟩,
  ⟨some 6, none, .mv (.t 14)⟩]
def o_reach_From_1_1 : List Ab.Op := [
  ⟨some 15, none, .mv (.t 6)⟩,
  ⟨some 16, none, .un .not (.t 15)⟩,
  ⟨some 17, none, .mv (.t 16)⟩,
  ⟨some 18, some (17, false), .mv (.t 5)⟩,
  ⟨some 19, some (17, false), .iad 32 49 0 (.t 2) (.t 18)⟩,
  ⟨some 20, some (17, false), .ld 0 (.t 19)⟩,
  ⟨some 21, none, .pick (.t 17) (.k (.bool true)) (.t 20)⟩]
def o_reach_From_1_2 : List Ab.Op := [
  ⟨some 22, none, .mv (.t 5)⟩,
  ⟨some 23, none, .iad 32 49 0 (.t 2) (.t 22)⟩,
  ⟨none, none, .st 0 (.t 23) (.k (.bool true))⟩]
def o_reach_From_1_3 : List Ab.Op := [
  ⟨some 24, none, .mv (.t 5)⟩,
  ⟨some 25, none, .iad 30 49 26 (.t 1) (.t 24)⟩,
  ⟨some 26, none, .fad 26 0 10 (.t 25)⟩,
  ⟨some 27, none, .ld 10 (.t 26)⟩,
  ⟨some 28, none, .bin .eql (.t 27) (.k (.int .i64 2))⟩]
def o_reach_From_1_4 : List Ab.Op := [
  ⟨some 29, none, .mv (.t 5)⟩,
  ⟨some 30, none, .iad 30 49 26 (.t 1) (.t 29)⟩,
  ⟨some 31, none, .fad 26 2 24 (.t 30)⟩,
  ⟨some 32, none, .ld 24 (.t 31)⟩,
  ⟨some 33, none, .mv (.k (.int .i64 0))⟩]
def o_reach_From_1_5 : List Ab.Op := [
  ⟨some 34, none, .bin .lss (.t 33) (.k (.int .i64 8))⟩]
def o_reach_From_1_6 : List Ab.Op := [
  ⟨some 35, none, .idx 24 8 (.t 32) (.t 33)⟩,
  ⟨some 8, none, .mv (.t 35)⟩]
def o_reach_From_1_7 : List Ab.Op := [
  ⟨some 36, none, .ld 1 (.t 3)⟩,
  ⟨some 37, none, .mv (.t 8)⟩,
  ⟨some 38, none, .call (.t 36) [(.t 37)]⟩]
def o_reach_From_1_8 : List Ab.Op := [
  ⟨some 39, none, .bin .add (.t 33) (.k (.int .i64 1))⟩,
  ⟨some 33, none, .mv (.t 39)⟩]
def b_reach_From_1_0 : C :=
    .seq ((.reg (some [3, 32, 33, 34]) o_reach_From_1_5)) (
    .seq (.cond (.t 34) (
      .skip) (
      .exit 0)) (
    .seq (.block 1 (
      .seq ((.reg (some [3, 8, 32, 33]) o_reach_From_1_6)) (
      (.reg (some [3, 32, 33]) o_reach_From_1_7)))) (
    (.reg (some [3, 32, 33]) o_reach_From_1_8))))
/-- steadfast/reach.From$1 -/
@[go_sem] def fc_reach_From_1 : Fc := ⟨4,
  .seq ((.reg (some [1, 2, 3, 5, 6]) o_reach_From_1_0)) (
  .seq (.seq ((.reg (some [1, 2, 3, 5, 21]) o_reach_From_1_1)) (
  .cond (.t 21) (
    .ret) (
    .skip))) (
  .seq ((.reg (some [1, 3, 5]) o_reach_From_1_2)) (
  .seq ((.reg (some [1, 3, 5, 28]) o_reach_From_1_3)) (
  .cond (.t 28) (
    .seq ((.reg (some [3, 32, 33]) o_reach_From_1_4)) (
    .block 0 (
      .loop [3, 32, 33] b_reach_From_1_0))) (
    .skip))))),
  []⟩
def o_regs_Of_0 : List Ab.Op := [
  ⟨some 1, none, .box false (.t 0)⟩,
  ⟨some 2, none, .alloc false (.agg 64 [(.int .i64 0), (.agg 62 (List.replicate 4 (.int .u64 0))), (.int .u64 0), (.int .u64 0), (.int .i64 0), (.int .i64 0), (.int .i64 0), (.int .i64 0)])⟩,
  ⟨some 3, none, .mv (.k (.bool false))⟩]
def o_regs_Of_1 : List Ab.Op := [
  ⟨some 11, none, .iad 24 8 18 (.t 1) (.k (.int .i64 0))⟩,
  ⟨some 12, none, .ld 18 (.t 11)⟩,
  ⟨some 13, none, .call (.k (.fn f_word_Number [])) [(.t 12), (.k (.int .i64 1099511627776))]⟩,
  ⟨some 10, none, .mv (.t 13)⟩,
  ⟨some 14, none, .ext (.t 10) 0⟩,
  ⟨some 15, none, .ext (.t 10) 1⟩,
  ⟨some 4, none, .mv (.t 14)⟩,
  ⟨some 5, none, .mv (.t 15)⟩]
def o_regs_Of_2 : List Ab.Op := [
  ⟨some 16, none, .mv (.t 5)⟩,
  ⟨some 17, none, .bin .neq (.t 16) (.k (.int .i64 0))⟩]
def o_regs_Of_3 : List Ab.Op := [
  ⟨some 18, none, .bld (.agg 64 [(.int .i64 0), (.agg 62 (List.replicate 4 (.int .u64 0))), (.int .u64 0), (.int .u64 0), (.int .i64 0), (.int .i64 0), (.int .i64 0), (.int .i64 0)]) []⟩,
  ⟨none, none, .st 64 (.t 2) (.t 18)⟩,
  ⟨some 3, none, .mv (.k (.bool false))⟩]
def o_regs_Of_4 : List Ab.Op := [
  ⟨some 19, none, .mkfn f_regs_Of_1 [(.t 1)]⟩,
  ⟨some 6, none, .mv (.t 19)⟩]
def o_regs_Of_5 : List Ab.Op := [
  ⟨some 20, none, .mv (.t 4)⟩,
  ⟨some 21, none, .iad 24 8 18 (.t 1) (.k (.int .i64 5))⟩,
  ⟨some 22, none, .ld 18 (.t 21)⟩,
  ⟨some 23, none, .iad 24 8 18 (.t 1) (.k (.int .i64 6))⟩,
  ⟨some 24, none, .ld 18 (.t 23)⟩,
  ⟨some 25, none, .mv (.t 6)⟩,
  ⟨some 26, none, .pcall (.t 25) [(.k (.int .i64 0)), (.k (.int .i64 4))]⟩,
  ⟨some 27, none, .mv (.t 6)⟩,
  ⟨some 28, none, .pcall (.t 27) [(.k (.int .i64 4)), (.k (.int .i64 16))]⟩,
  ⟨some 29, none, .mv (.t 6)⟩,
  ⟨some 30, none, .pcall (.t 29) [(.k (.int .i64 20)), (.k (.int .i64 4))]⟩,
  ⟨some 31, none, .mv (.t 6)⟩,
  ⟨some 32, none, .pcall (.t 31) [(.k (.int .i64 24)), (.k (.int .i64 1))]⟩,
  ⟨some 33, none, .bld (.agg 64 [(.int .i64 0), (.agg 62 (List.replicate 4 (.int .u64 0))), (.int .u64 0), (.int .u64 0), (.int .i64 0), (.int .i64 0), (.int .i64 0), (.int .i64 0)]) [(0, (.t 20)), (2, (.t 22)), (3, (.t 24)), (4, (.t 26)), (5, (.t 28)), (6, (.t 30)), (7, (.t 32))]⟩,
  ⟨some 7, none, .alloc false (.agg 64 [(.int .i64 0), (.agg 62 (List.replicate 4 (.int .u64 0))), (.int .u64 0), (.int .u64 0), (.int .i64 0), (.int .i64 0), (.int .i64 0), (.int .i64 0)])⟩,
  ⟨none, none, .st 64 (.t 7) (.t 33)⟩]
def o_regs_Of_6 : List Ab.Op := [
  ⟨some 34, none, .fad 64 1 62 (.t 7)⟩,
  ⟨some 35, none, .slarr 62 4 18 (.t 34) none none none⟩,
  ⟨some 36, none, .slarr 24 8 18 (.t 1) (some (.k (.int .i64 1))) none none⟩,
  ⟨some 37, none, .cpy 18 (.t 35) (.t 36)⟩]
def o_regs_Of_7 : List Ab.Op := [
  ⟨some 39, none, .ld 64 (.t 7)⟩,
  ⟨some 40, none, .call (.k (.fn f_regs_Line [])) [(.t 39)]⟩,
  ⟨some 38, none, .mv (.t 40)⟩,
  ⟨some 41, none, .ext (.t 38) 0⟩,
  ⟨some 42, none, .ext (.t 38) 1⟩,
  ⟨some 8, none, .alloc false (.agg 24 (List.replicate 8 (.int .u64 0)))⟩,
  ⟨none, none, .st 24 (.t 8) (.t 41)⟩,
  ⟨some 9, none, .mv (.t 42)⟩]
def o_regs_Of_8 : List Ab.Op := [
  ⟨some 43, none, .mv (.t 9)⟩,
  ⟨some 44, none, .bin .neq (.t 43) (.k (.int .i64 0))⟩,
  ⟨some 45, none, .mv (.t 44)⟩,
  ⟨some 46, some (45, false), .ld 24 (.t 8)⟩,
  ⟨some 47, some (45, false), .ld 24 (.t 1)⟩,
  ⟨some 48, some (45, false), .eq true 24 (.t 46) (.t 47)⟩,
  ⟨some 49, none, .pick (.t 45) (.k (.bool true)) (.t 48)⟩]
def o_regs_Of_9 : List Ab.Op := [
  ⟨some 50, none, .bld (.agg 64 [(.int .i64 0), (.agg 62 (List.replicate 4 (.int .u64 0))), (.int .u64 0), (.int .u64 0), (.int .i64 0), (.int .i64 0), (.int .i64 0), (.int .i64 0)]) []⟩,
  ⟨none, none, .st 64 (.t 2) (.t 50)⟩,
  ⟨some 3, none, .mv (.k (.bool false))⟩]
def o_regs_Of_10 : List Ab.Op := [
  ⟨some 51, none, .ld 64 (.t 7)⟩,
  ⟨none, none, .st 64 (.t 2) (.t 51)⟩,
  ⟨some 3, none, .mv (.k (.bool true))⟩]
/-- steadfast/regs.Of -/
@[go_sem] def fc_regs_Of : Fc := ⟨1,
  .seq ((.reg (some [1, 2]) o_regs_Of_0)) (
  .seq ((.reg (some [1, 2, 4, 5]) o_regs_Of_1)) (
  .seq (.seq ((.reg (some [1, 2, 4, 17]) o_regs_Of_2)) (
  .cond (.t 17) (
    .seq ((.reg (some [2, 3]) o_regs_Of_3)) (
    .ret)) (
    .skip))) (
  .seq ((.reg (some [1, 2, 4, 6]) o_regs_Of_4)) (
  .seq ((.regd (some [1, 2, 7]) o_regs_Of_5)) (
  .seq ((.regd (some [1, 2, 7]) o_regs_Of_6)) (
  .seq (.seq ((.reg (some [1, 2, 7, 8, 9]) o_regs_Of_7)) (
  .seq ((.reg (some [2, 7, 49]) o_regs_Of_8)) (
  .cond (.t 49) (
    .seq ((.reg (some [2, 3]) o_regs_Of_9)) (
    .ret)) (
    .skip)))) (
  .seq ((.reg (some [2, 3]) o_regs_Of_10)) (
  .ret)))))))),
  [.cell 2 64, .t 3]⟩
def o_steadfastref14_Of_0 : List Ab.Op := [
  ⟨some 1, none, .box false (.t 0)⟩,
  ⟨some 2, none, .alloc false (.agg 64 [(.int .i64 0), (.agg 62 (List.replicate 4 (.int .u64 0))), (.int .u64 0), (.int .u64 0), (.int .i64 0), (.int .i64 0), (.int .i64 0), (.int .i64 0)])⟩,
  ⟨some 3, none, .mv (.k (.bool false))⟩]
def o_steadfastref14_Of_1 : List Ab.Op := [
  ⟨some 8, none, .iad 24 8 18 (.t 1) (.k (.int .i64 1))⟩,
  ⟨some 9, none, .ld 18 (.t 8)⟩,
  ⟨some 10, none, .iad 24 8 18 (.t 1) (.k (.int .i64 2))⟩,
  ⟨some 11, none, .ld 18 (.t 10)⟩,
  ⟨some 12, none, .iad 24 8 18 (.t 1) (.k (.int .i64 3))⟩,
  ⟨some 13, none, .ld 18 (.t 12)⟩,
  ⟨some 14, none, .iad 24 8 18 (.t 1) (.k (.int .i64 4))⟩,
  ⟨some 15, none, .ld 18 (.t 14)⟩,
  ⟨some 16, none, .bld (.agg 62 (List.replicate 4 (.int .u64 0))) [(0, (.t 9)), (1, (.t 11)), (2, (.t 13)), (3, (.t 15))]⟩,
  ⟨some 17, none, .iad 24 8 18 (.t 1) (.k (.int .i64 5))⟩,
  ⟨some 18, none, .ld 18 (.t 17)⟩,
  ⟨some 19, none, .iad 24 8 18 (.t 1) (.k (.int .i64 6))⟩,
  ⟨some 20, none, .ld 18 (.t 19)⟩,
  ⟨some 21, none, .bld (.agg 64 [(.int .i64 0), (.agg 62 (List.replicate 4 (.int .u64 0))), (.int .u64 0), (.int .u64 0), (.int .i64 0), (.int .i64 0), (.int .i64 0), (.int .i64 0)]) [(1, (.t 16)), (2, (.t 18)), (3, (.t 20))]⟩,
  ⟨some 4, none, .alloc false (.agg 64 [(.int .i64 0), (.agg 62 (List.replicate 4 (.int .u64 0))), (.int .u64 0), (.int .u64 0), (.int .i64 0), (.int .i64 0), (.int .i64 0), (.int .i64 0)])⟩,
  ⟨none, none, .st 64 (.t 4) (.t 21)⟩]
def o_steadfastref14_Of_2 : List Ab.Op := [
  ⟨some 23, none, .iad 24 8 18 (.t 1) (.k (.int .i64 0))⟩,
  ⟨some 24, none, .ld 18 (.t 23)⟩,
  ⟨some 25, none, .call (.k (.fn f_steadfastref01_Number [])) [(.t 24), (.k (.int .i64 1099511627776))]⟩,
  ⟨some 22, none, .mv (.t 25)⟩,
  ⟨some 26, none, .ext (.t 22) 0⟩,
  ⟨some 27, none, .ext (.t 22) 1⟩,
  ⟨some 5, none, .mv (.t 26)⟩,
  ⟨some 6, none, .mv (.t 27)⟩]
def o_steadfastref14_Of_3 : List Ab.Op := [
  ⟨some 28, none, .mv (.t 6)⟩,
  ⟨some 29, none, .bin .neq (.t 28) (.k (.int .i64 0))⟩]
def o_steadfastref14_Of_4 : List Ab.Op := [
  ⟨some 30, none, .bld (.agg 64 [(.int .i64 0), (.agg 62 (List.replicate 4 (.int .u64 0))), (.int .u64 0), (.int .u64 0), (.int .i64 0), (.int .i64 0), (.int .i64 0), (.int .i64 0)]) []⟩,
  ⟨none, none, .st 64 (.t 2) (.t 30)⟩,
  ⟨some 3, none, .mv (.k (.bool false))⟩]
def o_steadfastref14_Of_5 : List Ab.Op := [
  ⟨some 31, none, .mv (.t 5)⟩,
  ⟨some 32, none, .fad 64 0 10 (.t 4)⟩,
  ⟨none, none, .st 10 (.t 32) (.t 31)⟩]
def o_steadfastref14_Of_6 : List Ab.Op := [
  ⟨some 33, none, .iad 24 8 18 (.t 1) (.k (.int .i64 7))⟩,
  ⟨some 34, none, .ld 18 (.t 33)⟩,
  ⟨some 35, none, .call (.k (.fn f_steadfastref01_Field [])) [(.t 34), (.k (.int .i64 0)), (.k (.int .i64 4))]⟩,
  ⟨some 36, none, .conv .i64 (.t 35)⟩,
  ⟨some 37, none, .fad 64 4 10 (.t 4)⟩,
  ⟨none, none, .st 10 (.t 37) (.t 36)⟩]
def o_steadfastref14_Of_7 : List Ab.Op := [
  ⟨some 38, none, .iad 24 8 18 (.t 1) (.k (.int .i64 7))⟩,
  ⟨some 39, none, .ld 18 (.t 38)⟩,
  ⟨some 40, none, .call (.k (.fn f_steadfastref01_Field [])) [(.t 39), (.k (.int .i64 4)), (.k (.int .i64 16))]⟩,
  ⟨some 41, none, .conv .i64 (.t 40)⟩,
  ⟨some 42, none, .fad 64 5 10 (.t 4)⟩,
  ⟨none, none, .st 10 (.t 42) (.t 41)⟩]
def o_steadfastref14_Of_8 : List Ab.Op := [
  ⟨some 43, none, .iad 24 8 18 (.t 1) (.k (.int .i64 7))⟩,
  ⟨some 44, none, .ld 18 (.t 43)⟩,
  ⟨some 45, none, .call (.k (.fn f_steadfastref01_Field [])) [(.t 44), (.k (.int .i64 20)), (.k (.int .i64 4))]⟩,
  ⟨some 46, none, .conv .i64 (.t 45)⟩,
  ⟨some 47, none, .fad 64 6 10 (.t 4)⟩,
  ⟨none, none, .st 10 (.t 47) (.t 46)⟩]
def o_steadfastref14_Of_9 : List Ab.Op := [
  ⟨some 48, none, .iad 24 8 18 (.t 1) (.k (.int .i64 7))⟩,
  ⟨some 49, none, .ld 18 (.t 48)⟩,
  ⟨some 50, none, .call (.k (.fn f_steadfastref01_Field [])) [(.t 49), (.k (.int .i64 24)), (.k (.int .i64 1))]⟩,
  ⟨some 51, none, .conv .i64 (.t 50)⟩,
  ⟨some 52, none, .fad 64 7 10 (.t 4)⟩,
  ⟨none, none, .st 10 (.t 52) (.t 51)⟩]
def o_steadfastref14_Of_10 : List Ab.Op := [
  ⟨some 54, none, .ld 64 (.t 4)⟩,
  ⟨some 55, none, .call (.k (.fn f_steadfastref14_Line [])) [(.t 54)]⟩,
  ⟨some 53, none, .mv (.t 55)⟩,
  ⟨some 56, none, .ext (.t 53) 0⟩,
  ⟨some 57, none, .ext (.t 53) 1⟩,
  ⟨some 7, none, .alloc false (.agg 24 (List.replicate 8 (.int .u64 0)))⟩,
  ⟨none, none, .st 24 (.t 7) (.t 56)⟩,
  ⟨some 6, none, .mv (.t 57)⟩]
def o_steadfastref14_Of_11 : List Ab.Op := [
  ⟨some 58, none, .mv (.t 6)⟩,
  ⟨some 59, none, .bin .neq (.t 58) (.k (.int .i64 0))⟩,
  ⟨some 60, none, .mv (.t 59)⟩,
  ⟨some 61, some (60, false), .ld 24 (.t 7)⟩,
  ⟨some 62, some (60, false), .ld 24 (.t 1)⟩,
  ⟨some 63, some (60, false), .eq true 24 (.t 61) (.t 62)⟩,
  ⟨some 64, none, .pick (.t 60) (.k (.bool true)) (.t 63)⟩]
def o_steadfastref14_Of_12 : List Ab.Op := [
  ⟨some 65, none, .bld (.agg 64 [(.int .i64 0), (.agg 62 (List.replicate 4 (.int .u64 0))), (.int .u64 0), (.int .u64 0), (.int .i64 0), (.int .i64 0), (.int .i64 0), (.int .i64 0)]) []⟩,
  ⟨none, none, .st 64 (.t 2) (.t 65)⟩,
  ⟨some 3, none, .mv (.k (.bool false))⟩]
def o_steadfastref14_Of_13 : List Ab.Op := [
  ⟨some 66, none, .ld 64 (.t 4)⟩,
  ⟨none, none, .st 64 (.t 2) (.t 66)⟩,
  ⟨some 3, none, .mv (.k (.bool true))⟩]
/-- steadfast/steadfastref14.Of -/
@[go_sem] def fc_steadfastref14_Of : Fc := ⟨1,
  .seq ((.reg (some [1, 2]) o_steadfastref14_Of_0)) (
  .seq ((.reg (some [1, 2, 4]) o_steadfastref14_Of_1)) (
  .seq ((.reg (some [1, 2, 4, 5, 6]) o_steadfastref14_Of_2)) (
  .seq (.seq ((.reg (some [1, 2, 4, 5, 29]) o_steadfastref14_Of_3)) (
  .cond (.t 29) (
    .seq ((.reg (some [2, 3]) o_steadfastref14_Of_4)) (
    .ret)) (
    .skip))) (
  .seq ((.reg (some [1, 2, 4]) o_steadfastref14_Of_5)) (
  .seq ((.reg (some [1, 2, 4]) o_steadfastref14_Of_6)) (
  .seq ((.reg (some [1, 2, 4]) o_steadfastref14_Of_7)) (
  .seq ((.reg (some [1, 2, 4]) o_steadfastref14_Of_8)) (
  .seq ((.reg (some [1, 2, 4]) o_steadfastref14_Of_9)) (
  .seq ((.reg (some [1, 2, 4, 6, 7]) o_steadfastref14_Of_10)) (
  .seq (.seq ((.reg (some [2, 4, 64]) o_steadfastref14_Of_11)) (
  .cond (.t 64) (
    .seq ((.reg (some [2, 3]) o_steadfastref14_Of_12)) (
    .ret)) (
    .skip))) (
  .seq ((.reg (some [2, 3]) o_steadfastref14_Of_13)) (
  .ret)))))))))))),
  [.cell 2 64, .t 3]⟩
def o_slices_ContainsFunc_int_0 : List Ab.Op := [
  ⟨some 4, none, .mv (.k (.bool false))⟩]
def o_slices_ContainsFunc_int_1 : List Ab.Op := [
  ⟨some 5, none, .mv (.t 0)⟩,
  ⟨some 6, none, .mv (.t 1)⟩,
  ⟨some 7, none, .call (.k (.fn f_slices_IndexFunc_int [])) [(.t 5), (.t 6)]⟩,
  ⟨some 8, none, .bin .geq (.t 7) (.k (.int .i64 0))⟩,
  ⟨some 4, none, .mv (.t 8)⟩]
/-- slices.ContainsFunc[[]int,int] -/
@[go_sem] def fc_slices_ContainsFunc_int : Fc := ⟨2,
  .seq ((.reg (some [0, 1]) o_slices_ContainsFunc_int_0)) (
  .seq ((.reg (some [4]) o_slices_ContainsFunc_int_1)) (
  .ret)),
  [.t 4]⟩
def o_reach_Apart_1_0 : List Ab.Op := [
  ⟨some 3, none, .box false (.t 0)⟩,
  ⟨some 4, none, .mv (.k (.bool false))⟩]
def o_reach_Apart_1_1 : List Ab.Op := [
  ⟨some 6, none, .ld 30 (.t 1)⟩,
  ⟨some 7, none, .ld 10 (.t 3)⟩,
  ⟨some 8, none, .call (.k (.fn f_reach_Of [])) [(.t 6), (.t 7)]⟩,
  ⟨some 5, none, .alloc false (.agg 32 (List.replicate 49 (.bool false)))⟩,
  ⟨none, none, .st 32 (.t 5) (.t 8)⟩]
def o_reach_Apart_1_2 : List Ab.Op := [
  ⟨some 9, none, .ld 1 (.t 2)⟩,
  ⟨some 10, none, .mkfn f_reach_Apart_1_1 [(.t 1), (.t 5), (.t 3)]⟩,
  ⟨some 11, none, .call (.k (.fn f_slices_ContainsFunc_int [])) [(.t 9), (.t 10)]⟩,
  ⟨some 4, none, .mv (.t 11)⟩]
/-- steadfast/reach.Apart$1 -/
@[go_sem] def fc_reach_Apart_1 : Fc := ⟨3,
  .seq ((.reg (some [1, 2, 3]) o_reach_Apart_1_0)) (
  .seq ((.reg (some [1, 2, 3, 5]) o_reach_Apart_1_1)) (
  .seq ((.reg (some [4]) o_reach_Apart_1_2)) (
  .ret))),
  [.t 4]⟩
def o_reach_Apart_1_1_0 : List Ab.Op := [
  ⟨some 5, none, .mv (.k (.bool false))⟩]
def o_reach_Apart_1_1_1 : List Ab.Op := [
  ⟨some 8, none, .ld 30 (.t 1)⟩,
  ⟨some 9, none, .mv (.t 0)⟩,
  ⟨some 10, none, .call (.k (.fn f_reach_Of [])) [(.t 8), (.t 9)]⟩,
  ⟨some 6, none, .alloc false (.agg 32 (List.replicate 49 (.bool false)))⟩,
  ⟨none, none, .st 32 (.t 6) (.t 10)⟩]
def o_reach_Apart_1_1_2 : List Ab.Op := [
  ⟨some 11, none, .mv (.k (.int .i64 0))⟩]
def o_reach_Apart_1_1_3 : List Ab.Op := [
  ⟨some 12, none, .bin .lss (.t 11) (.k (.int .i64 49))⟩]
def o_reach_Apart_1_1_4 : List Ab.Op := [
  ⟨some 13, none, .mv (.t 11)⟩,
  ⟨some 7, none, .mv (.t 13)⟩]
def o_reach_Apart_1_1_5 : List Ab.Op := [
  ⟨some 14, none, .mv (.t 7)⟩,
  ⟨some 15, none, .iad 32 49 0 (.t 2) (.t 14)⟩,
  ⟨some 16, none, .ld 0 (.t 15)⟩,
  ⟨some 17, none, .mv (.t 16)⟩,
  ⟨some 18, some (17, true), .mv (.t 7)⟩,
  ⟨some 19, some (17, true), .iad 32 49 0 (.t 6) (.t 18)⟩,
  ⟨some 20, some (17, true), .ld 0 (.t 19)⟩,
  ⟨some 21, some (17, true), .mv (.t 20)⟩,
  ⟨some 22, some (21, false), .mv (.t 7)⟩,
  ⟨some 23, some (21, false), .mv (.t 0)⟩,
  ⟨some 24, some (21, false), .bin .eql (.t 22) (.t 23)⟩,
  ⟨some 25, some (17, true), .pick (.t 21) (.k (.bool true)) (.t 24)⟩,
  ⟨some 26, none, .pick (.t 17) (.t 25) (.k (.bool false))⟩,
  ⟨some 27, none, .mv (.t 26)⟩,
  ⟨some 28, some (27, false), .mv (.t 7)⟩,
  ⟨some 29, some (27, false), .iad 32 49 0 (.t 6) (.t 28)⟩,
  ⟨some 30, some (27, false), .ld 0 (.t 29)⟩,
  ⟨some 31, some (27, false), .mv (.t 30)⟩,
  ⟨some 32, some (31, true), .mv (.t 7)⟩,
  ⟨some 33, some (31, true), .ld 10 (.t 3)⟩,
  ⟨some 34, some (31, true), .bin .eql (.t 32) (.t 33)⟩,
  ⟨some 35, some (27, false), .pick (.t 31) (.t 34) (.k (.bool false))⟩,
  ⟨some 36, none, .pick (.t 27) (.k (.bool true)) (.t 35)⟩]
def o_reach_Apart_1_1_6 : List Ab.Op := [
  ⟨some 5, none, .mv (.k (.bool true))⟩]
def o_reach_Apart_1_1_7 : List Ab.Op := [
  ⟨some 37, none, .bin .add (.t 11) (.k (.int .i64 1))⟩,
  ⟨some 11, none, .mv (.t 37)⟩]
def o_reach_Apart_1_1_8 : List Ab.Op := [
  ⟨some 5, none, .mv (.k (.bool false))⟩]
def b_reach_Apart_1_1_0 : C :=
    .seq ((.reg (some [0, 2, 3, 6, 11, 12]) o_reach_Apart_1_1_3)) (
    .seq (.cond (.t 12) (
      .skip) (
      .exit 0)) (
    .seq (.block 1 (
      .seq ((.reg (some [0, 2, 3, 6, 7, 11]) o_reach_Apart_1_1_4)) (
      .seq ((.reg (some [0, 2, 3, 6, 11, 36]) o_reach_Apart_1_1_5)) (
      .cond (.t 36) (
        .seq ((.reg (some [5]) o_reach_Apart_1_1_6)) (
        .ret)) (
        .skip))))) (
    (.reg (some [0, 2, 3, 6, 11]) o_reach_Apart_1_1_7))))
/-- steadfast/reach.Apart$1$1 -/
@[go_sem] def fc_reach_Apart_1_1 : Fc := ⟨4,
  .seq ((.reg (some [0, 1, 2, 3]) o_reach_Apart_1_1_0)) (
  .seq ((.reg (some [0, 2, 3, 6]) o_reach_Apart_1_1_1)) (
  .seq (.seq ((.reg (some [0, 2, 3, 6, 11]) o_reach_Apart_1_1_2)) (
  .block 0 (
    .loop [0, 2, 3, 6, 11] b_reach_Apart_1_1_0))) (
  .seq ((.reg (some [5]) o_reach_Apart_1_1_8)) (
  .ret)))),
  [.t 5]⟩
def o_slices_ContainsFunc_api_Object_0 : List Ab.Op := [
  ⟨some 4, none, .mv (.k (.bool false))⟩]
def o_slices_ContainsFunc_api_Object_1 : List Ab.Op := [
  ⟨some 5, none, .mv (.t 0)⟩,
  ⟨some 6, none, .mv (.t 1)⟩,
  ⟨some 7, none, .call (.k (.fn f_slices_IndexFunc_api_Object [])) [(.t 5), (.t 6)]⟩,
  ⟨some 8, none, .bin .geq (.t 7) (.k (.int .i64 0))⟩,
  ⟨some 4, none, .mv (.t 8)⟩]
/-- slices.ContainsFunc[[]steadfast/api.Object,steadfast/api.Object] -/
@[go_sem] def fc_slices_ContainsFunc_api_Object : Fc := ⟨2,
  .seq ((.reg (some [0, 1]) o_slices_ContainsFunc_api_Object_0)) (
  .seq ((.reg (some [4]) o_slices_ContainsFunc_api_Object_1)) (
  .ret)),
  [.t 4]⟩
def o_reach_Holds_1_0 : List Ab.Op := [
  ⟨some 2, none, .box false (.t 0)⟩,
  ⟨some 3, none, .mv (.k (.bool false))⟩]
def o_reach_Holds_1_1 : List Ab.Op := [
  ⟨some 4, none, .fad 26 0 10 (.t 2)⟩,
  ⟨some 5, none, .ld 10 (.t 4)⟩,
  ⟨some 6, none, .bin .eql (.t 5) (.k (.int .i64 2))⟩,
  ⟨some 7, none, .mv (.t 6)⟩,
  ⟨some 8, some (7, true), .fad 26 2 24 (.t 2)⟩,
  ⟨some 9, some (7, true), .slarr 24 8 18 (.t 8) none none none⟩,
  ⟨some 10, some (7, true), .mkfn f_reach_Holds_1_1 [(.t 1)]⟩,
  ⟨some 11, some (7, true), .call (.k (.fn f_slices_ContainsFunc_uint64 [])) [(.t 9), (.t 10)]⟩,
  ⟨some 12, none, .pick (.t 7) (.t 11) (.k (.bool false))⟩,
  ⟨some 3, none, .mv (.t 12)⟩]
/-- steadfast/reach.Holds$1 -/
@[go_sem] def fc_reach_Holds_1 : Fc := ⟨2,
  .seq ((.reg (some [1, 2]) o_reach_Holds_1_0)) (
  .seq ((.reg (some [3]) o_reach_Holds_1_1)) (
  .ret)),
  [.t 3]⟩
def o_slices_ContainsFunc_uint64_0 : List Ab.Op := [
  ⟨some 4, none, .mv (.k (.bool false))⟩]
def o_slices_ContainsFunc_uint64_1 : List Ab.Op := [
  ⟨some 5, none, .mv (.t 0)⟩,
  ⟨some 6, none, .mv (.t 1)⟩,
  ⟨some 7, none, .call (.k (.fn f_slices_IndexFunc_uint64 [])) [(.t 5), (.t 6)]⟩,
  ⟨some 8, none, .bin .geq (.t 7) (.k (.int .i64 0))⟩,
  ⟨some 4, none, .mv (.t 8)⟩]
/-- slices.ContainsFunc[[]uint64,uint64] -/
@[go_sem] def fc_slices_ContainsFunc_uint64 : Fc := ⟨2,
  .seq ((.reg (some [0, 1]) o_slices_ContainsFunc_uint64_0)) (
  .seq ((.reg (some [4]) o_slices_ContainsFunc_uint64_1)) (
  .ret)),
  [.t 4]⟩
def o_reach_Holds_1_1_0 : List Ab.Op := [
  ⟨some 3, none, .mv (.k (.bool false))⟩]
def o_reach_Holds_1_1_1 : List Ab.Op := [
  ⟨some 7, none, .mv (.t 0)⟩,
  ⟨some 8, none, .call (.k (.fn f_caps_Of [])) [(.t 7)]⟩,
  ⟨some 6, none, .mv (.t 8)⟩,
  ⟨some 9, none, .ext (.t 6) 0⟩,
  ⟨some 10, none, .ext (.t 6) 1⟩,
  ⟨some 4, none, .alloc false (.agg 40 [(.int .i64 0), (.int .i64 0), (.int .i64 0), (.int .i64 0), (.int .i64 0)])⟩,
  ⟨none, none, .st 40 (.t 4) (.t 9)⟩,
  ⟨some 5, none, .mv (.t 10)⟩]
def o_reach_Holds_1_1_2 : List Ab.Op := [
  ⟨some 11, none, .mv (.t 5)⟩,
  ⟨some 12, none, .mv (.t 11)⟩,
  ⟨some 13, some (12, true), .fad 40 0 10 (.t 4)⟩,
  ⟨some 14, some (12, true), .ld 10 (.t 13)⟩,
  ⟨some 15, some (12, true), .ld 10 (.t 1)⟩,
  ⟨some 16, some (12, true), .bin .eql (.t 14) (.t 15)⟩,
  ⟨some 17, none, .pick (.t 12) (.t 16) (.k (.bool false))⟩,
  ⟨some 3, none, .mv (.t 17)⟩]
/-- steadfast/reach.Holds$1$1 -/
@[go_sem] def fc_reach_Holds_1_1 : Fc := ⟨2,
  .seq ((.reg (some [0, 1]) o_reach_Holds_1_1_0)) (
  .seq ((.reg (some [1, 4, 5]) o_reach_Holds_1_1_1)) (
  .seq ((.reg (some [3]) o_reach_Holds_1_1_2)) (
  .ret))),
  [.t 3]⟩
def o_caps_may_0 : List Ab.Op := [
  ⟨some 1, none, .box false (.t 0)⟩,
  ⟨some 2, none, .mv (.k (.bool false))⟩]
def o_caps_may_1 : List Ab.Op := [
  ⟨some 4, none, .fad 40 0 10 (.t 1)⟩,
  ⟨some 5, none, .ld 10 (.t 4)⟩,
  ⟨some 6, none, .bin .eql (.t 5) (.k (.int .i64 5))⟩,
  ⟨some 7, none, .mv (.t 6)⟩,
  ⟨some 8, some (7, false), .fad 40 0 10 (.t 1)⟩,
  ⟨some 9, some (7, false), .ld 10 (.t 8)⟩,
  ⟨some 10, some (7, false), .bin .eql (.t 9) (.k (.int .i64 6))⟩,
  ⟨some 11, none, .pick (.t 7) (.k (.bool true)) (.t 10)⟩,
  ⟨some 3, none, .mv (.t 11)⟩]
def o_caps_may_2 : List Ab.Op := [
  ⟨some 12, none, .fad 40 0 10 (.t 1)⟩,
  ⟨some 13, none, .ld 10 (.t 12)⟩,
  ⟨some 14, none, .call (.k (.fn f_caps_within [])) [(.t 13), (.k (.int .i64 1)), (.k (.int .i64 6))]⟩,
  ⟨some 15, none, .mv (.t 14)⟩,
  ⟨some 16, some (15, true), .fad 40 1 10 (.t 1)⟩,
  ⟨some 17, some (15, true), .ld 10 (.t 16)⟩,
  ⟨some 18, some (15, true), .call (.k (.fn f_caps_within [])) [(.t 17), (.k (.int .i64 0)), (.k (.int .i64 15))]⟩,
  ⟨some 19, none, .pick (.t 15) (.t 18) (.k (.bool false))⟩,
  ⟨some 20, none, .mv (.t 19)⟩,
  ⟨some 21, some (20, true), .fad 40 2 10 (.t 1)⟩,
  ⟨some 22, some (20, true), .ld 10 (.t 21)⟩,
  ⟨some 23, some (20, true), .call (.k (.fn f_caps_within [])) [(.t 22), (.k (.int .i64 0)), (.k (.int .i64 48))]⟩,
  ⟨some 24, none, .pick (.t 20) (.t 23) (.k (.bool false))⟩,
  ⟨some 25, none, .mv (.t 24)⟩,
  ⟨some 26, some (25, true), .fad 40 3 10 (.t 1)⟩,
  ⟨some 27, some (25, true), .ld 10 (.t 26)⟩,
  ⟨some 28, some (25, true), .call (.k (.fn f_caps_within [])) [(.t 27), (.k (.int .i64 0)), (.k (.int .i64 16777215))]⟩,
  ⟨some 29, none, .pick (.t 25) (.t 28) (.k (.bool false))⟩,
  ⟨some 30, none, .mv (.t 29)⟩,
  ⟨some 31, some (30, true), .fad 40 4 10 (.t 1)⟩,
  ⟨some 32, some (30, true), .ld 10 (.t 31)⟩,
  ⟨some 33, some (30, true), .call (.k (.fn f_caps_within [])) [(.t 32), (.k (.int .i64 0)), (.k (.int .i64 65535))]⟩,
  ⟨some 34, none, .pick (.t 30) (.t 33) (.k (.bool false))⟩,
  ⟨some 35, none, .mv (.t 34)⟩,
  ⟨some 36, some (35, true), .mv (.t 3)⟩,
  ⟨some 37, some (35, true), .un .not (.t 36)⟩,
  ⟨some 38, some (35, true), .mv (.t 37)⟩,
  ⟨some 39, some (38, false), .fad 40 2 10 (.t 1)⟩,
  ⟨some 40, some (38, false), .ld 10 (.t 39)⟩,
  ⟨some 41, some (38, false), .bin .eql (.t 40) (.k (.int .i64 0))⟩,
  ⟨some 42, some (38, false), .mv (.t 41)⟩,
  ⟨some 43, some (42, true), .fad 40 3 10 (.t 1)⟩,
  ⟨some 44, some (42, true), .ld 10 (.t 43)⟩,
  ⟨some 45, some (42, true), .bin .eql (.t 44) (.k (.int .i64 0))⟩,
  ⟨some 46, some (38, false), .pick (.t 42) (.t 45) (.k (.bool false))⟩,
  ⟨some 47, some (35, true), .pick (.t 38) (.k (.bool true)) (.t 46)⟩,
  ⟨some 48, none, .pick (.t 35) (.t 47) (.k (.bool false))⟩,
  ⟨some 2, none, .mv (.t 48)⟩]
/-- steadfast/caps.may -/
@[go_sem] def fc_caps_may : Fc := ⟨1,
  .seq ((.reg (some [1]) o_caps_may_0)) (
  .seq ((.reg (some [1, 3]) o_caps_may_1)) (
  .seq ((.reg (some [2]) o_caps_may_2)) (
  .ret))),
  [.t 2]⟩
def o_caps_within_0 : List Ab.Op := [
  ⟨some 6, none, .mv (.k (.bool false))⟩]
def o_caps_within_1 : List Ab.Op := [
  ⟨some 7, none, .mv (.t 0)⟩,
  ⟨some 8, none, .mv (.t 1)⟩,
  ⟨some 9, none, .bin .geq (.t 7) (.t 8)⟩,
  ⟨some 10, none, .mv (.t 9)⟩,
  ⟨some 11, some (10, true), .mv (.t 0)⟩,
  ⟨some 12, some (10, true), .mv (.t 2)⟩,
  ⟨some 13, some (10, true), .bin .leq (.t 11) (.t 12)⟩,
  ⟨some 14, none, .pick (.t 10) (.t 13) (.k (.bool false))⟩,
  ⟨some 6, none, .mv (.t 14)⟩]
/-- steadfast/caps.within -/
@[go_sem] def fc_caps_within : Fc := ⟨3,
  .seq ((.reg (some [0, 1, 2]) o_caps_within_0)) (
  .seq ((.reg (some [6]) o_caps_within_1)) (
  .ret)),
  [.t 6]⟩
def o_steadfastref01_With_0 : List Ab.Op := [
  ⟨some 8, none, .mv (.k (.int .u64 0))⟩,
  ⟨some 9, none, .mv (.k (.int .i64 0))⟩]
def o_steadfastref01_With_1 : List Ab.Op := [
  ⟨some 12, none, .mv (.t 1)⟩,
  ⟨some 13, none, .mv (.t 2)⟩,
  ⟨some 14, none, .call (.k (.fn f_steadfastref01_is [])) [(.t 12), (.t 13)]⟩,
  ⟨some 15, none, .un .not (.t 14)⟩]
def o_steadfastref01_With_2 : List Ab.Op := [
  ⟨some 8, none, .mv (.k (.int .u64 0))⟩,
  ⟨some 9, none, .mv (.k (.int .i64 1))⟩]
def o_steadfastref01_With_3 : List Ab.Op := [
  ⟨some 16, none, .mv (.t 2)⟩,
  ⟨some 10, none, .mv (.t 16)⟩]
def o_steadfastref01_With_4 : List Ab.Op := [
  ⟨some 17, none, .mv (.t 10)⟩,
  ⟨some 18, none, .bin .lss (.t 17) (.k (.int .i64 64))⟩]
def o_steadfastref01_With_5 : List Ab.Op := [
  ⟨some 21, none, .mv (.t 3)⟩,
  ⟨some 22, none, .mv (.t 10)⟩,
  ⟨some 23, none, .call (.k (.fn f_steadfastref01_bit [])) [(.t 21), (.t 22)]⟩,
  ⟨some 24, none, .bin .eql (.t 23) (.k (.int .u64 1))⟩]
def o_steadfastref01_With_6 : List Ab.Op := [
  ⟨some 8, none, .mv (.k (.int .u64 0))⟩,
  ⟨some 9, none, .mv (.k (.int .i64 2))⟩]
def o_steadfastref01_With_7 : List Ab.Op := [
  ⟨some 19, none, .mv (.t 10)⟩,
  ⟨some 20, none, .bin .add (.t 19) (.k (.int .i64 1))⟩,
  ⟨some 10, none, .mv (.t 20)⟩]
def o_steadfastref01_With_8 : List Ab.Op := [
  ⟨some 11, none, .mv (.k (.int .i64 0))⟩]
def o_steadfastref01_With_9 : List Ab.Op := [
  ⟨some 25, none, .mv (.t 11)⟩,
  ⟨some 26, none, .mv (.t 2)⟩,
  ⟨some 27, none, .bin .lss (.t 25) (.t 26)⟩]
def o_steadfastref01_With_10 : List Ab.Op := [
  ⟨some 30, none, .mv (.t 3)⟩,
  ⟨some 31, none, .mv (.t 11)⟩,
  ⟨some 32, none, .call (.k (.fn f_steadfastref01_bit [])) [(.t 30), (.t 31)]⟩,
  ⟨some 33, none, .mv (.t 0)⟩,
  ⟨some 34, none, .mv (.t 1)⟩,
  ⟨some 35, none, .mv (.t 11)⟩,
  ⟨some 36, none, .bin .add (.t 34) (.t 35)⟩,
  ⟨some 37, none, .call (.k (.fn f_steadfastref01_bit [])) [(.t 33), (.t 36)]⟩,
  ⟨some 38, none, .bin .neq (.t 32) (.t 37)⟩]
def o_steadfastref01_With_11 : List Ab.Op := [
  ⟨some 39, none, .mv (.t 0)⟩,
  ⟨some 40, none, .mv (.t 1)⟩,
  ⟨some 41, none, .mv (.t 11)⟩,
  ⟨some 42, none, .bin .add (.t 40) (.t 41)⟩,
  ⟨some 43, none, .bin .shl (.k (.int .u64 1)) (.t 42)⟩,
  ⟨some 44, none, .bin .xor (.t 39) (.t 43)⟩,
  ⟨some 0, none, .mv (.t 44)⟩]
def o_steadfastref01_With_12 : List Ab.Op := [
  ⟨some 28, none, .mv (.t 11)⟩,
  ⟨some 29, none, .bin .add (.t 28) (.k (.int .i64 1))⟩,
  ⟨some 11, none, .mv (.t 29)⟩]
def o_steadfastref01_With_13 : List Ab.Op := [
  ⟨some 45, none, .mv (.t 0)⟩,
  ⟨some 8, none, .mv (.t 45)⟩,
  ⟨some 9, none, .mv (.k (.int .i64 0))⟩]
def b_steadfastref01_With_0 : C :=
    .seq (.seq ((.reg (some [0, 1, 2, 3, 10, 18]) o_steadfastref01_With_4)) (
    .cond (.t 18) (
      .skip) (
      .exit 0))) (
    .seq (.block 1 (
      .seq ((.reg (some [0, 1, 2, 3, 10, 24]) o_steadfastref01_With_5)) (
      .cond (.t 24) (
        .seq ((.reg (some [8, 9]) o_steadfastref01_With_6)) (
        .ret)) (
        .skip)))) (
    (.reg (some [0, 1, 2, 3, 10]) o_steadfastref01_With_7)))
def b_steadfastref01_With_1 : C :=
    .seq (.seq ((.reg (some [0, 1, 2, 3, 11, 27]) o_steadfastref01_With_9)) (
    .cond (.t 27) (
      .skip) (
      .exit 2))) (
    .seq (.block 3 (
      .seq ((.reg (some [0, 1, 2, 3, 11, 38]) o_steadfastref01_With_10)) (
      .cond (.t 38) (
        (.reg (some [0, 1, 2, 3, 11]) o_steadfastref01_With_11)) (
        .skip)))) (
    (.reg (some [0, 1, 2, 3, 11]) o_steadfastref01_With_12)))
/-- steadfast/steadfastref01.With -/
@[go_sem] def fc_steadfastref01_With : Fc := ⟨4,
  .seq ((.reg (some [0, 1, 2, 3]) o_steadfastref01_With_0)) (
  .seq (.seq ((.reg (some [0, 1, 2, 3, 15]) o_steadfastref01_With_1)) (
  .cond (.t 15) (
    .seq ((.reg (some [8, 9]) o_steadfastref01_With_2)) (
    .ret)) (
    .skip))) (
  .seq (.seq ((.reg (some [0, 1, 2, 3, 10]) o_steadfastref01_With_3)) (
  .block 0 (
    .loop [0, 1, 2, 3, 10] b_steadfastref01_With_0))) (
  .seq (.seq ((.reg (some [0, 1, 2, 3, 11]) o_steadfastref01_With_8)) (
  .block 2 (
    .loop [0, 1, 2, 3, 11] b_steadfastref01_With_1))) (
  .seq ((.reg (some [8, 9]) o_steadfastref01_With_13)) (
  .ret))))),
  [.t 8, .t 9]⟩
def o_steadfastref01_Field_0 : List Ab.Op := [
  ⟨some 6, none, .mv (.k (.int .u64 0))⟩]
def o_steadfastref01_Field_1 : List Ab.Op := [
  ⟨some 7, none, .mv (.k (.int .u64 0))⟩]
def o_steadfastref01_Field_2 : List Ab.Op := [
  ⟨some 9, none, .mv (.t 1)⟩,
  ⟨some 10, none, .mv (.t 2)⟩,
  ⟨some 11, none, .call (.k (.fn f_steadfastref01_is [])) [(.t 9), (.t 10)]⟩,
  ⟨some 12, none, .un .not (.t 11)⟩]
def o_steadfastref01_Field_3 : List Ab.Op := [
  ⟨some 6, none, .mv (.k (.int .u64 0))⟩]
def o_steadfastref01_Field_4 : List Ab.Op := [
  ⟨some 8, none, .mv (.k (.int .i64 0))⟩]
def o_steadfastref01_Field_5 : List Ab.Op := [
  ⟨some 13, none, .mv (.t 8)⟩,
  ⟨some 14, none, .mv (.t 2)⟩,
  ⟨some 15, none, .bin .lss (.t 13) (.t 14)⟩]
def o_steadfastref01_Field_6 : List Ab.Op := [
  ⟨some 18, none, .mv (.t 7)⟩,
  ⟨some 19, none, .mv (.t 0)⟩,
  ⟨some 20, none, .mv (.t 1)⟩,
  ⟨some 21, none, .mv (.t 8)⟩,
  ⟨some 22, none, .bin .add (.t 20) (.t 21)⟩,
  ⟨some 23, none, .call (.k (.fn f_steadfastref01_bit [])) [(.t 19), (.t 22)]⟩,
  ⟨some 24, none, .mv (.t 8)⟩,
  ⟨some 25, none, .bin .shl (.t 23) (.t 24)⟩,
  ⟨some 26, none, .bin .or (.t 18) (.t 25)⟩,
  ⟨some 7, none, .mv (.t 26)⟩]
def o_steadfastref01_Field_7 : List Ab.Op := [
  ⟨some 16, none, .mv (.t 8)⟩,
  ⟨some 17, none, .bin .add (.t 16) (.k (.int .i64 1))⟩,
  ⟨some 8, none, .mv (.t 17)⟩]
def o_steadfastref01_Field_8 : List Ab.Op := [
  ⟨some 27, none, .mv (.t 7)⟩,
  ⟨some 6, none, .mv (.t 27)⟩]
def b_steadfastref01_Field_0 : C :=
    .seq (.seq ((.reg (some [0, 1, 2, 7, 8, 15]) o_steadfastref01_Field_5)) (
    .cond (.t 15) (
      .skip) (
      .exit 0))) (
    .seq (.block 1 (
      (.reg (some [0, 1, 2, 7, 8]) o_steadfastref01_Field_6))) (
    (.reg (some [0, 1, 2, 7, 8]) o_steadfastref01_Field_7)))
/-- steadfast/steadfastref01.Field -/
@[go_sem] def fc_steadfastref01_Field : Fc := ⟨3,
  .seq ((.reg (some [0, 1, 2]) o_steadfastref01_Field_0)) (
  .seq ((.reg (some [0, 1, 2, 7]) o_steadfastref01_Field_1)) (
  .seq (.seq ((.reg (some [0, 1, 2, 7, 12]) o_steadfastref01_Field_2)) (
  .cond (.t 12) (
    .seq ((.reg (some [6]) o_steadfastref01_Field_3)) (
    .ret)) (
    .skip))) (
  .seq (.seq ((.reg (some [0, 1, 2, 7, 8]) o_steadfastref01_Field_4)) (
  .block 0 (
    .loop [0, 1, 2, 7, 8] b_steadfastref01_Field_0))) (
  .seq ((.reg (some [6]) o_steadfastref01_Field_8)) (
  .ret))))),
  [.t 6]⟩
def o_word_Number_0 : List Ab.Op := [
  ⟨some 4, none, .mv (.k (.int .i64 0))⟩,
  ⟨some 5, none, .mv (.k (.int .i64 0))⟩]
def o_word_Number_1 : List Ab.Op := [
  ⟨some 6, none, .mv (.t 1)⟩,
  ⟨some 7, none, .bin .lss (.t 6) (.k (.int .i64 0))⟩,
  ⟨some 8, none, .mv (.t 7)⟩,
  ⟨some 9, some (8, false), .mv (.t 0)⟩,
  ⟨some 10, some (8, false), .mv (.t 1)⟩,
  ⟨some 11, some (8, false), .conv .u64 (.t 10)⟩,
  ⟨some 12, some (8, false), .bin .gtr (.t 9) (.t 11)⟩,
  ⟨some 13, none, .pick (.t 8) (.k (.bool true)) (.t 12)⟩]
def o_word_Number_2 : List Ab.Op := [
  ⟨some 4, none, .mv (.k (.int .i64 0))⟩,
  ⟨some 5, none, .mv (.k (.int .i64 2))⟩]
def o_word_Number_3 : List Ab.Op := [
  ⟨some 14, none, .mv (.t 0)⟩,
  ⟨some 15, none, .conv .i64 (.t 14)⟩,
  ⟨some 4, none, .mv (.t 15)⟩,
  ⟨some 5, none, .mv (.k (.int .i64 0))⟩]
/-- steadfast/word.Number -/
@[go_sem] def fc_word_Number : Fc := ⟨2,
  .seq ((.reg (some [0, 1]) o_word_Number_0)) (
  .seq (.seq ((.reg (some [0, 13]) o_word_Number_1)) (
  .cond (.t 13) (
    .seq ((.reg (some [4, 5]) o_word_Number_2)) (
    .ret)) (
    .skip))) (
  .seq ((.reg (some [4, 5]) o_word_Number_3)) (
  .ret))),
  [.t 4, .t 5]⟩
def o_regs_Of_1_0 : List Ab.Op := [
  ⟨some 5, none, .mv (.k (.int .i64 0))⟩]
def o_regs_Of_1_1 : List Ab.Op := [
  ⟨some 6, none, .iad 24 8 18 (.t 2) (.k (.int .i64 7))⟩,
  ⟨some 7, none, .ld 18 (.t 6)⟩,
  ⟨some 8, none, .mv (.t 0)⟩,
  ⟨some 9, none, .mv (.t 1)⟩,
  ⟨some 10, none, .call (.k (.fn f_word_Field [])) [(.t 7), (.t 8), (.t 9)]⟩,
  ⟨some 11, none, .conv .i64 (.t 10)⟩,
  ⟨some 5, none, .mv (.t 11)⟩]
/-- steadfast/regs.Of$1 -/
@[go_sem] def fc_regs_Of_1 : Fc := ⟨3,
  .seq ((.reg (some [0, 1, 2]) o_regs_Of_1_0)) (
  .seq ((.reg (some [5]) o_regs_Of_1_1)) (
  .ret)),
  [.t 5]⟩
def o_word_Field_0 : List Ab.Op := [
  ⟨some 6, none, .mv (.k (.int .u64 0))⟩]
def o_word_Field_1 : List Ab.Op := [
  ⟨some 7, none, .mv (.t 1)⟩,
  ⟨some 8, none, .mv (.t 2)⟩,
  ⟨some 9, none, .call (.k (.fn f_word_field [])) [(.t 7), (.t 8)]⟩,
  ⟨some 10, none, .un .not (.t 9)⟩]
def o_word_Field_2 : List Ab.Op := [
  ⟨some 6, none, .mv (.k (.int .u64 0))⟩]
def o_word_Field_3 : List Ab.Op := [
  ⟨some 11, none, .mv (.t 0)⟩,
  ⟨some 12, none, .mv (.t 1)⟩,
  ⟨some 13, none, .bin .shr (.t 11) (.t 12)⟩,
  ⟨some 14, none, .mv (.t 2)⟩,
  ⟨some 15, none, .pcall (.k (.fn f_word_mask [])) [(.t 14)]⟩,
  ⟨some 16, none, .bin .and (.t 13) (.t 15)⟩,
  ⟨some 6, none, .mv (.t 16)⟩]
/-- steadfast/word.Field -/
@[go_sem] def fc_word_Field : Fc := ⟨3,
  .seq ((.reg (some [0, 1, 2]) o_word_Field_0)) (
  .seq (.seq ((.reg (some [0, 1, 2, 10]) o_word_Field_1)) (
  .cond (.t 10) (
    .seq ((.reg (some [6]) o_word_Field_2)) (
    .ret)) (
    .skip))) (
  .seq ((.regd (some [6]) o_word_Field_3)) (
  .ret))),
  [.t 6]⟩
def o_regs_Line_0 : List Ab.Op := [
  ⟨some 1, none, .box false (.t 0)⟩,
  ⟨some 2, none, .alloc false (.agg 24 (List.replicate 8 (.int .u64 0)))⟩,
  ⟨some 3, none, .mv (.k (.int .i64 0))⟩]
def o_regs_Line_1 : List Ab.Op := [
  ⟨some 5, none, .ld 64 (.t 1)⟩,
  ⟨some 6, none, .call (.k (.fn f_regs_right [])) [(.t 5)]⟩,
  ⟨some 7, none, .un .not (.t 6)⟩,
  ⟨some 8, none, .mv (.t 7)⟩,
  ⟨some 9, some (8, false), .fad 64 0 10 (.t 1)⟩,
  ⟨some 10, some (8, false), .ld 10 (.t 9)⟩,
  ⟨some 11, some (8, false), .call (.k (.fn f_regs_within [])) [(.t 10), (.k (.int .i64 0)), (.k (.int .i64 1099511627776))]⟩,
  ⟨some 12, some (8, false), .un .not (.t 11)⟩,
  ⟨some 13, none, .pick (.t 8) (.k (.bool true)) (.t 12)⟩]
def o_regs_Line_2 : List Ab.Op := [
  ⟨some 14, none, .bld (.agg 24 (List.replicate 8 (.int .u64 0))) []⟩,
  ⟨none, none, .st 24 (.t 2) (.t 14)⟩,
  ⟨some 3, none, .mv (.k (.int .i64 1))⟩]
def o_regs_Line_3 : List Ab.Op := [
  ⟨some 15, none, .fad 64 0 10 (.t 1)⟩,
  ⟨some 16, none, .ld 10 (.t 15)⟩,
  ⟨some 17, none, .conv .u64 (.t 16)⟩,
  ⟨some 18, none, .fad 64 2 18 (.t 1)⟩,
  ⟨some 19, none, .ld 18 (.t 18)⟩,
  ⟨some 20, none, .fad 64 3 18 (.t 1)⟩,
  ⟨some 21, none, .ld 18 (.t 20)⟩,
  ⟨some 22, none, .bld (.agg 24 (List.replicate 8 (.int .u64 0))) [(0, (.t 17)), (5, (.t 19)), (6, (.t 21))]⟩,
  ⟨some 4, none, .alloc false (.agg 24 (List.replicate 8 (.int .u64 0)))⟩,
  ⟨none, none, .st 24 (.t 4) (.t 22)⟩]
def o_regs_Line_4 : List Ab.Op := [
  ⟨some 23, none, .slarr 24 8 18 (.t 4) (some (.k (.int .i64 1))) none none⟩,
  ⟨some 24, none, .fad 64 1 62 (.t 1)⟩,
  ⟨some 25, none, .slarr 62 4 18 (.t 24) none none none⟩,
  ⟨some 26, none, .cpy 18 (.t 23) (.t 25)⟩]
def o_regs_Line_5 : List Ab.Op := [
  ⟨some 27, none, .fad 64 4 10 (.t 1)⟩,
  ⟨some 28, none, .ld 10 (.t 27)⟩,
  ⟨some 29, none, .conv .u64 (.t 28)⟩,
  ⟨some 30, none, .fad 64 5 10 (.t 1)⟩,
  ⟨some 31, none, .ld 10 (.t 30)⟩,
  ⟨some 32, none, .conv .u64 (.t 31)⟩,
  ⟨some 33, none, .bin .shl (.t 32) (.k (.int .u64 4))⟩,
  ⟨some 34, none, .bin .or (.t 29) (.t 33)⟩,
  ⟨some 35, none, .fad 64 6 10 (.t 1)⟩,
  ⟨some 36, none, .ld 10 (.t 35)⟩,
  ⟨some 37, none, .conv .u64 (.t 36)⟩,
  ⟨some 38, none, .bin .shl (.t 37) (.k (.int .u64 20))⟩,
  ⟨some 39, none, .bin .or (.t 34) (.t 38)⟩,
  ⟨some 40, none, .fad 64 7 10 (.t 1)⟩,
  ⟨some 41, none, .ld 10 (.t 40)⟩,
  ⟨some 42, none, .conv .u64 (.t 41)⟩,
  ⟨some 43, none, .bin .shl (.t 42) (.k (.int .u64 24))⟩,
  ⟨some 44, none, .bin .or (.t 39) (.t 43)⟩,
  ⟨some 45, none, .iad 24 8 18 (.t 4) (.k (.int .i64 7))⟩,
  ⟨none, none, .st 18 (.t 45) (.t 44)⟩]
def o_regs_Line_6 : List Ab.Op := [
  ⟨some 46, none, .ld 24 (.t 4)⟩,
  ⟨none, none, .st 24 (.t 2) (.t 46)⟩,
  ⟨some 3, none, .mv (.k (.int .i64 0))⟩]
/-- steadfast/regs.Line -/
@[go_sem] def fc_regs_Line : Fc := ⟨1,
  .seq ((.reg (some [1, 2]) o_regs_Line_0)) (
  .seq (.seq ((.reg (some [1, 2, 13]) o_regs_Line_1)) (
  .cond (.t 13) (
    .seq ((.reg (some [2, 3]) o_regs_Line_2)) (
    .ret)) (
    .skip))) (
  .seq ((.reg (some [1, 2, 4]) o_regs_Line_3)) (
  .seq ((.regd (some [1, 2, 4]) o_regs_Line_4)) (
  .seq ((.reg (some [2, 4]) o_regs_Line_5)) (
  .seq ((.reg (some [2, 3]) o_regs_Line_6)) (
  .ret)))))),
  [.cell 2 24, .t 3]⟩
def o_steadfastref01_Number_0 : List Ab.Op := [
  ⟨some 4, none, .mv (.k (.int .i64 0))⟩,
  ⟨some 5, none, .mv (.k (.int .i64 0))⟩]
def o_steadfastref01_Number_1 : List Ab.Op := [
  ⟨some 6, none, .mv (.t 1)⟩,
  ⟨some 7, none, .bin .lss (.t 6) (.k (.int .i64 0))⟩,
  ⟨some 8, none, .mv (.t 7)⟩,
  ⟨some 9, some (8, false), .mv (.t 0)⟩,
  ⟨some 10, some (8, false), .mv (.t 1)⟩,
  ⟨some 11, some (8, false), .conv .u64 (.t 10)⟩,
  ⟨some 12, some (8, false), .bin .gtr (.t 9) (.t 11)⟩,
  ⟨some 13, none, .pick (.t 8) (.k (.bool true)) (.t 12)⟩]
def o_steadfastref01_Number_2 : List Ab.Op := [
  ⟨some 4, none, .mv (.k (.int .i64 0))⟩,
  ⟨some 5, none, .mv (.k (.int .i64 2))⟩]
def o_steadfastref01_Number_3 : List Ab.Op := [
  ⟨some 14, none, .mv (.t 0)⟩,
  ⟨some 15, none, .conv .i64 (.t 14)⟩,
  ⟨some 4, none, .mv (.t 15)⟩,
  ⟨some 5, none, .mv (.k (.int .i64 0))⟩]
/-- steadfast/steadfastref01.Number -/
@[go_sem] def fc_steadfastref01_Number : Fc := ⟨2,
  .seq ((.reg (some [0, 1]) o_steadfastref01_Number_0)) (
  .seq (.seq ((.reg (some [0, 13]) o_steadfastref01_Number_1)) (
  .cond (.t 13) (
    .seq ((.reg (some [4, 5]) o_steadfastref01_Number_2)) (
    .ret)) (
    .skip))) (
  .seq ((.reg (some [4, 5]) o_steadfastref01_Number_3)) (
  .ret))),
  [.t 4, .t 5]⟩
def o_steadfastref14_Line_0 : List Ab.Op := [
  ⟨some 1, none, .box false (.t 0)⟩,
  ⟨some 2, none, .alloc false (.agg 24 (List.replicate 8 (.int .u64 0)))⟩,
  ⟨some 3, none, .mv (.k (.int .i64 0))⟩]
def o_steadfastref14_Line_1 : List Ab.Op := [
  ⟨some 9, none, .bsl false 38 10 (.int .i64 0) 6 [(0, (.k (.int .i64 0))), (1, (.k (.int .i64 0))), (2, (.k (.int .i64 0))), (3, (.k (.int .i64 48))), (4, (.k (.int .i64 48))), (5, (.k (.int .i64 255)))]⟩,
  ⟨some 4, none, .mv (.t 9)⟩]
def o_steadfastref14_Line_2 : List Ab.Op := [
  ⟨some 10, none, .fad 64 4 10 (.t 1)⟩,
  ⟨some 11, none, .ld 10 (.t 10)⟩,
  ⟨some 12, none, .bin .eql (.t 11) (.k (.int .i64 3))⟩,
  ⟨some 13, none, .mv (.t 12)⟩,
  ⟨some 14, some (13, false), .fad 64 4 10 (.t 1)⟩,
  ⟨some 15, some (13, false), .ld 10 (.t 14)⟩,
  ⟨some 16, some (13, false), .bin .eql (.t 15) (.k (.int .i64 4))⟩,
  ⟨some 17, none, .pick (.t 13) (.k (.bool true)) (.t 16)⟩,
  ⟨some 5, none, .mv (.t 17)⟩]
def o_steadfastref14_Line_3 : List Ab.Op := [
  ⟨some 18, none, .fad 64 0 10 (.t 1)⟩,
  ⟨some 19, none, .ld 10 (.t 18)⟩,
  ⟨some 20, none, .bin .geq (.t 19) (.k (.int .i64 0))⟩,
  ⟨some 21, none, .mv (.t 20)⟩,
  ⟨some 22, some (21, true), .fad 64 0 10 (.t 1)⟩,
  ⟨some 23, some (21, true), .ld 10 (.t 22)⟩,
  ⟨some 24, some (21, true), .bin .leq (.t 23) (.k (.int .i64 1099511627776))⟩,
  ⟨some 25, none, .pick (.t 21) (.t 24) (.k (.bool false))⟩,
  ⟨some 26, none, .mv (.t 25)⟩,
  ⟨some 27, some (26, true), .fad 64 4 10 (.t 1)⟩,
  ⟨some 28, some (26, true), .ld 10 (.t 27)⟩,
  ⟨some 29, some (26, true), .bin .geq (.t 28) (.k (.int .i64 1))⟩,
  ⟨some 30, none, .pick (.t 26) (.t 29) (.k (.bool false))⟩,
  ⟨some 31, none, .mv (.t 30)⟩,
  ⟨some 32, some (31, true), .fad 64 4 10 (.t 1)⟩,
  ⟨some 33, some (31, true), .ld 10 (.t 32)⟩,
  ⟨some 34, some (31, true), .bin .leq (.t 33) (.k (.int .i64 5))⟩,
  ⟨some 35, none, .pick (.t 31) (.t 34) (.k (.bool false))⟩,
  ⟨some 6, none, .mv (.t 35)⟩]
def o_steadfastref14_Line_4 : List Ab.Op := [
  ⟨some 36, none, .mv (.t 6)⟩,
  ⟨some 37, none, .un .not (.t 36)⟩,
  ⟨some 38, none, .mv (.t 37)⟩,
  ⟨some 39, some (38, false), .fad 64 5 10 (.t 1)⟩,
  ⟨some 40, some (38, false), .ld 10 (.t 39)⟩,
  ⟨some 41, some (38, false), .bin .lss (.t 40) (.k (.int .i64 0))⟩,
  ⟨some 42, none, .pick (.t 38) (.k (.bool true)) (.t 41)⟩,
  ⟨some 43, none, .mv (.t 42)⟩,
  ⟨some 44, some (43, false), .fad 64 5 10 (.t 1)⟩,
  ⟨some 45, some (43, false), .ld 10 (.t 44)⟩,
  ⟨some 46, some (43, false), .mv (.t 4)⟩,
  ⟨some 47, some (43, false), .fad 64 4 10 (.t 1)⟩,
  ⟨some 48, some (43, false), .ld 10 (.t 47)⟩,
  ⟨some 49, some (43, false), .sad 10 (.t 46) (.t 48)⟩,
  ⟨some 50, some (43, false), .ld 10 (.t 49)⟩,
  ⟨some 51, some (43, false), .bin .gtr (.t 45) (.t 50)⟩,
  ⟨some 52, none, .pick (.t 43) (.k (.bool true)) (.t 51)⟩,
  ⟨some 53, none, .mv (.t 52)⟩,
  ⟨some 54, some (53, false), .fad 64 6 10 (.t 1)⟩,
  ⟨some 55, some (53, false), .ld 10 (.t 54)⟩,
  ⟨some 56, some (53, false), .bin .lss (.t 55) (.k (.int .i64 0))⟩,
  ⟨some 57, none, .pick (.t 53) (.k (.bool true)) (.t 56)⟩,
  ⟨some 58, none, .mv (.t 57)⟩,
  ⟨some 59, some (58, false), .fad 64 6 10 (.t 1)⟩,
  ⟨some 60, some (58, false), .ld 10 (.t 59)⟩,
  ⟨some 61, some (58, false), .bin .gtr (.t 60) (.k (.int .i64 7))⟩,
  ⟨some 62, none, .pick (.t 58) (.k (.bool true)) (.t 61)⟩,
  ⟨some 63, none, .mv (.t 62)⟩,
  ⟨some 64, some (63, false), .mv (.t 5)⟩,
  ⟨some 65, some (63, false), .un .not (.t 64)⟩,
  ⟨some 66, some (63, false), .mv (.t 65)⟩,
  ⟨some 67, some (66, true), .fad 64 6 10 (.t 1)⟩,
  ⟨some 68, some (66, true), .ld 10 (.t 67)⟩,
  ⟨some 69, some (66, true), .bin .neq (.t 68) (.k (.int .i64 0))⟩,
  ⟨some 70, some (63, false), .pick (.t 66) (.t 69) (.k (.bool false))⟩,
  ⟨some 71, none, .pick (.t 63) (.k (.bool true)) (.t 70)⟩,
  ⟨some 72, none, .mv (.t 71)⟩,
  ⟨some 73, some (72, false), .fad 64 7 10 (.t 1)⟩,
  ⟨some 74, some (72, false), .ld 10 (.t 73)⟩,
  ⟨some 75, some (72, false), .bin .neq (.t 74) (.k (.int .i64 0))⟩,
  ⟨some 76, some (72, false), .mv (.t 75)⟩,
  ⟨some 77, some (76, true), .fad 64 7 10 (.t 1)⟩,
  ⟨some 78, some (76, true), .ld 10 (.t 77)⟩,
  ⟨some 79, some (76, true), .bin .neq (.t 78) (.k (.int .i64 1))⟩,
  ⟨some 80, some (76, true), .mv (.t 79)⟩,
  ⟨some 81, some (80, false), .fad 64 4 10 (.t 1)⟩,
  ⟨some 82, some (80, false), .ld 10 (.t 81)⟩,
  ⟨some 83, some (80, false), .bin .neq (.t 82) (.k (.int .i64 3))⟩,
  ⟨some 84, some (76, true), .pick (.t 80) (.k (.bool true)) (.t 83)⟩,
  ⟨some 85, some (72, false), .pick (.t 76) (.t 84) (.k (.bool false))⟩,
  ⟨some 86, none, .pick (.t 72) (.k (.bool true)) (.t 85)⟩]
def o_steadfastref14_Line_5 : List Ab.Op := [
  ⟨some 87, none, .bld (.agg 24 (List.replicate 8 (.int .u64 0))) []⟩,
  ⟨none, none, .st 24 (.t 2) (.t 87)⟩,
  ⟨some 3, none, .mv (.k (.int .i64 1))⟩]
def o_steadfastref14_Line_6 : List Ab.Op := [
  ⟨some 89, none, .fad 64 4 10 (.t 1)⟩,
  ⟨some 90, none, .ld 10 (.t 89)⟩,
  ⟨some 91, none, .conv .u64 (.t 90)⟩,
  ⟨some 92, none, .call (.k (.fn f_steadfastref01_With [])) [(.k (.int .u64 0)), (.k (.int .i64 0)), (.k (.int .i64 4)), (.t 91)]⟩,
  ⟨some 88, none, .mv (.t 92)⟩,
  ⟨some 93, none, .ext (.t 88) 0⟩,
  ⟨some 94, none, .ext (.t 88) 1⟩,
  ⟨some 7, none, .mv (.t 93)⟩,
  ⟨some 8, none, .mv (.t 94)⟩]
def o_steadfastref14_Line_7 : List Ab.Op := [
  ⟨some 96, none, .mv (.t 7)⟩,
  ⟨some 97, none, .fad 64 5 10 (.t 1)⟩,
  ⟨some 98, none, .ld 10 (.t 97)⟩,
  ⟨some 99, none, .conv .u64 (.t 98)⟩,
  ⟨some 100, none, .call (.k (.fn f_steadfastref01_With [])) [(.t 96), (.k (.int .i64 4)), (.k (.int .i64 16)), (.t 99)]⟩,
  ⟨some 95, none, .mv (.t 100)⟩,
  ⟨some 101, none, .ext (.t 95) 0⟩,
  ⟨some 102, none, .ext (.t 95) 1⟩,
  ⟨some 7, none, .mv (.t 101)⟩]
def o_steadfastref14_Line_8 : List Ab.Op := [
  ⟨some 104, none, .mv (.t 7)⟩,
  ⟨some 105, none, .fad 64 6 10 (.t 1)⟩,
  ⟨some 106, none, .ld 10 (.t 105)⟩,
  ⟨some 107, none, .conv .u64 (.t 106)⟩,
  ⟨some 108, none, .call (.k (.fn f_steadfastref01_With [])) [(.t 104), (.k (.int .i64 20)), (.k (.int .i64 4)), (.t 107)]⟩,
  ⟨some 103, none, .mv (.t 108)⟩,
  ⟨some 109, none, .ext (.t 103) 0⟩,
  ⟨some 110, none, .ext (.t 103) 1⟩,
  ⟨some 7, none, .mv (.t 109)⟩]
def o_steadfastref14_Line_9 : List Ab.Op := [
  ⟨some 112, none, .mv (.t 7)⟩,
  ⟨some 113, none, .fad 64 7 10 (.t 1)⟩,
  ⟨some 114, none, .ld 10 (.t 113)⟩,
  ⟨some 115, none, .conv .u64 (.t 114)⟩,
  ⟨some 116, none, .call (.k (.fn f_steadfastref01_With [])) [(.t 112), (.k (.int .i64 24)), (.k (.int .i64 1)), (.t 115)]⟩,
  ⟨some 111, none, .mv (.t 116)⟩,
  ⟨some 117, none, .ext (.t 111) 0⟩,
  ⟨some 118, none, .ext (.t 111) 1⟩,
  ⟨some 7, none, .mv (.t 117)⟩]
def o_steadfastref14_Line_10 : List Ab.Op := [
  ⟨some 119, none, .fad 64 0 10 (.t 1)⟩,
  ⟨some 120, none, .ld 10 (.t 119)⟩,
  ⟨some 121, none, .conv .u64 (.t 120)⟩,
  ⟨some 122, none, .fad 64 1 62 (.t 1)⟩,
  ⟨some 123, none, .iad 62 4 18 (.t 122) (.k (.int .i64 0))⟩,
  ⟨some 124, none, .ld 18 (.t 123)⟩,
  ⟨some 125, none, .fad 64 1 62 (.t 1)⟩,
  ⟨some 126, none, .iad 62 4 18 (.t 125) (.k (.int .i64 1))⟩,
  ⟨some 127, none, .ld 18 (.t 126)⟩,
  ⟨some 128, none, .fad 64 1 62 (.t 1)⟩,
  ⟨some 129, none, .iad 62 4 18 (.t 128) (.k (.int .i64 2))⟩,
  ⟨some 130, none, .ld 18 (.t 129)⟩,
  ⟨some 131, none, .fad 64 1 62 (.t 1)⟩,
  ⟨some 132, none, .iad 62 4 18 (.t 131) (.k (.int .i64 3))⟩,
  ⟨some 133, none, .ld 18 (.t 132)⟩,
  ⟨some 134, none, .fad 64 2 18 (.t 1)⟩,
  ⟨some 135, none, .ld 18 (.t 134)⟩,
  ⟨some 136, none, .fad 64 3 18 (.t 1)⟩,
  ⟨some 137, none, .ld 18 (.t 136)⟩,
  ⟨some 138, none, .mv (.t 7)⟩,
  ⟨some 139, none, .bld (.agg 24 (List.replicate 8 (.int .u64 0))) [(0, (.t 121)), (1, (.t 124)), (2, (.t 127)), (3, (.t 130)), (4, (.t 133)), (5, (.t 135)), (6, (.t 137)), (7, (.t 138))]⟩,
  ⟨none, none, .st 24 (.t 2) (.t 139)⟩,
  ⟨some 3, none, .mv (.k (.int .i64 0))⟩]
/-- steadfast/steadfastref14.Line -/
@[go_sem] def fc_steadfastref14_Line : Fc := ⟨1,
  .seq ((.reg (some [1, 2]) o_steadfastref14_Line_0)) (
  .seq ((.reg (some [1, 2, 4]) o_steadfastref14_Line_1)) (
  .seq ((.reg (some [1, 2, 4, 5]) o_steadfastref14_Line_2)) (
  .seq ((.reg (some [1, 2, 4, 5, 6]) o_steadfastref14_Line_3)) (
  .seq (.seq ((.regd (some [1, 2, 86]) o_steadfastref14_Line_4)) (
  .cond (.t 86) (
    .seq ((.reg (some [2, 3]) o_steadfastref14_Line_5)) (
    .ret)) (
    .skip))) (
  .seq ((.reg (some [1, 2, 7]) o_steadfastref14_Line_6)) (
  .seq ((.reg (some [1, 2, 7]) o_steadfastref14_Line_7)) (
  .seq ((.reg (some [1, 2, 7]) o_steadfastref14_Line_8)) (
  .seq ((.reg (some [1, 2, 7]) o_steadfastref14_Line_9)) (
  .seq ((.reg (some [2, 3]) o_steadfastref14_Line_10)) (
  .ret)))))))))),
  [.cell 2 24, .t 3]⟩
def o_slices_IndexFunc_int_0 : List Ab.Op := [
  ⟨some 4, none, .mv (.k (.int .i64 0))⟩]
def o_slices_IndexFunc_int_1 : List Ab.Op := [
  ⟨some 6, none, .mv (.t 0)⟩,
  ⟨some 7, none, .len false (.t 6)⟩,
  ⟨some 8, none, .mv (.k (.int .i64 0))⟩]
def o_slices_IndexFunc_int_2 : List Ab.Op := [
  ⟨some 9, none, .bin .lss (.t 8) (.t 7)⟩]
def o_slices_IndexFunc_int_3 : List Ab.Op := [
  ⟨some 10, none, .mv (.t 8)⟩,
  ⟨some 5, none, .mv (.t 10)⟩]
def o_slices_IndexFunc_int_4 : List Ab.Op := [
  ⟨some 11, none, .mv (.t 1)⟩,
  ⟨some 12, none, .mv (.t 0)⟩,
  ⟨some 13, none, .mv (.t 5)⟩,
  ⟨some 14, none, .sad 10 (.t 12) (.t 13)⟩,
  ⟨some 15, none, .ld 10 (.t 14)⟩,
  ⟨some 16, none, .call (.t 11) [(.t 15)]⟩]
def o_slices_IndexFunc_int_5 : List Ab.Op := [
  ⟨some 17, none, .mv (.t 5)⟩,
  ⟨some 4, none, .mv (.t 17)⟩]
def o_slices_IndexFunc_int_6 : List Ab.Op := [
  ⟨some 18, none, .bin .add (.t 8) (.k (.int .i64 1))⟩,
  ⟨some 8, none, .mv (.t 18)⟩]
def o_slices_IndexFunc_int_7 : List Ab.Op := [
  ⟨some 4, none, .mv (.k (.int .i64 (-1)))⟩]
def b_slices_IndexFunc_int_0 : C :=
    .seq ((.reg (some [0, 1, 7, 8, 9]) o_slices_IndexFunc_int_2)) (
    .seq (.cond (.t 9) (
      .skip) (
      .exit 0)) (
    .seq (.block 1 (
      .seq ((.reg (some [0, 1, 5, 7, 8]) o_slices_IndexFunc_int_3)) (
      .seq ((.reg (some [0, 1, 5, 7, 8, 16]) o_slices_IndexFunc_int_4)) (
      .cond (.t 16) (
        .seq ((.reg (some [4]) o_slices_IndexFunc_int_5)) (
        .ret)) (
        .skip))))) (
    (.reg (some [0, 1, 7, 8]) o_slices_IndexFunc_int_6))))
/-- slices.IndexFunc[[]int,int] -/
@[go_sem] def fc_slices_IndexFunc_int : Fc := ⟨2,
  .seq ((.reg (some [0, 1]) o_slices_IndexFunc_int_0)) (
  .seq (.seq ((.reg (some [0, 1, 7, 8]) o_slices_IndexFunc_int_1)) (
  .block 0 (
    .loop [0, 1, 7, 8] b_slices_IndexFunc_int_0))) (
  .seq ((.reg (some [4]) o_slices_IndexFunc_int_7)) (
  .ret))),
  [.t 4]⟩
def o_slices_IndexFunc_api_Object_0 : List Ab.Op := [
  ⟨some 4, none, .mv (.k (.int .i64 0))⟩]
def o_slices_IndexFunc_api_Object_1 : List Ab.Op := [
  ⟨some 6, none, .mv (.t 0)⟩,
  ⟨some 7, none, .len false (.t 6)⟩,
  ⟨some 8, none, .mv (.k (.int .i64 0))⟩]
def o_slices_IndexFunc_api_Object_2 : List Ab.Op := [
  ⟨some 9, none, .bin .lss (.t 8) (.t 7)⟩]
def o_slices_IndexFunc_api_Object_3 : List Ab.Op := [
  ⟨some 10, none, .mv (.t 8)⟩,
  ⟨some 5, none, .mv (.t 10)⟩]
def o_slices_IndexFunc_api_Object_4 : List Ab.Op := [
  ⟨some 11, none, .mv (.t 1)⟩,
  ⟨some 12, none, .mv (.t 0)⟩,
  ⟨some 13, none, .mv (.t 5)⟩,
  ⟨some 14, none, .sad 26 (.t 12) (.t 13)⟩,
  ⟨some 15, none, .ld 26 (.t 14)⟩,
  ⟨some 16, none, .call (.t 11) [(.t 15)]⟩]
def o_slices_IndexFunc_api_Object_5 : List Ab.Op := [
  ⟨some 17, none, .mv (.t 5)⟩,
  ⟨some 4, none, .mv (.t 17)⟩]
def o_slices_IndexFunc_api_Object_6 : List Ab.Op := [
  ⟨some 18, none, .bin .add (.t 8) (.k (.int .i64 1))⟩,
  ⟨some 8, none, .mv (.t 18)⟩]
def o_slices_IndexFunc_api_Object_7 : List Ab.Op := [
  ⟨some 4, none, .mv (.k (.int .i64 (-1)))⟩]
def b_slices_IndexFunc_api_Object_0 : C :=
    .seq ((.reg (some [0, 1, 7, 8, 9]) o_slices_IndexFunc_api_Object_2)) (
    .seq (.cond (.t 9) (
      .skip) (
      .exit 0)) (
    .seq (.block 1 (
      .seq ((.reg (some [0, 1, 5, 7, 8]) o_slices_IndexFunc_api_Object_3)) (
      .seq ((.reg (some [0, 1, 5, 7, 8, 16]) o_slices_IndexFunc_api_Object_4)) (
      .cond (.t 16) (
        .seq ((.reg (some [4]) o_slices_IndexFunc_api_Object_5)) (
        .ret)) (
        .skip))))) (
    (.reg (some [0, 1, 7, 8]) o_slices_IndexFunc_api_Object_6))))
/-- slices.IndexFunc[[]steadfast/api.Object,steadfast/api.Object] -/
@[go_sem] def fc_slices_IndexFunc_api_Object : Fc := ⟨2,
  .seq ((.reg (some [0, 1]) o_slices_IndexFunc_api_Object_0)) (
  .seq (.seq ((.reg (some [0, 1, 7, 8]) o_slices_IndexFunc_api_Object_1)) (
  .block 0 (
    .loop [0, 1, 7, 8] b_slices_IndexFunc_api_Object_0))) (
  .seq ((.reg (some [4]) o_slices_IndexFunc_api_Object_7)) (
  .ret))),
  [.t 4]⟩
def o_slices_IndexFunc_uint64_0 : List Ab.Op := [
  ⟨some 4, none, .mv (.k (.int .i64 0))⟩]
def o_slices_IndexFunc_uint64_1 : List Ab.Op := [
  ⟨some 6, none, .mv (.t 0)⟩,
  ⟨some 7, none, .len false (.t 6)⟩,
  ⟨some 8, none, .mv (.k (.int .i64 0))⟩]
def o_slices_IndexFunc_uint64_2 : List Ab.Op := [
  ⟨some 9, none, .bin .lss (.t 8) (.t 7)⟩]
def o_slices_IndexFunc_uint64_3 : List Ab.Op := [
  ⟨some 10, none, .mv (.t 8)⟩,
  ⟨some 5, none, .mv (.t 10)⟩]
def o_slices_IndexFunc_uint64_4 : List Ab.Op := [
  ⟨some 11, none, .mv (.t 1)⟩,
  ⟨some 12, none, .mv (.t 0)⟩,
  ⟨some 13, none, .mv (.t 5)⟩,
  ⟨some 14, none, .sad 18 (.t 12) (.t 13)⟩,
  ⟨some 15, none, .ld 18 (.t 14)⟩,
  ⟨some 16, none, .call (.t 11) [(.t 15)]⟩]
def o_slices_IndexFunc_uint64_5 : List Ab.Op := [
  ⟨some 17, none, .mv (.t 5)⟩,
  ⟨some 4, none, .mv (.t 17)⟩]
def o_slices_IndexFunc_uint64_6 : List Ab.Op := [
  ⟨some 18, none, .bin .add (.t 8) (.k (.int .i64 1))⟩,
  ⟨some 8, none, .mv (.t 18)⟩]
def o_slices_IndexFunc_uint64_7 : List Ab.Op := [
  ⟨some 4, none, .mv (.k (.int .i64 (-1)))⟩]
def b_slices_IndexFunc_uint64_0 : C :=
    .seq ((.reg (some [0, 1, 7, 8, 9]) o_slices_IndexFunc_uint64_2)) (
    .seq (.cond (.t 9) (
      .skip) (
      .exit 0)) (
    .seq (.block 1 (
      .seq ((.reg (some [0, 1, 5, 7, 8]) o_slices_IndexFunc_uint64_3)) (
      .seq ((.reg (some [0, 1, 5, 7, 8, 16]) o_slices_IndexFunc_uint64_4)) (
      .cond (.t 16) (
        .seq ((.reg (some [4]) o_slices_IndexFunc_uint64_5)) (
        .ret)) (
        .skip))))) (
    (.reg (some [0, 1, 7, 8]) o_slices_IndexFunc_uint64_6))))
/-- slices.IndexFunc[[]uint64,uint64] -/
@[go_sem] def fc_slices_IndexFunc_uint64 : Fc := ⟨2,
  .seq ((.reg (some [0, 1]) o_slices_IndexFunc_uint64_0)) (
  .seq (.seq ((.reg (some [0, 1, 7, 8]) o_slices_IndexFunc_uint64_1)) (
  .block 0 (
    .loop [0, 1, 7, 8] b_slices_IndexFunc_uint64_0))) (
  .seq ((.reg (some [4]) o_slices_IndexFunc_uint64_7)) (
  .ret))),
  [.t 4]⟩
def o_steadfastref01_is_0 : List Ab.Op := [
  ⟨some 4, none, .mv (.k (.bool false))⟩]
def o_steadfastref01_is_1 : List Ab.Op := [
  ⟨some 5, none, .mv (.t 0)⟩,
  ⟨some 6, none, .bin .geq (.t 5) (.k (.int .i64 0))⟩,
  ⟨some 7, none, .mv (.t 6)⟩,
  ⟨some 8, some (7, true), .mv (.t 0)⟩,
  ⟨some 9, some (7, true), .bin .leq (.t 8) (.k (.int .i64 63))⟩,
  ⟨some 10, none, .pick (.t 7) (.t 9) (.k (.bool false))⟩,
  ⟨some 11, none, .mv (.t 10)⟩,
  ⟨some 12, some (11, true), .mv (.t 1)⟩,
  ⟨some 13, some (11, true), .bin .geq (.t 12) (.k (.int .i64 1))⟩,
  ⟨some 14, none, .pick (.t 11) (.t 13) (.k (.bool false))⟩,
  ⟨some 15, none, .mv (.t 14)⟩,
  ⟨some 16, some (15, true), .mv (.t 1)⟩,
  ⟨some 17, some (15, true), .bin .leq (.t 16) (.k (.int .i64 64))⟩,
  ⟨some 18, none, .pick (.t 15) (.t 17) (.k (.bool false))⟩,
  ⟨some 19, none, .mv (.t 18)⟩,
  ⟨some 20, some (19, true), .mv (.t 0)⟩,
  ⟨some 21, some (19, true), .mv (.t 1)⟩,
  ⟨some 22, some (19, true), .bin .add (.t 20) (.t 21)⟩,
  ⟨some 23, some (19, true), .bin .leq (.t 22) (.k (.int .i64 64))⟩,
  ⟨some 24, none, .pick (.t 19) (.t 23) (.k (.bool false))⟩,
  ⟨some 4, none, .mv (.t 24)⟩]
/-- steadfast/steadfastref01.is -/
@[go_sem] def fc_steadfastref01_is : Fc := ⟨2,
  .seq ((.reg (some [0, 1]) o_steadfastref01_is_0)) (
  .seq ((.reg (some [4]) o_steadfastref01_is_1)) (
  .ret)),
  [.t 4]⟩
def o_steadfastref01_bit_0 : List Ab.Op := [
  ⟨some 4, none, .mv (.k (.int .u64 0))⟩]
def o_steadfastref01_bit_1 : List Ab.Op := [
  ⟨some 5, none, .mv (.t 0)⟩,
  ⟨some 6, none, .mv (.t 1)⟩,
  ⟨some 7, none, .bin .shr (.t 5) (.t 6)⟩,
  ⟨some 8, none, .bin .and (.t 7) (.k (.int .u64 1))⟩,
  ⟨some 4, none, .mv (.t 8)⟩]
/-- steadfast/steadfastref01.bit -/
@[go_sem] def fc_steadfastref01_bit : Fc := ⟨2,
  .seq ((.reg (some [0, 1]) o_steadfastref01_bit_0)) (
  .seq ((.reg (some [4]) o_steadfastref01_bit_1)) (
  .ret)),
  [.t 4]⟩
def o_word_field_0 : List Ab.Op := [
  ⟨some 4, none, .mv (.k (.bool false))⟩]
def o_word_field_1 : List Ab.Op := [
  ⟨some 5, none, .mv (.t 0)⟩,
  ⟨some 6, none, .bin .geq (.t 5) (.k (.int .i64 0))⟩,
  ⟨some 7, none, .mv (.t 6)⟩,
  ⟨some 8, some (7, true), .mv (.t 0)⟩,
  ⟨some 9, some (7, true), .bin .lss (.t 8) (.k (.int .i64 64))⟩,
  ⟨some 10, none, .pick (.t 7) (.t 9) (.k (.bool false))⟩,
  ⟨some 11, none, .mv (.t 10)⟩,
  ⟨some 12, some (11, true), .mv (.t 1)⟩,
  ⟨some 13, some (11, true), .bin .geq (.t 12) (.k (.int .i64 1))⟩,
  ⟨some 14, none, .pick (.t 11) (.t 13) (.k (.bool false))⟩,
  ⟨some 15, none, .mv (.t 14)⟩,
  ⟨some 16, some (15, true), .mv (.t 1)⟩,
  ⟨some 17, some (15, true), .mv (.t 0)⟩,
  ⟨some 18, some (15, true), .bin .sub (.k (.int .i64 64)) (.t 17)⟩,
  ⟨some 19, some (15, true), .bin .leq (.t 16) (.t 18)⟩,
  ⟨some 20, none, .pick (.t 15) (.t 19) (.k (.bool false))⟩,
  ⟨some 4, none, .mv (.t 20)⟩]
/-- steadfast/word.field -/
@[go_sem] def fc_word_field : Fc := ⟨2,
  .seq ((.reg (some [0, 1]) o_word_field_0)) (
  .seq ((.reg (some [4]) o_word_field_1)) (
  .ret)),
  [.t 4]⟩
def o_word_mask_0 : List Ab.Op := [
  ⟨some 2, none, .mv (.k (.int .u64 0))⟩]
def o_word_mask_1 : List Ab.Op := [
  ⟨some 3, none, .mv (.t 0)⟩,
  ⟨some 4, none, .bin .sub (.k (.int .i64 64)) (.t 3)⟩,
  ⟨some 5, none, .bin .shr (.k (.int .u64 18446744073709551615)) (.t 4)⟩,
  ⟨some 2, none, .mv (.t 5)⟩]
/-- steadfast/word.mask -/
@[go_sem] def fc_word_mask : Fc := ⟨1,
  .seq ((.reg (some [0]) o_word_mask_0)) (
  .seq ((.reg (some [2]) o_word_mask_1)) (
  .ret)),
  [.t 2]⟩
def o_regs_right_0 : List Ab.Op := [
  ⟨some 1, none, .box false (.t 0)⟩,
  ⟨some 2, none, .mv (.k (.bool false))⟩]
def o_regs_right_1 : List Ab.Op := [
  ⟨some 3, none, .fad 64 4 10 (.t 1)⟩,
  ⟨some 4, none, .ld 10 (.t 3)⟩]
def o_regs_right_2 : List Ab.Op := [
  ⟨some 6, none, .bin .eql (.t 4) (.k (.int .i64 3))⟩,
  ⟨some 5, none, .mv (.t 6)⟩]
def o_regs_right_3 : List Ab.Op := [
  ⟨some 7, none, .fad 64 5 10 (.t 1)⟩,
  ⟨some 8, none, .ld 10 (.t 7)⟩,
  ⟨some 9, none, .call (.k (.fn f_regs_within [])) [(.t 8), (.k (.int .i64 0)), (.k (.int .i64 48))]⟩,
  ⟨some 10, none, .mv (.t 9)⟩,
  ⟨some 11, some (10, true), .fad 64 6 10 (.t 1)⟩,
  ⟨some 12, some (10, true), .ld 10 (.t 11)⟩,
  ⟨some 13, some (10, true), .call (.k (.fn f_regs_within [])) [(.t 12), (.k (.int .i64 0)), (.k (.int .i64 7))]⟩,
  ⟨some 14, none, .pick (.t 10) (.t 13) (.k (.bool false))⟩,
  ⟨some 15, none, .mv (.t 14)⟩,
  ⟨some 16, some (15, true), .fad 64 7 10 (.t 1)⟩,
  ⟨some 17, some (15, true), .ld 10 (.t 16)⟩,
  ⟨some 18, some (15, true), .call (.k (.fn f_regs_within [])) [(.t 17), (.k (.int .i64 0)), (.k (.int .i64 1))]⟩,
  ⟨some 19, none, .pick (.t 15) (.t 18) (.k (.bool false))⟩,
  ⟨some 2, none, .mv (.t 19)⟩]
def o_regs_right_4 : List Ab.Op := [
  ⟨some 21, none, .bin .eql (.t 4) (.k (.int .i64 4))⟩,
  ⟨some 20, none, .mv (.t 21)⟩]
def o_regs_right_5 : List Ab.Op := [
  ⟨some 22, none, .fad 64 5 10 (.t 1)⟩,
  ⟨some 23, none, .ld 10 (.t 22)⟩,
  ⟨some 24, none, .call (.k (.fn f_regs_within [])) [(.t 23), (.k (.int .i64 0)), (.k (.int .i64 48))]⟩,
  ⟨some 25, none, .mv (.t 24)⟩,
  ⟨some 26, some (25, true), .fad 64 6 10 (.t 1)⟩,
  ⟨some 27, some (25, true), .ld 10 (.t 26)⟩,
  ⟨some 28, some (25, true), .call (.k (.fn f_regs_within [])) [(.t 27), (.k (.int .i64 0)), (.k (.int .i64 7))]⟩,
  ⟨some 29, none, .pick (.t 25) (.t 28) (.k (.bool false))⟩,
  ⟨some 30, none, .mv (.t 29)⟩,
  ⟨some 31, some (30, true), .fad 64 7 10 (.t 1)⟩,
  ⟨some 32, some (30, true), .ld 10 (.t 31)⟩,
  ⟨some 33, some (30, true), .bin .eql (.t 32) (.k (.int .i64 0))⟩,
  ⟨some 34, none, .pick (.t 30) (.t 33) (.k (.bool false))⟩,
  ⟨some 2, none, .mv (.t 34)⟩]
def o_regs_right_6 : List Ab.Op := [
  ⟨some 36, none, .bin .eql (.t 4) (.k (.int .i64 5))⟩,
  ⟨some 35, none, .mv (.t 36)⟩]
def o_regs_right_7 : List Ab.Op := [
  ⟨some 37, none, .fad 64 5 10 (.t 1)⟩,
  ⟨some 38, none, .ld 10 (.t 37)⟩,
  ⟨some 39, none, .call (.k (.fn f_regs_within [])) [(.t 38), (.k (.int .i64 0)), (.k (.int .i64 255))]⟩,
  ⟨some 40, none, .mv (.t 39)⟩,
  ⟨some 41, some (40, true), .fad 64 6 10 (.t 1)⟩,
  ⟨some 42, some (40, true), .ld 10 (.t 41)⟩,
  ⟨some 43, some (40, true), .bin .eql (.t 42) (.k (.int .i64 0))⟩,
  ⟨some 44, none, .pick (.t 40) (.t 43) (.k (.bool false))⟩,
  ⟨some 45, none, .mv (.t 44)⟩,
  ⟨some 46, some (45, true), .fad 64 7 10 (.t 1)⟩,
  ⟨some 47, some (45, true), .ld 10 (.t 46)⟩,
  ⟨some 48, some (45, true), .bin .eql (.t 47) (.k (.int .i64 0))⟩,
  ⟨some 49, none, .pick (.t 45) (.t 48) (.k (.bool false))⟩,
  ⟨some 2, none, .mv (.t 49)⟩]
def o_regs_right_8 : List Ab.Op := [
  ⟨some 51, none, .bin .eql (.t 4) (.k (.int .i64 1))⟩,
  ⟨some 50, none, .mv (.t 51)⟩]
def o_regs_right_9 : List Ab.Op := [
  ⟨some 52, none, .bin .eql (.t 4) (.k (.int .i64 2))⟩,
  ⟨some 50, none, .mv (.t 52)⟩]
def o_regs_right_10 : List Ab.Op := [
  ⟨some 53, none, .fad 64 5 10 (.t 1)⟩,
  ⟨some 54, none, .ld 10 (.t 53)⟩,
  ⟨some 55, none, .bin .eql (.t 54) (.k (.int .i64 0))⟩,
  ⟨some 56, none, .mv (.t 55)⟩,
  ⟨some 57, some (56, true), .fad 64 6 10 (.t 1)⟩,
  ⟨some 58, some (56, true), .ld 10 (.t 57)⟩,
  ⟨some 59, some (56, true), .bin .eql (.t 58) (.k (.int .i64 0))⟩,
  ⟨some 60, none, .pick (.t 56) (.t 59) (.k (.bool false))⟩,
  ⟨some 61, none, .mv (.t 60)⟩,
  ⟨some 62, some (61, true), .fad 64 7 10 (.t 1)⟩,
  ⟨some 63, some (61, true), .ld 10 (.t 62)⟩,
  ⟨some 64, some (61, true), .bin .eql (.t 63) (.k (.int .i64 0))⟩,
  ⟨some 65, none, .pick (.t 61) (.t 64) (.k (.bool false))⟩,
  ⟨some 2, none, .mv (.t 65)⟩]
def o_regs_right_11 : List Ab.Op := [
  ⟨some 2, none, .mv (.k (.bool false))⟩]
/-- steadfast/regs.right -/
@[go_sem] def fc_regs_right : Fc := ⟨1,
  .seq ((.reg (some [1]) o_regs_right_0)) (
  .seq (.seq ((.reg (some [1, 4]) o_regs_right_1)) (
  .block 0 (
    .seq ((.reg (some [1, 4, 5]) o_regs_right_2)) (
    .cond (.t 5) (
      .seq ((.reg (some [2]) o_regs_right_3)) (
      .ret)) (
      .seq ((.reg (some [1, 4, 20]) o_regs_right_4)) (
      .cond (.t 20) (
        .seq ((.reg (some [2]) o_regs_right_5)) (
        .ret)) (
        .seq ((.reg (some [1, 4, 35]) o_regs_right_6)) (
        .cond (.t 35) (
          .seq ((.reg (some [2]) o_regs_right_7)) (
          .ret)) (
          .seq (.seq ((.reg (some [1, 4, 50]) o_regs_right_8)) (
          .cond (.t 50) (
            .skip) (
            (.reg (some [1, 50]) o_regs_right_9)))) (
          .cond (.t 50) (
            .seq ((.reg (some [2]) o_regs_right_10)) (
            .ret)) (
            .skip))))))))))) (
  .seq ((.reg (some [2]) o_regs_right_11)) (
  .ret))),
  [.t 2]⟩
def o_regs_within_0 : List Ab.Op := [
  ⟨some 6, none, .mv (.k (.bool false))⟩]
def o_regs_within_1 : List Ab.Op := [
  ⟨some 7, none, .mv (.t 0)⟩,
  ⟨some 8, none, .mv (.t 1)⟩,
  ⟨some 9, none, .bin .geq (.t 7) (.t 8)⟩,
  ⟨some 10, none, .mv (.t 9)⟩,
  ⟨some 11, some (10, true), .mv (.t 0)⟩,
  ⟨some 12, some (10, true), .mv (.t 2)⟩,
  ⟨some 13, some (10, true), .bin .leq (.t 11) (.t 12)⟩,
  ⟨some 14, none, .pick (.t 10) (.t 13) (.k (.bool false))⟩,
  ⟨some 6, none, .mv (.t 14)⟩]
/-- steadfast/regs.within -/
@[go_sem] def fc_regs_within : Fc := ⟨3,
  .seq ((.reg (some [0, 1, 2]) o_regs_within_0)) (
  .seq ((.reg (some [6]) o_regs_within_1)) (
  .ret)),
  [.t 6]⟩
def D : Nat → Option Fc
  | 3 => some fc_steadfastlaw23_ReachFinds
  | 4 => some fc_steadfastlaw23_ReachApart
  | 12 => some fc_steadfastlaw23_shown
  | 13 => some fc_steadfastlaw23_world
  | 14 => some fc_reach_Names
  | 15 => some fc_steadfastref23_Names
  | 16 => some fc_reach_From
  | 17 => some fc_steadfastref23_From
  | 18 => some fc_reach_Of
  | 19 => some fc_steadfastref23_Of
  | 20 => some fc_reach_Apart
  | 21 => some fc_steadfastref23_Apart
  | 22 => some fc_reach_Holds
  | 23 => some fc_steadfastref23_Holds
  | 26 => some fc_caps_Word
  | 28 => some fc_caps_Of
  | 41 => some fc_steadfastref07_Word
  | 42 => some fc_entry_Names
  | 43 => some fc_steadfastref07_Of
  | 44 => some fc_reach_From_1
  | 45 => some fc_regs_Of
  | 46 => some fc_steadfastref14_Of
  | 47 => some fc_slices_ContainsFunc_int
  | 48 => some fc_reach_Apart_1
  | 49 => some fc_reach_Apart_1_1
  | 50 => some fc_slices_ContainsFunc_api_Object
  | 51 => some fc_reach_Holds_1
  | 52 => some fc_slices_ContainsFunc_uint64
  | 53 => some fc_reach_Holds_1_1
  | 58 => some fc_caps_may
  | 70 => some fc_caps_within
  | 71 => some fc_steadfastref01_With
  | 72 => some fc_steadfastref01_Field
  | 73 => some fc_word_Number
  | 74 => some fc_regs_Of_1
  | 75 => some fc_word_Field
  | 76 => some fc_regs_Line
  | 77 => some fc_steadfastref01_Number
  | 78 => some fc_steadfastref14_Line
  | 79 => some fc_slices_IndexFunc_int
  | 80 => some fc_slices_IndexFunc_api_Object
  | 81 => some fc_slices_IndexFunc_uint64
  | 98 => some fc_steadfastref01_is
  | 99 => some fc_steadfastref01_bit
  | 100 => some fc_word_field
  | 101 => some fc_word_mask
  | 102 => some fc_regs_right
  | 103 => some fc_regs_within
  | _ => none
theorem D_steadfastlaw23_ReachFinds : D f_steadfastlaw23_ReachFinds = some fc_steadfastlaw23_ReachFinds := rfl
theorem D_steadfastlaw23_ReachApart : D f_steadfastlaw23_ReachApart = some fc_steadfastlaw23_ReachApart := rfl
theorem D_steadfastlaw23_shown : D f_steadfastlaw23_shown = some fc_steadfastlaw23_shown := rfl
theorem D_steadfastlaw23_world : D f_steadfastlaw23_world = some fc_steadfastlaw23_world := rfl
theorem D_reach_Names : D f_reach_Names = some fc_reach_Names := rfl
theorem D_steadfastref23_Names : D f_steadfastref23_Names = some fc_steadfastref23_Names := rfl
theorem D_reach_From : D f_reach_From = some fc_reach_From := rfl
theorem D_steadfastref23_From : D f_steadfastref23_From = some fc_steadfastref23_From := rfl
theorem D_reach_Of : D f_reach_Of = some fc_reach_Of := rfl
theorem D_steadfastref23_Of : D f_steadfastref23_Of = some fc_steadfastref23_Of := rfl
theorem D_reach_Apart : D f_reach_Apart = some fc_reach_Apart := rfl
theorem D_steadfastref23_Apart : D f_steadfastref23_Apart = some fc_steadfastref23_Apart := rfl
theorem D_reach_Holds : D f_reach_Holds = some fc_reach_Holds := rfl
theorem D_steadfastref23_Holds : D f_steadfastref23_Holds = some fc_steadfastref23_Holds := rfl
theorem D_caps_Word : D f_caps_Word = some fc_caps_Word := rfl
theorem D_caps_Of : D f_caps_Of = some fc_caps_Of := rfl
theorem D_steadfastref07_Word : D f_steadfastref07_Word = some fc_steadfastref07_Word := rfl
theorem D_entry_Names : D f_entry_Names = some fc_entry_Names := rfl
theorem D_steadfastref07_Of : D f_steadfastref07_Of = some fc_steadfastref07_Of := rfl
theorem D_reach_From_1 : D f_reach_From_1 = some fc_reach_From_1 := rfl
theorem D_regs_Of : D f_regs_Of = some fc_regs_Of := rfl
theorem D_steadfastref14_Of : D f_steadfastref14_Of = some fc_steadfastref14_Of := rfl
theorem D_slices_ContainsFunc_int : D f_slices_ContainsFunc_int = some fc_slices_ContainsFunc_int := rfl
theorem D_reach_Apart_1 : D f_reach_Apart_1 = some fc_reach_Apart_1 := rfl
theorem D_reach_Apart_1_1 : D f_reach_Apart_1_1 = some fc_reach_Apart_1_1 := rfl
theorem D_slices_ContainsFunc_api_Object : D f_slices_ContainsFunc_api_Object = some fc_slices_ContainsFunc_api_Object := rfl
theorem D_reach_Holds_1 : D f_reach_Holds_1 = some fc_reach_Holds_1 := rfl
theorem D_slices_ContainsFunc_uint64 : D f_slices_ContainsFunc_uint64 = some fc_slices_ContainsFunc_uint64 := rfl
theorem D_reach_Holds_1_1 : D f_reach_Holds_1_1 = some fc_reach_Holds_1_1 := rfl
theorem D_caps_may : D f_caps_may = some fc_caps_may := rfl
theorem D_caps_within : D f_caps_within = some fc_caps_within := rfl
theorem D_steadfastref01_With : D f_steadfastref01_With = some fc_steadfastref01_With := rfl
theorem D_steadfastref01_Field : D f_steadfastref01_Field = some fc_steadfastref01_Field := rfl
theorem D_word_Number : D f_word_Number = some fc_word_Number := rfl
theorem D_regs_Of_1 : D f_regs_Of_1 = some fc_regs_Of_1 := rfl
theorem D_word_Field : D f_word_Field = some fc_word_Field := rfl
theorem D_regs_Line : D f_regs_Line = some fc_regs_Line := rfl
theorem D_steadfastref01_Number : D f_steadfastref01_Number = some fc_steadfastref01_Number := rfl
theorem D_steadfastref14_Line : D f_steadfastref14_Line = some fc_steadfastref14_Line := rfl
theorem D_slices_IndexFunc_int : D f_slices_IndexFunc_int = some fc_slices_IndexFunc_int := rfl
theorem D_slices_IndexFunc_api_Object : D f_slices_IndexFunc_api_Object = some fc_slices_IndexFunc_api_Object := rfl
theorem D_slices_IndexFunc_uint64 : D f_slices_IndexFunc_uint64 = some fc_slices_IndexFunc_uint64 := rfl
theorem D_steadfastref01_is : D f_steadfastref01_is = some fc_steadfastref01_is := rfl
theorem D_steadfastref01_bit : D f_steadfastref01_bit = some fc_steadfastref01_bit := rfl
theorem D_word_field : D f_word_field = some fc_word_field := rfl
theorem D_word_mask : D f_word_mask = some fc_word_mask := rfl
theorem D_regs_right : D f_regs_right = some fc_regs_right := rfl
theorem D_regs_within : D f_regs_within = some fc_regs_within := rfl
@[go_sem] noncomputable def R_steadfastlaw23_ReachFinds_0 (_base : Nat) (s : St) (v0 v1 v2 : V) : Option (Ex × Env × St) :=
  some (.normal, [(0, v0), (1, v1), (2, v2)], s)
@[go_sem] theorem rc_steadfastlaw23_ReachFinds_0 {base : Nat} {ρ : Env} {s : St} : rc D base (.reg (some [0, 1, 2]) o_steadfastlaw23_ReachFinds_0) ρ s = R_steadfastlaw23_ReachFinds_0 base s (get ρ 0) (get ρ 1) (get ρ 2) := rc_reg_O.trans (by kernel_rfl)
@[go_sem] noncomputable def R_steadfastlaw23_ReachFinds_1 (_base : Nat) (s : St) (v0 v1 v2 : V) : Option (Ex × Env × St) :=
  obind (rf D f_steadfastlaw23_shown [] s) fun x0 =>
  some (.normal, [(0, v0), (1, v1), (2, v2), (7, x0.1)], x0.2)
@[go_sem] theorem rc_steadfastlaw23_ReachFinds_1 {base : Nat} {ρ : Env} {s : St} : rc D base (.reg (some [0, 1, 2, 7]) o_steadfastlaw23_ReachFinds_1) ρ s = R_steadfastlaw23_ReachFinds_1 base s (get ρ 0) (get ρ 1) (get ρ 2) := rc_reg_O.trans (by kernel_rfl)
@[go_sem] noncomputable def R_steadfastlaw23_ReachFinds_2 (base : Nat) (s : St) (v0 v1 v2 v7 : V) : Option (Ex × Env × St) :=
  obind (rf D f_steadfastlaw23_world [v0] s) fun x0 =>
  let x1 : V := .ptr (St.fresh x0.2 false) [] 30; let s1 : St := St.new x0.2 false (.agg 30 (List.replicate 49 (.agg 26 [(.int .i64 0), (.int .i64 0), (.agg 24 (List.replicate 8 (.int .u64 0)))])))
  obind (stv base s1 30 x0.1 x1) fun s2 =>
  some (.normal, [(1, v1), (2, v2), (7, v7), (8, x1)], s2)
@[go_sem] theorem rc_steadfastlaw23_ReachFinds_2 {base : Nat} {ρ : Env} {s : St} : rc D base (.reg (some [1, 2, 7, 8]) o_steadfastlaw23_ReachFinds_2) ρ s = R_steadfastlaw23_ReachFinds_2 base s (get ρ 0) (get ρ 1) (get ρ 2) (get ρ 7) := rc_reg_O.trans (by kernel_rfl)
@[go_sem] noncomputable def R_steadfastlaw23_ReachFinds_3 (_base : Nat) (s : St) (v1 v2 v7 v8 : V) : Option (Ex × Env × St) :=
  obind (ldv s 30 v8) fun x0 =>
  obind (rf D f_reach_Names [x0, v1] s) fun x1 =>
  obind (extv 0 x1.1) fun x2 =>
  obind (extv 1 x1.1) fun x3 =>
  some (.normal, [(1, v1), (2, v2), (7, v7), (8, v8), (9, x2), (10, x3)], x1.2)
@[go_sem] theorem rc_steadfastlaw23_ReachFinds_3 {base : Nat} {ρ : Env} {s : St} : rc D base (.reg (some [1, 2, 7, 8, 9, 10]) o_steadfastlaw23_ReachFinds_3) ρ s = R_steadfastlaw23_ReachFinds_3 base s (get ρ 1) (get ρ 2) (get ρ 7) (get ρ 8) := rc_reg_O.trans (by kernel_rfl)
@[go_sem] noncomputable def R_steadfastlaw23_ReachFinds_4 (_base : Nat) (s : St) (v1 v2 v7 v8 v9 v10 : V) : Option (Ex × Env × St) :=
  obind (ldv s 30 v8) fun x0 =>
  obind (rf D f_steadfastref23_Names [x0, v1] s) fun x1 =>
  obind (extv 0 x1.1) fun x2 =>
  obind (extv 1 x1.1) fun x3 =>
  some (.normal, [(1, v1), (2, v2), (7, v7), (8, v8), (9, v9), (10, v10), (11, x2), (12, x3)], x1.2)
@[go_sem] theorem rc_steadfastlaw23_ReachFinds_4 {base : Nat} {ρ : Env} {s : St} : rc D base (.reg (some [1, 2, 7, 8, 9, 10, 11, 12]) o_steadfastlaw23_ReachFinds_4) ρ s = R_steadfastlaw23_ReachFinds_4 base s (get ρ 1) (get ρ 2) (get ρ 7) (get ρ 8) (get ρ 9) (get ρ 10) := rc_reg_O.trans (by kernel_rfl)
@[go_sem] noncomputable def R_steadfastlaw23_ReachFinds_5 (base : Nat) (s : St) (v1 v2 v7 v8 v9 v10 v11 v12 : V) : Option (Ex × Env × St) :=
  oguard v7 true (
    obind (vbin .eql v9 v11) fun x0 =>
    oguard x0 true (
      obind (eqv false 0 v10 v12) fun x1 =>
      oguard x1 true (
        obind (ldv s 30 v8) fun x2 =>
        obind (pcallw D (pcut base [x2, v1]) base f_reach_From [x2, v1] s) fun x3 =>
        obind (ldv s 30 v8) fun x4 =>
        obind (pcallw D (pcut base [x4, v1]) base f_steadfastref23_From [x4, v1] s) fun x5 =>
        obind (eqv false 32 x3 x5) fun x6 =>
        oguard x6 true (
          obind (ldv s 30 v8) fun x7 =>
          obind (pcallw D (pcut base [x7, v2]) base f_reach_Of [x7, v2] s) fun x8 =>
          obind (ldv s 30 v8) fun x9 =>
          obind (pcallw D (pcut base [x9, v2]) base f_steadfastref23_Of [x9, v2] s) fun x10 =>
          obind (eqv false 32 x8 x10) fun x11 =>
          some (.normal, [(6, x11)], s)) (
          some (.normal, [(6, (.bool false))], s)) (
          none)) (
        some (.normal, [(6, (.bool false))], s)) (
        none)) (
      some (.normal, [(6, (.bool false))], s)) (
      none)) (
    some (.normal, [(6, (.bool false))], s)) (
    none)
@[go_sem] theorem rc_steadfastlaw23_ReachFinds_5 {base : Nat} {ρ : Env} {s : St} : rc D base (.regd (some [6]) o_steadfastlaw23_ReachFinds_5) ρ s = R_steadfastlaw23_ReachFinds_5 base s (get ρ 1) (get ρ 2) (get ρ 7) (get ρ 8) (get ρ 9) (get ρ 10) (get ρ 11) (get ρ 12) := rc_regd_O.trans (by kernel_rfl)

@[go_sem] noncomputable def R_steadfastlaw23_ReachApart_0 (_base : Nat) (s : St) (v0 v1 v2 : V) : Option (Ex × Env × St) :=
  if V.ok v1 && mayNew false v1 then let x0 : V := .ptr (St.fresh s false) [] (V.tag v1); let s0 : St := St.new s false v1
  some (.normal, [(0, v0), (2, v2), (4, x0)], s0)
  else none
@[go_sem] theorem rc_steadfastlaw23_ReachApart_0 {base : Nat} {ρ : Env} {s : St} : rc D base (.reg (some [0, 2, 4]) o_steadfastlaw23_ReachApart_0) ρ s = R_steadfastlaw23_ReachApart_0 base s (get ρ 0) (get ρ 1) (get ρ 2) := rc_reg_O.trans (by kernel_rfl)
@[go_sem] noncomputable def R_steadfastlaw23_ReachApart_1 (_base : Nat) (s : St) (v0 v2 v4 : V) : Option (Ex × Env × St) :=
  obind (rf D f_steadfastlaw23_shown [] s) fun x0 =>
  some (.normal, [(0, v0), (2, v2), (4, v4), (7, x0.1)], x0.2)
@[go_sem] theorem rc_steadfastlaw23_ReachApart_1 {base : Nat} {ρ : Env} {s : St} : rc D base (.reg (some [0, 2, 4, 7]) o_steadfastlaw23_ReachApart_1) ρ s = R_steadfastlaw23_ReachApart_1 base s (get ρ 0) (get ρ 2) (get ρ 4) := rc_reg_O.trans (by kernel_rfl)
@[go_sem] noncomputable def R_steadfastlaw23_ReachApart_2 (base : Nat) (s : St) (v0 v2 v4 v7 : V) : Option (Ex × Env × St) :=
  obind (rf D f_steadfastlaw23_world [v0] s) fun x0 =>
  let x1 : V := .ptr (St.fresh x0.2 false) [] 30; let s1 : St := St.new x0.2 false (.agg 30 (List.replicate 49 (.agg 26 [(.int .i64 0), (.int .i64 0), (.agg 24 (List.replicate 8 (.int .u64 0)))])))
  obind (stv base s1 30 x0.1 x1) fun s2 =>
  some (.normal, [(2, v2), (4, v4), (7, v7), (8, x1)], s2)
@[go_sem] theorem rc_steadfastlaw23_ReachApart_2 {base : Nat} {ρ : Env} {s : St} : rc D base (.reg (some [2, 4, 7, 8]) o_steadfastlaw23_ReachApart_2) ρ s = R_steadfastlaw23_ReachApart_2 base s (get ρ 0) (get ρ 2) (get ρ 4) (get ρ 7) := rc_reg_O.trans (by kernel_rfl)
@[go_sem] noncomputable def R_steadfastlaw23_ReachApart_3 (_base : Nat) (s : St) (v2 v4 v7 v8 : V) : Option (Ex × Env × St) :=
  obind (iadv 23 2 1 v4 (.int .i64 0)) fun x0 =>
  obind (ldv s 1 x0) fun x1 =>
  some (.normal, [(2, v2), (4, v4), (7, v7), (8, v8), (9, x1)], s)
@[go_sem] theorem rc_steadfastlaw23_ReachApart_3 {base : Nat} {ρ : Env} {s : St} : rc D base (.reg (some [2, 4, 7, 8, 9]) o_steadfastlaw23_ReachApart_3) ρ s = R_steadfastlaw23_ReachApart_3 base s (get ρ 2) (get ρ 4) (get ρ 7) (get ρ 8) := rc_reg_O.trans (by kernel_rfl)
@[go_sem] noncomputable def R_steadfastlaw23_ReachApart_4 (_base : Nat) (s : St) (v2 v4 v7 v8 v9 : V) : Option (Ex × Env × St) :=
  obind (iadv 23 2 1 v4 (.int .i64 1)) fun x0 =>
  obind (ldv s 1 x0) fun x1 =>
  some (.normal, [(2, v2), (7, v7), (8, v8), (9, v9), (10, x1)], s)
@[go_sem] theorem rc_steadfastlaw23_ReachApart_4 {base : Nat} {ρ : Env} {s : St} : rc D base (.reg (some [2, 7, 8, 9, 10]) o_steadfastlaw23_ReachApart_4) ρ s = R_steadfastlaw23_ReachApart_4 base s (get ρ 2) (get ρ 4) (get ρ 7) (get ρ 8) (get ρ 9) := rc_reg_O.trans (by kernel_rfl)
@[go_sem] noncomputable def R_steadfastlaw23_ReachApart_5 (_base : Nat) (s : St) (v2 v7 v8 v9 v10 : V) : Option (Ex × Env × St) :=
  obind (V.slen false v9) fun x0 =>
  obind (vbin .gtr (.int .i64 x0) (.int .i64 8)) fun x1 =>
  some (.normal, [(2, v2), (7, v7), (8, v8), (9, v9), (10, v10), (20, x1)], s)
@[go_sem] theorem rc_steadfastlaw23_ReachApart_5 {base : Nat} {ρ : Env} {s : St} : rc D base (.reg (some [2, 7, 8, 9, 10, 20]) o_steadfastlaw23_ReachApart_5) ρ s = R_steadfastlaw23_ReachApart_5 base s (get ρ 2) (get ρ 7) (get ρ 8) (get ρ 9) (get ρ 10) := rc_reg_O.trans (by kernel_rfl)
@[go_sem] noncomputable def R_steadfastlaw23_ReachApart_6 (_base : Nat) (s : St) (v2 v7 v8 v9 v10 : V) : Option (Ex × Env × St) :=
  obind (slcv 10 none (some (.int .i64 8)) none v9) fun x0 =>
  some (.normal, [(2, v2), (7, v7), (8, v8), (9, x0), (10, v10)], s)
@[go_sem] theorem rc_steadfastlaw23_ReachApart_6 {base : Nat} {ρ : Env} {s : St} : rc D base (.reg (some [2, 7, 8, 9, 10]) o_steadfastlaw23_ReachApart_6) ρ s = R_steadfastlaw23_ReachApart_6 base s (get ρ 2) (get ρ 7) (get ρ 8) (get ρ 9) (get ρ 10) := rc_reg_O.trans (by kernel_rfl)
@[go_sem] noncomputable def R_steadfastlaw23_ReachApart_7 (_base : Nat) (s : St) (v2 v7 v8 v9 v10 : V) : Option (Ex × Env × St) :=
  obind (V.slen false v10) fun x0 =>
  obind (vbin .gtr (.int .i64 x0) (.int .i64 8)) fun x1 =>
  some (.normal, [(2, v2), (7, v7), (8, v8), (9, v9), (10, v10), (25, x1)], s)
@[go_sem] theorem rc_steadfastlaw23_ReachApart_7 {base : Nat} {ρ : Env} {s : St} : rc D base (.reg (some [2, 7, 8, 9, 10, 25]) o_steadfastlaw23_ReachApart_7) ρ s = R_steadfastlaw23_ReachApart_7 base s (get ρ 2) (get ρ 7) (get ρ 8) (get ρ 9) (get ρ 10) := rc_reg_O.trans (by kernel_rfl)
@[go_sem] noncomputable def R_steadfastlaw23_ReachApart_8 (_base : Nat) (s : St) (v2 v7 v8 v9 v10 : V) : Option (Ex × Env × St) :=
  obind (slcv 10 none (some (.int .i64 8)) none v10) fun x0 =>
  some (.normal, [(2, v2), (7, v7), (8, v8), (9, v9), (10, x0)], s)
@[go_sem] theorem rc_steadfastlaw23_ReachApart_8 {base : Nat} {ρ : Env} {s : St} : rc D base (.reg (some [2, 7, 8, 9, 10]) o_steadfastlaw23_ReachApart_8) ρ s = R_steadfastlaw23_ReachApart_8 base s (get ρ 2) (get ρ 7) (get ρ 8) (get ρ 9) (get ρ 10) := rc_reg_O.trans (by kernel_rfl)
@[go_sem] noncomputable def R_steadfastlaw23_ReachApart_9 (base : Nat) (s : St) (v2 v7 v8 v9 v10 : V) : Option (Ex × Env × St) :=
  oguard v7 true (
    obind (ldv s 30 v8) fun x0 =>
    obind (pcallw D (pcut base [x0, v9, v10]) base f_reach_Apart [x0, v9, v10] s) fun x1 =>
    obind (ldv s 30 v8) fun x2 =>
    obind (pcallw D (pcut base [x2, v9, v10]) base f_steadfastref23_Apart [x2, v9, v10] s) fun x3 =>
    obind (eqv false 0 x1 x3) fun x4 =>
    oguard x4 true (
      obind (ldv s 30 v8) fun x5 =>
      obind (pcallw D (pcut base [x5, v10, v9]) base f_reach_Apart [x5, v10, v9] s) fun x6 =>
      obind (ldv s 30 v8) fun x7 =>
      obind (pcallw D (pcut base [x7, v9, v10]) base f_reach_Apart [x7, v9, v10] s) fun x8 =>
      obind (eqv false 0 x6 x8) fun x9 =>
      oguard x9 true (
        obind (ldv s 30 v8) fun x10 =>
        obind (pcallw D (pcut base [x10, v2]) base f_reach_Holds [x10, v2] s) fun x11 =>
        obind (ldv s 30 v8) fun x12 =>
        obind (pcallw D (pcut base [x12, v2]) base f_steadfastref23_Holds [x12, v2] s) fun x13 =>
        obind (eqv false 0 x11 x13) fun x14 =>
        some (.normal, [(6, x14)], s)) (
        some (.normal, [(6, (.bool false))], s)) (
        none)) (
      some (.normal, [(6, (.bool false))], s)) (
      none)) (
    some (.normal, [(6, (.bool false))], s)) (
    none)
@[go_sem] theorem rc_steadfastlaw23_ReachApart_9 {base : Nat} {ρ : Env} {s : St} : rc D base (.regd (some [6]) o_steadfastlaw23_ReachApart_9) ρ s = R_steadfastlaw23_ReachApart_9 base s (get ρ 2) (get ρ 7) (get ρ 8) (get ρ 9) (get ρ 10) := rc_regd_O.trans (by kernel_rfl)

@[go_sem] noncomputable def R_steadfastlaw23_shown_0 (_base : Nat) (s : St) : Option (Ex × Env × St) :=
  some (.normal, [], s)
@[go_sem] theorem rc_steadfastlaw23_shown_0 {base : Nat} {ρ : Env} {s : St} : rc D base (.reg (some []) o_steadfastlaw23_shown_0) ρ s = R_steadfastlaw23_shown_0 base s := rc_reg_O.trans (by kernel_rfl)
@[go_sem] noncomputable def R_steadfastlaw23_shown_1 (_base : Nat) (s : St) : Option (Ex × Env × St) :=
  obind (setParts [(.int .i64 0), (.int .i64 0), (.int .i64 0), (.int .i64 0), (.int .i64 0)] [(0, (.int .i64 1)), (1, (.int .i64 1))]) fun x0 =>
  obind (rf D f_steadfastref07_Word [(.agg 40 x0)] s) fun x1 =>
  obind (extv 0 x1.1) fun x2 =>
  obind (extv 1 x1.1) fun _x3 =>
  some (.normal, [(1, x2)], x1.2)
@[go_sem] theorem rc_steadfastlaw23_shown_1 {base : Nat} {ρ : Env} {s : St} : rc D base (.reg (some [1]) o_steadfastlaw23_shown_1) ρ s = R_steadfastlaw23_shown_1 base s := rc_reg_O.trans (by kernel_rfl)
@[go_sem] noncomputable def R_steadfastlaw23_shown_2 (_base : Nat) (s : St) (v1 : V) : Option (Ex × Env × St) :=
  obind (setParts [(.int .i64 0), (.int .i64 0), (.int .i64 0), (.int .i64 0), (.int .i64 0)] [(0, (.int .i64 2)), (1, (.int .i64 1)), (2, (.int .i64 1))]) fun x0 =>
  obind (rf D f_steadfastref07_Word [(.agg 40 x0)] s) fun x1 =>
  obind (extv 0 x1.1) fun x2 =>
  obind (extv 1 x1.1) fun _x3 =>
  some (.normal, [(1, v1), (3, x2)], x1.2)
@[go_sem] theorem rc_steadfastlaw23_shown_2 {base : Nat} {ρ : Env} {s : St} : rc D base (.reg (some [1, 3]) o_steadfastlaw23_shown_2) ρ s = R_steadfastlaw23_shown_2 base s (get ρ 1) := rc_reg_O.trans (by kernel_rfl)
@[go_sem] noncomputable def R_steadfastlaw23_shown_3 (base : Nat) (s : St) (v1 v3 : V) : Option (Ex × Env × St) :=
  obind (setParts [(.int .i64 0), (.int .i64 0), (.agg 24 (List.replicate 8 (.int .u64 0)))] [(0, (.int .i64 1))]) fun x0 =>
  obind (setParts (List.replicate 8 (.int .u64 0)) [(2, v1)]) fun x1 =>
  obind (setParts [(.int .i64 0), (.int .i64 0), (.agg 24 (List.replicate 8 (.int .u64 0)))] [(0, (.int .i64 2)), (2, (.agg 24 x1))]) fun x2 =>
  obind (bslv false 28 26 2 (.agg 26 [(.int .i64 0), (.int .i64 0), (.agg 24 (List.replicate 8 (.int .u64 0)))]) s [(0, (.agg 26 x0)), (1, (.agg 26 x2))]) fun x3 =>
  obind (rf D f_steadfastlaw23_world [x3.1] x3.2) fun x4 =>
  let x5 : V := .ptr (St.fresh x4.2 false) [] 30; let s5 : St := St.new x4.2 false (.agg 30 (List.replicate 49 (.agg 26 [(.int .i64 0), (.int .i64 0), (.agg 24 (List.replicate 8 (.int .u64 0)))])))
  obind (stv base s5 30 x4.1 x5) fun s6 =>
  some (.normal, [(3, v3), (5, x5)], s6)
@[go_sem] theorem rc_steadfastlaw23_shown_3 {base : Nat} {ρ : Env} {s : St} : rc D base (.reg (some [3, 5]) o_steadfastlaw23_shown_3) ρ s = R_steadfastlaw23_shown_3 base s (get ρ 1) (get ρ 3) := rc_reg_O.trans (by kernel_rfl)
@[go_sem] noncomputable def R_steadfastlaw23_shown_4 (base : Nat) (s : St) (v3 v5 : V) : Option (Ex × Env × St) :=
  obind (ldv s 30 v5) fun x0 =>
  obind (rf D f_reach_From [x0, v3] s) fun x1 =>
  let x2 : V := .ptr (St.fresh x1.2 false) [] 32; let s2 : St := St.new x1.2 false (.agg 32 (List.replicate 49 (.bool false)))
  obind (stv base s2 32 x1.1 x2) fun s3 =>
  some (.normal, [(5, v5), (6, x2)], s3)
@[go_sem] theorem rc_steadfastlaw23_shown_4 {base : Nat} {ρ : Env} {s : St} : rc D base (.reg (some [5, 6]) o_steadfastlaw23_shown_4) ρ s = R_steadfastlaw23_shown_4 base s (get ρ 3) (get ρ 5) := rc_reg_O.trans (by kernel_rfl)
@[go_sem] noncomputable def R_steadfastlaw23_shown_5 (_base : Nat) (s : St) (v5 v6 : V) : Option (Ex × Env × St) :=
  obind (iadv 32 49 0 v6 (.int .i64 0)) fun x0 =>
  obind (ldv s 0 x0) fun x1 =>
  oguard x1 true (
    obind (iadv 32 49 0 v6 (.int .i64 1)) fun x2 =>
    obind (ldv s 0 x2) fun x3 =>
    oguard x3 true (
      obind (iadv 32 49 0 v6 (.int .i64 2)) fun x4 =>
      obind (ldv s 0 x4) fun x5 =>
      obind (vun .not x5) fun x6 =>
      oguard x6 true (
        obind (ldv s 30 v5) fun x7 =>
        obind (rf D f_reach_From [x7, (.int .u64 0)] s) fun x8 =>
        obind (setParts (List.replicate 49 (.bool false)) []) fun x9 =>
        obind (eqv false 32 x8.1 (.agg 32 x9)) fun x10 =>
        some (.normal, [(0, x10)], x8.2)) (
        some (.normal, [(0, (.bool false))], s)) (
        none)) (
      some (.normal, [(0, (.bool false))], s)) (
      none)) (
    some (.normal, [(0, (.bool false))], s)) (
    none)
@[go_sem] theorem rc_steadfastlaw23_shown_5 {base : Nat} {ρ : Env} {s : St} : rc D base (.reg (some [0]) o_steadfastlaw23_shown_5) ρ s = R_steadfastlaw23_shown_5 base s (get ρ 5) (get ρ 6) := rc_reg_O.trans (by kernel_rfl)

@[go_sem] noncomputable def R_steadfastlaw23_world_0 (_base : Nat) (s : St) (v0 : V) : Option (Ex × Env × St) :=
  let x0 : V := .ptr (St.fresh s false) [] 30; let s0 : St := St.new s false (.agg 30 (List.replicate 49 (.agg 26 [(.int .i64 0), (.int .i64 0), (.agg 24 (List.replicate 8 (.int .u64 0)))])))
  some (.normal, [(0, v0), (2, x0)], s0)
@[go_sem] theorem rc_steadfastlaw23_world_0 {base : Nat} {ρ : Env} {s : St} : rc D base (.reg (some [0, 2]) o_steadfastlaw23_world_0) ρ s = R_steadfastlaw23_world_0 base s (get ρ 0) := rc_reg_O.trans (by kernel_rfl)
@[go_sem] noncomputable def R_steadfastlaw23_world_1 (base : Nat) (s : St) (v0 v2 : V) : Option (Ex × Env × St) :=
  obind (setParts (List.replicate 49 (.agg 26 [(.int .i64 0), (.int .i64 0), (.agg 24 (List.replicate 8 (.int .u64 0)))])) []) fun x0 =>
  let x1 : V := .ptr (St.fresh s false) [] 30; let s1 : St := St.new s false (.agg 30 (List.replicate 49 (.agg 26 [(.int .i64 0), (.int .i64 0), (.agg 24 (List.replicate 8 (.int .u64 0)))])))
  obind (stv base s1 30 (.agg 30 x0) x1) fun s2 =>
  some (.normal, [(0, v0), (2, v2), (3, x1)], s2)
@[go_sem] theorem rc_steadfastlaw23_world_1 {base : Nat} {ρ : Env} {s : St} : rc D base (.reg (some [0, 2, 3]) o_steadfastlaw23_world_1) ρ s = R_steadfastlaw23_world_1 base s (get ρ 0) (get ρ 2) := rc_reg_O.trans (by kernel_rfl)
@[go_sem] noncomputable def R_steadfastlaw23_world_2 (_base : Nat) (s : St) (v0 v2 v3 : V) : Option (Ex × Env × St) :=
  some (.normal, [(0, v0), (2, v2), (3, v3), (4, (.int .i64 0))], s)
@[go_sem] theorem rc_steadfastlaw23_world_2 {base : Nat} {ρ : Env} {s : St} : rc D base (.reg (some [0, 2, 3, 4]) o_steadfastlaw23_world_2) ρ s = R_steadfastlaw23_world_2 base s (get ρ 0) (get ρ 2) (get ρ 3) := rc_reg_O.trans (by kernel_rfl)
@[go_sem] noncomputable def R_steadfastlaw23_world_3 (_base : Nat) (s : St) (v0 v2 v3 v4 : V) : Option (Ex × Env × St) :=
  obind (V.slen false v0) fun x0 =>
  obind (vbin .lss v4 (.int .i64 x0)) fun x1 =>
  oguard x1 true (
    obind (vbin .lss v4 (.int .i64 49)) fun x2 =>
    some (.normal, [(0, v0), (2, v2), (3, v3), (4, v4), (15, x2)], s)) (
    some (.normal, [(0, v0), (2, v2), (3, v3), (4, v4), (15, (.bool false))], s)) (
    none)
@[go_sem] theorem rc_steadfastlaw23_world_3 {base : Nat} {ρ : Env} {s : St} : rc D base (.reg (some [0, 2, 3, 4, 15]) o_steadfastlaw23_world_3) ρ s = R_steadfastlaw23_world_3 base s (get ρ 0) (get ρ 2) (get ρ 3) (get ρ 4) := rc_reg_O.trans (by kernel_rfl)
@[go_sem] noncomputable def R_steadfastlaw23_world_4 (_base : Nat) (s : St) (v0 v2 v3 v4 : V) : Option (Ex × Env × St) :=
  obind (sadv 26 v0 v4) fun x0 =>
  obind (fadv 26 0 10 x0) fun x1 =>
  obind (ldv s 10 x1) fun x2 =>
  obind (vbin .rem x2 (.int .i64 5)) fun x3 =>
  some (.normal, [(0, v0), (2, v2), (3, v3), (4, v4), (5, x3)], s)
@[go_sem] theorem rc_steadfastlaw23_world_4 {base : Nat} {ρ : Env} {s : St} : rc D base (.reg (some [0, 2, 3, 4, 5]) o_steadfastlaw23_world_4) ρ s = R_steadfastlaw23_world_4 base s (get ρ 0) (get ρ 2) (get ρ 3) (get ρ 4) := rc_reg_O.trans (by kernel_rfl)
@[go_sem] noncomputable def R_steadfastlaw23_world_5 (_base : Nat) (s : St) (v0 v2 v3 v4 v5 : V) : Option (Ex × Env × St) :=
  obind (vbin .lss v5 (.int .i64 0)) fun x0 =>
  some (.normal, [(0, v0), (2, v2), (3, v3), (4, v4), (5, v5), (25, x0)], s)
@[go_sem] theorem rc_steadfastlaw23_world_5 {base : Nat} {ρ : Env} {s : St} : rc D base (.reg (some [0, 2, 3, 4, 5, 25]) o_steadfastlaw23_world_5) ρ s = R_steadfastlaw23_world_5 base s (get ρ 0) (get ρ 2) (get ρ 3) (get ρ 4) (get ρ 5) := rc_reg_O.trans (by kernel_rfl)
@[go_sem] noncomputable def R_steadfastlaw23_world_6 (_base : Nat) (s : St) (v0 v2 v3 v4 v5 : V) : Option (Ex × Env × St) :=
  obind (vun .neg v5) fun x0 =>
  some (.normal, [(0, v0), (2, v2), (3, v3), (4, v4), (5, x0)], s)
@[go_sem] theorem rc_steadfastlaw23_world_6 {base : Nat} {ρ : Env} {s : St} : rc D base (.reg (some [0, 2, 3, 4, 5]) o_steadfastlaw23_world_6) ρ s = R_steadfastlaw23_world_6 base s (get ρ 0) (get ρ 2) (get ρ 3) (get ρ 4) (get ρ 5) := rc_reg_O.trans (by kernel_rfl)
@[go_sem] noncomputable def R_steadfastlaw23_world_7 (_base : Nat) (s : St) (v0 v2 v3 v4 v5 : V) : Option (Ex × Env × St) :=
  obind (sadv 26 v0 v4) fun x0 =>
  obind (fadv 26 1 10 x0) fun x1 =>
  obind (ldv s 10 x1) fun x2 =>
  obind (vbin .rem x2 (.int .i64 100)) fun x3 =>
  some (.normal, [(0, v0), (2, v2), (3, v3), (4, v4), (5, v5), (6, x3)], s)
@[go_sem] theorem rc_steadfastlaw23_world_7 {base : Nat} {ρ : Env} {s : St} : rc D base (.reg (some [0, 2, 3, 4, 5, 6]) o_steadfastlaw23_world_7) ρ s = R_steadfastlaw23_world_7 base s (get ρ 0) (get ρ 2) (get ρ 3) (get ρ 4) (get ρ 5) := rc_reg_O.trans (by kernel_rfl)
@[go_sem] noncomputable def R_steadfastlaw23_world_8 (_base : Nat) (s : St) (v0 v2 v3 v4 v5 v6 : V) : Option (Ex × Env × St) :=
  obind (vbin .lss v6 (.int .i64 0)) fun x0 =>
  some (.normal, [(0, v0), (2, v2), (3, v3), (4, v4), (5, v5), (6, v6), (35, x0)], s)
@[go_sem] theorem rc_steadfastlaw23_world_8 {base : Nat} {ρ : Env} {s : St} : rc D base (.reg (some [0, 2, 3, 4, 5, 6, 35]) o_steadfastlaw23_world_8) ρ s = R_steadfastlaw23_world_8 base s (get ρ 0) (get ρ 2) (get ρ 3) (get ρ 4) (get ρ 5) (get ρ 6) := rc_reg_O.trans (by kernel_rfl)
@[go_sem] noncomputable def R_steadfastlaw23_world_9 (_base : Nat) (s : St) (v0 v2 v3 v4 v5 v6 : V) : Option (Ex × Env × St) :=
  obind (vun .neg v6) fun x0 =>
  some (.normal, [(0, v0), (2, v2), (3, v3), (4, v4), (5, v5), (6, x0)], s)
@[go_sem] theorem rc_steadfastlaw23_world_9 {base : Nat} {ρ : Env} {s : St} : rc D base (.reg (some [0, 2, 3, 4, 5, 6]) o_steadfastlaw23_world_9) ρ s = R_steadfastlaw23_world_9 base s (get ρ 0) (get ρ 2) (get ρ 3) (get ρ 4) (get ρ 5) (get ρ 6) := rc_reg_O.trans (by kernel_rfl)
@[go_sem] noncomputable def R_steadfastlaw23_world_10 (_base : Nat) (s : St) (v0 v2 v3 v4 v5 v6 : V) : Option (Ex × Env × St) :=
  obind (vbin .neq v5 (.int .i64 0)) fun x0 =>
  some (.normal, [(0, v0), (2, v2), (3, v3), (4, v4), (5, v5), (6, v6), (39, x0)], s)
@[go_sem] theorem rc_steadfastlaw23_world_10 {base : Nat} {ρ : Env} {s : St} : rc D base (.reg (some [0, 2, 3, 4, 5, 6, 39]) o_steadfastlaw23_world_10) ρ s = R_steadfastlaw23_world_10 base s (get ρ 0) (get ρ 2) (get ρ 3) (get ρ 4) (get ρ 5) (get ρ 6) := rc_reg_O.trans (by kernel_rfl)
@[go_sem] noncomputable def R_steadfastlaw23_world_11 (base : Nat) (s : St) (v0 v2 v3 v4 v5 v6 : V) : Option (Ex × Env × St) :=
  obind (sadv 26 v0 v4) fun x0 =>
  obind (fadv 26 2 24 x0) fun x1 =>
  obind (ldv s 24 x1) fun x2 =>
  obind (setParts [(.int .i64 0), (.int .i64 0), (.agg 24 (List.replicate 8 (.int .u64 0)))] [(0, v5), (1, v6), (2, x2)]) fun x3 =>
  obind (iadv 30 49 26 v3 v4) fun x4 =>
  obind (stv base s 26 (.agg 26 x3) x4) fun s5 =>
  some (.normal, [(0, v0), (2, v2), (3, v3), (4, v4)], s5)
@[go_sem] theorem rc_steadfastlaw23_world_11 {base : Nat} {ρ : Env} {s : St} : rc D base (.reg (some [0, 2, 3, 4]) o_steadfastlaw23_world_11) ρ s = R_steadfastlaw23_world_11 base s (get ρ 0) (get ρ 2) (get ρ 3) (get ρ 4) (get ρ 5) (get ρ 6) := rc_reg_O.trans (by kernel_rfl)
@[go_sem] noncomputable def R_steadfastlaw23_world_12 (_base : Nat) (s : St) (v0 v2 v3 v4 : V) : Option (Ex × Env × St) :=
  obind (vbin .add v4 (.int .i64 1)) fun x0 =>
  some (.normal, [(0, v0), (2, v2), (3, v3), (4, x0)], s)
@[go_sem] theorem rc_steadfastlaw23_world_12 {base : Nat} {ρ : Env} {s : St} : rc D base (.reg (some [0, 2, 3, 4]) o_steadfastlaw23_world_12) ρ s = R_steadfastlaw23_world_12 base s (get ρ 0) (get ρ 2) (get ρ 3) (get ρ 4) := rc_reg_O.trans (by kernel_rfl)
@[go_sem] noncomputable def R_steadfastlaw23_world_13 (base : Nat) (s : St) (v2 v3 : V) : Option (Ex × Env × St) :=
  obind (ldv s 30 v3) fun x0 =>
  obind (stv base s 30 x0 v2) fun s1 =>
  some (.normal, [(2, v2)], s1)
@[go_sem] theorem rc_steadfastlaw23_world_13 {base : Nat} {ρ : Env} {s : St} : rc D base (.reg (some [2]) o_steadfastlaw23_world_13) ρ s = R_steadfastlaw23_world_13 base s (get ρ 2) (get ρ 3) := rc_reg_O.trans (by kernel_rfl)

@[go_sem] noncomputable def R_reach_Names_0 (_base : Nat) (s : St) (v0 v1 : V) : Option (Ex × Env × St) :=
  if V.ok v0 && mayNew false v0 then let x0 : V := .ptr (St.fresh s false) [] (V.tag v0); let s0 : St := St.new s false v0
  some (.normal, [(1, v1), (2, x0)], s0)
  else none
@[go_sem] theorem rc_reach_Names_0 {base : Nat} {ρ : Env} {s : St} : rc D base (.reg (some [1, 2]) o_reach_Names_0) ρ s = R_reach_Names_0 base s (get ρ 0) (get ρ 1) := rc_reg_O.trans (by kernel_rfl)
@[go_sem] noncomputable def R_reach_Names_1 (base : Nat) (s : St) (v1 v2 : V) : Option (Ex × Env × St) :=
  obind (rf D f_caps_Of [v1] s) fun x0 =>
  obind (extv 0 x0.1) fun x1 =>
  obind (extv 1 x0.1) fun x2 =>
  let x3 : V := .ptr (St.fresh x0.2 false) [] 40; let s3 : St := St.new x0.2 false (.agg 40 [(.int .i64 0), (.int .i64 0), (.int .i64 0), (.int .i64 0), (.int .i64 0)])
  obind (stv base s3 40 x1 x3) fun s4 =>
  some (.normal, [(1, v1), (2, v2), (6, x3), (7, x2)], s4)
@[go_sem] theorem rc_reach_Names_1 {base : Nat} {ρ : Env} {s : St} : rc D base (.reg (some [1, 2, 6, 7]) o_reach_Names_1) ρ s = R_reach_Names_1 base s (get ρ 1) (get ρ 2) := rc_reg_O.trans (by kernel_rfl)
@[go_sem] noncomputable def R_reach_Names_2 (_base : Nat) (s : St) (v1 v2 v6 v7 : V) : Option (Ex × Env × St) :=
  obind (vun .not v7) fun x0 =>
  some (.normal, [(1, v1), (2, v2), (6, v6), (15, x0)], s)
@[go_sem] theorem rc_reach_Names_2 {base : Nat} {ρ : Env} {s : St} : rc D base (.reg (some [1, 2, 6, 15]) o_reach_Names_2) ρ s = R_reach_Names_2 base s (get ρ 1) (get ρ 2) (get ρ 6) (get ρ 7) := rc_reg_O.trans (by kernel_rfl)
@[go_sem] noncomputable def R_reach_Names_3 (_base : Nat) (s : St) : Option (Ex × Env × St) :=
  some (.normal, [(4, (.int .i64 0)), (5, (.bool false))], s)
@[go_sem] theorem rc_reach_Names_3 {base : Nat} {ρ : Env} {s : St} : rc D base (.reg (some [4, 5]) o_reach_Names_3) ρ s = R_reach_Names_3 base s := rc_reg_O.trans (by kernel_rfl)
@[go_sem] noncomputable def R_reach_Names_4 (base : Nat) (s : St) (v1 v2 v6 : V) : Option (Ex × Env × St) :=
  obind (fadv 40 2 10 v6) fun x0 =>
  obind (ldv s 10 x0) fun x1 =>
  obind (iadv 30 49 26 v2 x1) fun x2 =>
  obind (ldv s 26 x2) fun x3 =>
  let x4 : V := .ptr (St.fresh s false) [] 26; let s4 : St := St.new s false (.agg 26 [(.int .i64 0), (.int .i64 0), (.agg 24 (List.replicate 8 (.int .u64 0)))])
  obind (stv base s4 26 x3 x4) fun s5 =>
  some (.normal, [(1, v1), (6, v6), (8, x4)], s5)
@[go_sem] theorem rc_reach_Names_4 {base : Nat} {ρ : Env} {s : St} : rc D base (.reg (some [1, 6, 8]) o_reach_Names_4) ρ s = R_reach_Names_4 base s (get ρ 1) (get ρ 2) (get ρ 6) := rc_reg_O.trans (by kernel_rfl)
@[go_sem] noncomputable def R_reach_Names_5 (_base : Nat) (s : St) (v1 v6 v8 : V) : Option (Ex × Env × St) :=
  obind (fadv 26 0 10 v8) fun x0 =>
  obind (ldv s 10 x0) fun x1 =>
  obind (fadv 26 1 10 v8) fun x2 =>
  obind (ldv s 10 x2) fun x3 =>
  obind (setParts [(.int .i64 0), (.int .i64 0), (.int .i64 0)] [(0, x1), (1, x3)]) fun x4 =>
  obind (fadv 40 2 10 v6) fun x5 =>
  obind (ldv s 10 x5) fun x6 =>
  obind (rf D f_entry_Names [(.agg 42 x4), x6, v1] s) fun x7 =>
  obind (vbin .neq x7.1 (.int .i64 0)) fun x8 =>
  some (.normal, [(6, v6), (29, x8)], x7.2)
@[go_sem] theorem rc_reach_Names_5 {base : Nat} {ρ : Env} {s : St} : rc D base (.reg (some [6, 29]) o_reach_Names_5) ρ s = R_reach_Names_5 base s (get ρ 1) (get ρ 6) (get ρ 8) := rc_reg_O.trans (by kernel_rfl)
@[go_sem] noncomputable def R_reach_Names_6 (_base : Nat) (s : St) : Option (Ex × Env × St) :=
  some (.normal, [(4, (.int .i64 0)), (5, (.bool false))], s)
@[go_sem] theorem rc_reach_Names_6 {base : Nat} {ρ : Env} {s : St} : rc D base (.reg (some [4, 5]) o_reach_Names_6) ρ s = R_reach_Names_6 base s := rc_reg_O.trans (by kernel_rfl)
@[go_sem] noncomputable def R_reach_Names_7 (_base : Nat) (s : St) (v6 : V) : Option (Ex × Env × St) :=
  obind (fadv 40 2 10 v6) fun x0 =>
  obind (ldv s 10 x0) fun x1 =>
  some (.normal, [(4, x1), (5, (.bool true))], s)
@[go_sem] theorem rc_reach_Names_7 {base : Nat} {ρ : Env} {s : St} : rc D base (.reg (some [4, 5]) o_reach_Names_7) ρ s = R_reach_Names_7 base s (get ρ 6) := rc_reg_O.trans (by kernel_rfl)

@[go_sem] noncomputable def R_steadfastref23_Names_0 (_base : Nat) (s : St) (v0 v1 : V) : Option (Ex × Env × St) :=
  if V.ok v0 && mayNew false v0 then let x0 : V := .ptr (St.fresh s false) [] (V.tag v0); let s0 : St := St.new s false v0
  some (.normal, [(1, v1), (2, x0)], s0)
  else none
@[go_sem] theorem rc_steadfastref23_Names_0 {base : Nat} {ρ : Env} {s : St} : rc D base (.reg (some [1, 2]) o_steadfastref23_Names_0) ρ s = R_steadfastref23_Names_0 base s (get ρ 0) (get ρ 1) := rc_reg_O.trans (by kernel_rfl)
@[go_sem] noncomputable def R_steadfastref23_Names_1 (base : Nat) (s : St) (v1 v2 : V) : Option (Ex × Env × St) :=
  obind (rf D f_steadfastref07_Of [v1] s) fun x0 =>
  obind (extv 0 x0.1) fun x1 =>
  obind (extv 1 x0.1) fun x2 =>
  let x3 : V := .ptr (St.fresh x0.2 false) [] 40; let s3 : St := St.new x0.2 false (.agg 40 [(.int .i64 0), (.int .i64 0), (.int .i64 0), (.int .i64 0), (.int .i64 0)])
  obind (stv base s3 40 x1 x3) fun s4 =>
  some (.normal, [(2, v2), (6, x3), (7, x2)], s4)
@[go_sem] theorem rc_steadfastref23_Names_1 {base : Nat} {ρ : Env} {s : St} : rc D base (.reg (some [2, 6, 7]) o_steadfastref23_Names_1) ρ s = R_steadfastref23_Names_1 base s (get ρ 1) (get ρ 2) := rc_reg_O.trans (by kernel_rfl)
@[go_sem] noncomputable def R_steadfastref23_Names_2 (_base : Nat) (s : St) (v2 v6 v7 : V) : Option (Ex × Env × St) :=
  obind (vun .not v7) fun x0 =>
  oguard x0 false (
    obind (fadv 40 0 10 v6) fun x1 =>
    obind (ldv s 10 x1) fun x2 =>
    obind (vbin .gtr x2 (.int .i64 4)) fun x3 =>
    oguard x3 false (
      obind (fadv 40 2 10 v6) fun x4 =>
      obind (ldv s 10 x4) fun x5 =>
      obind (iadv 30 49 26 v2 x5) fun x6 =>
      obind (fadv 26 0 10 x6) fun x7 =>
      obind (ldv s 10 x7) fun x8 =>
      obind (fadv 40 0 10 v6) fun x9 =>
      obind (ldv s 10 x9) fun x10 =>
      obind (vbin .neq x8 x10) fun x11 =>
      oguard x11 false (
        obind (fadv 40 2 10 v6) fun x12 =>
        obind (ldv s 10 x12) fun x13 =>
        obind (iadv 30 49 26 v2 x13) fun x14 =>
        obind (fadv 26 1 10 x14) fun x15 =>
        obind (ldv s 10 x15) fun x16 =>
        obind (fadv 40 3 10 v6) fun x17 =>
        obind (ldv s 10 x17) fun x18 =>
        obind (vbin .neq x16 x18) fun x19 =>
        some (.normal, [(6, v6), (39, x19)], s)) (
        some (.normal, [(6, v6), (39, (.bool true))], s)) (
        none)) (
      some (.normal, [(6, v6), (39, (.bool true))], s)) (
      none)) (
    some (.normal, [(6, v6), (39, (.bool true))], s)) (
    none)
@[go_sem] theorem rc_steadfastref23_Names_2 {base : Nat} {ρ : Env} {s : St} : rc D base (.regd (some [6, 39]) o_steadfastref23_Names_2) ρ s = R_steadfastref23_Names_2 base s (get ρ 2) (get ρ 6) (get ρ 7) := rc_regd_O.trans (by kernel_rfl)
@[go_sem] noncomputable def R_steadfastref23_Names_3 (_base : Nat) (s : St) : Option (Ex × Env × St) :=
  some (.normal, [(4, (.int .i64 0)), (5, (.bool false))], s)
@[go_sem] theorem rc_steadfastref23_Names_3 {base : Nat} {ρ : Env} {s : St} : rc D base (.reg (some [4, 5]) o_steadfastref23_Names_3) ρ s = R_steadfastref23_Names_3 base s := rc_reg_O.trans (by kernel_rfl)
@[go_sem] noncomputable def R_steadfastref23_Names_4 (_base : Nat) (s : St) (v6 : V) : Option (Ex × Env × St) :=
  obind (fadv 40 2 10 v6) fun x0 =>
  obind (ldv s 10 x0) fun x1 =>
  some (.normal, [(4, x1), (5, (.bool true))], s)
@[go_sem] theorem rc_steadfastref23_Names_4 {base : Nat} {ρ : Env} {s : St} : rc D base (.reg (some [4, 5]) o_steadfastref23_Names_4) ρ s = R_steadfastref23_Names_4 base s (get ρ 6) := rc_reg_O.trans (by kernel_rfl)

@[go_sem] noncomputable def R_reach_From_0 (_base : Nat) (s : St) (v0 v1 : V) : Option (Ex × Env × St) :=
  if V.ok v0 && mayNew false v0 then let x0 : V := .ptr (St.fresh s false) [] (V.tag v0); let s0 : St := St.new s false v0
  let x1 : V := .ptr (St.fresh s0 false) [] 32; let s1 : St := St.new s0 false (.agg 32 (List.replicate 49 (.bool false)))
  some (.normal, [(1, v1), (2, x0), (4, x1)], s1)
  else none
@[go_sem] theorem rc_reach_From_0 {base : Nat} {ρ : Env} {s : St} : rc D base (.reg (some [1, 2, 4]) o_reach_From_0) ρ s = R_reach_From_0 base s (get ρ 0) (get ρ 1) := rc_reg_O.trans (by kernel_rfl)
@[go_sem] noncomputable def R_reach_From_1 (_base : Nat) (s : St) (v1 v2 v4 : V) : Option (Ex × Env × St) :=
  let x0 : V := .ptr (St.fresh s false) [] 32; let s0 : St := St.new s false (.agg 32 (List.replicate 49 (.bool false)))
  some (.normal, [(1, v1), (2, v2), (4, v4), (5, x0)], s0)
@[go_sem] theorem rc_reach_From_1 {base : Nat} {ρ : Env} {s : St} : rc D base (.reg (some [1, 2, 4, 5]) o_reach_From_1) ρ s = R_reach_From_1 base s (get ρ 1) (get ρ 2) (get ρ 4) := rc_reg_O.trans (by kernel_rfl)
@[go_sem] noncomputable def R_reach_From_2 (_base : Nat) (s : St) (v1 v2 v4 v5 : V) : Option (Ex × Env × St) :=
  let x0 : V := .ptr (St.fresh s false) [] 1; let s0 : St := St.new s false .nilf
  some (.normal, [(1, v1), (2, v2), (4, v4), (5, v5), (6, x0)], s0)
@[go_sem] theorem rc_reach_From_2 {base : Nat} {ρ : Env} {s : St} : rc D base (.reg (some [1, 2, 4, 5, 6]) o_reach_From_2) ρ s = R_reach_From_2 base s (get ρ 1) (get ρ 2) (get ρ 4) (get ρ 5) := rc_reg_O.trans (by kernel_rfl)
@[go_sem] noncomputable def R_reach_From_3 (base : Nat) (s : St) (v1 v2 v4 v5 v6 : V) : Option (Ex × Env × St) :=
  obind (mkfnv f_reach_From_1 [v2, v5, v6]) fun x0 =>
  obind (stv base s 1 x0 v6) fun s1 =>
  some (.normal, [(1, v1), (4, v4), (5, v5), (6, v6)], s1)
@[go_sem] theorem rc_reach_From_3 {base : Nat} {ρ : Env} {s : St} : rc D base (.reg (some [1, 4, 5, 6]) o_reach_From_3) ρ s = R_reach_From_3 base s (get ρ 1) (get ρ 2) (get ρ 4) (get ρ 5) (get ρ 6) := rc_reg_O.trans (by kernel_rfl)
@[go_sem] noncomputable def R_reach_From_4 (_base : Nat) (s : St) (v1 v4 v5 v6 : V) : Option (Ex × Env × St) :=
  obind (ldv s 1 v6) fun x0 =>
  obind (callv D [v1] s x0) fun x1 =>
  some (.normal, [(4, v4), (5, v5)], x1.2)
@[go_sem] theorem rc_reach_From_4 {base : Nat} {ρ : Env} {s : St} : rc D base (.reg (some [4, 5]) o_reach_From_4) ρ s = R_reach_From_4 base s (get ρ 1) (get ρ 4) (get ρ 5) (get ρ 6) := rc_reg_O.trans (by kernel_rfl)
@[go_sem] noncomputable def R_reach_From_5 (base : Nat) (s : St) (v4 v5 : V) : Option (Ex × Env × St) :=
  obind (ldv s 32 v5) fun x0 =>
  obind (stv base s 32 x0 v4) fun s1 =>
  some (.normal, [(4, v4)], s1)
@[go_sem] theorem rc_reach_From_5 {base : Nat} {ρ : Env} {s : St} : rc D base (.reg (some [4]) o_reach_From_5) ρ s = R_reach_From_5 base s (get ρ 4) (get ρ 5) := rc_reg_O.trans (by kernel_rfl)

@[go_sem] noncomputable def R_steadfastref23_From_0 (_base : Nat) (s : St) (v0 v1 : V) : Option (Ex × Env × St) :=
  if V.ok v0 && mayNew false v0 then let x0 : V := .ptr (St.fresh s false) [] (V.tag v0); let s0 : St := St.new s false v0
  let x1 : V := .ptr (St.fresh s0 false) [] 32; let s1 : St := St.new s0 false (.agg 32 (List.replicate 49 (.bool false)))
  some (.normal, [(1, v1), (2, x0), (4, x1)], s1)
  else none
@[go_sem] theorem rc_steadfastref23_From_0 {base : Nat} {ρ : Env} {s : St} : rc D base (.reg (some [1, 2, 4]) o_steadfastref23_From_0) ρ s = R_steadfastref23_From_0 base s (get ρ 0) (get ρ 1) := rc_reg_O.trans (by kernel_rfl)
@[go_sem] noncomputable def R_steadfastref23_From_1 (base : Nat) (s : St) (v1 v2 v4 : V) : Option (Ex × Env × St) :=
  obind (setParts (List.replicate 49 (.bool false)) []) fun x0 =>
  let x1 : V := .ptr (St.fresh s false) [] 32; let s1 : St := St.new s false (.agg 32 (List.replicate 49 (.bool false)))
  obind (stv base s1 32 (.agg 32 x0) x1) fun s2 =>
  some (.normal, [(1, v1), (2, v2), (4, v4), (5, x1)], s2)
@[go_sem] theorem rc_steadfastref23_From_1 {base : Nat} {ρ : Env} {s : St} : rc D base (.reg (some [1, 2, 4, 5]) o_steadfastref23_From_1) ρ s = R_steadfastref23_From_1 base s (get ρ 1) (get ρ 2) (get ρ 4) := rc_reg_O.trans (by kernel_rfl)
@[go_sem] noncomputable def R_steadfastref23_From_2 (_base : Nat) (s : St) (v1 v2 v4 v5 : V) : Option (Ex × Env × St) :=
  obind (ldv s 30 v2) fun x0 =>
  obind (rf D f_steadfastref23_Names [x0, v1] s) fun x1 =>
  obind (extv 0 x1.1) fun x2 =>
  obind (extv 1 x1.1) fun x3 =>
  some (.normal, [(2, v2), (4, v4), (5, v5), (6, x2), (7, x3)], x1.2)
@[go_sem] theorem rc_steadfastref23_From_2 {base : Nat} {ρ : Env} {s : St} : rc D base (.reg (some [2, 4, 5, 6, 7]) o_steadfastref23_From_2) ρ s = R_steadfastref23_From_2 base s (get ρ 1) (get ρ 2) (get ρ 4) (get ρ 5) := rc_reg_O.trans (by kernel_rfl)
@[go_sem] noncomputable def R_steadfastref23_From_3 (_base : Nat) (s : St) (v2 v4 v5 v6 v7 : V) : Option (Ex × Env × St) :=
  obind (vun .not v7) fun x0 =>
  some (.normal, [(2, v2), (4, v4), (5, v5), (6, v6), (21, x0)], s)
@[go_sem] theorem rc_steadfastref23_From_3 {base : Nat} {ρ : Env} {s : St} : rc D base (.reg (some [2, 4, 5, 6, 21]) o_steadfastref23_From_3) ρ s = R_steadfastref23_From_3 base s (get ρ 2) (get ρ 4) (get ρ 5) (get ρ 6) (get ρ 7) := rc_reg_O.trans (by kernel_rfl)
@[go_sem] noncomputable def R_steadfastref23_From_4 (base : Nat) (s : St) (v4 v5 : V) : Option (Ex × Env × St) :=
  obind (ldv s 32 v5) fun x0 =>
  obind (stv base s 32 x0 v4) fun s1 =>
  some (.normal, [(4, v4)], s1)
@[go_sem] theorem rc_steadfastref23_From_4 {base : Nat} {ρ : Env} {s : St} : rc D base (.reg (some [4]) o_steadfastref23_From_4) ρ s = R_steadfastref23_From_4 base s (get ρ 4) (get ρ 5) := rc_reg_O.trans (by kernel_rfl)
@[go_sem] noncomputable def R_steadfastref23_From_5 (base : Nat) (s : St) (v2 v4 v5 v6 : V) : Option (Ex × Env × St) :=
  obind (iadv 32 49 0 v5 v6) fun x0 =>
  obind (stv base s 0 (.bool true) x0) fun s1 =>
  some (.normal, [(2, v2), (4, v4), (5, v5)], s1)
@[go_sem] theorem rc_steadfastref23_From_5 {base : Nat} {ρ : Env} {s : St} : rc D base (.reg (some [2, 4, 5]) o_steadfastref23_From_5) ρ s = R_steadfastref23_From_5 base s (get ρ 2) (get ρ 4) (get ρ 5) (get ρ 6) := rc_reg_O.trans (by kernel_rfl)
@[go_sem] noncomputable def R_steadfastref23_From_6 (_base : Nat) (s : St) (v2 v4 v5 : V) : Option (Ex × Env × St) :=
  some (.normal, [(2, v2), (4, v4), (5, v5), (8, (.int .i64 0))], s)
@[go_sem] theorem rc_steadfastref23_From_6 {base : Nat} {ρ : Env} {s : St} : rc D base (.reg (some [2, 4, 5, 8]) o_steadfastref23_From_6) ρ s = R_steadfastref23_From_6 base s (get ρ 2) (get ρ 4) (get ρ 5) := rc_reg_O.trans (by kernel_rfl)
@[go_sem] noncomputable def R_steadfastref23_From_7 (_base : Nat) (s : St) (v2 v4 v5 v8 : V) : Option (Ex × Env × St) :=
  obind (vbin .lss v8 (.int .i64 49)) fun x0 =>
  some (.normal, [(2, v2), (4, v4), (5, v5), (8, v8), (26, x0)], s)
@[go_sem] theorem rc_steadfastref23_From_7 {base : Nat} {ρ : Env} {s : St} : rc D base (.reg (some [2, 4, 5, 8, 26]) o_steadfastref23_From_7) ρ s = R_steadfastref23_From_7 base s (get ρ 2) (get ρ 4) (get ρ 5) (get ρ 8) := rc_reg_O.trans (by kernel_rfl)
@[go_sem] noncomputable def R_steadfastref23_From_8 (_base : Nat) (s : St) (v2 v4 v5 v8 : V) : Option (Ex × Env × St) :=
  some (.normal, [(2, v2), (4, v4), (5, v5), (8, v8), (9, (.int .i64 0))], s)
@[go_sem] theorem rc_steadfastref23_From_8 {base : Nat} {ρ : Env} {s : St} : rc D base (.reg (some [2, 4, 5, 8, 9]) o_steadfastref23_From_8) ρ s = R_steadfastref23_From_8 base s (get ρ 2) (get ρ 4) (get ρ 5) (get ρ 8) := rc_reg_O.trans (by kernel_rfl)
@[go_sem] noncomputable def R_steadfastref23_From_9 (_base : Nat) (s : St) (v2 v4 v5 v8 v9 : V) : Option (Ex × Env × St) :=
  obind (vbin .lss v9 (.int .i64 49)) fun x0 =>
  some (.normal, [(2, v2), (4, v4), (5, v5), (8, v8), (9, v9), (30, x0)], s)
@[go_sem] theorem rc_steadfastref23_From_9 {base : Nat} {ρ : Env} {s : St} : rc D base (.reg (some [2, 4, 5, 8, 9, 30]) o_steadfastref23_From_9) ρ s = R_steadfastref23_From_9 base s (get ρ 2) (get ρ 4) (get ρ 5) (get ρ 8) (get ρ 9) := rc_reg_O.trans (by kernel_rfl)
@[go_sem] noncomputable def R_steadfastref23_From_10 (_base : Nat) (s : St) (v2 v4 v5 v8 v9 : V) : Option (Ex × Env × St) :=
  some (.normal, [(2, v2), (4, v4), (5, v5), (8, v8), (9, v9), (10, (.int .i64 0))], s)
@[go_sem] theorem rc_steadfastref23_From_10 {base : Nat} {ρ : Env} {s : St} : rc D base (.reg (some [2, 4, 5, 8, 9, 10]) o_steadfastref23_From_10) ρ s = R_steadfastref23_From_10 base s (get ρ 2) (get ρ 4) (get ρ 5) (get ρ 8) (get ρ 9) := rc_reg_O.trans (by kernel_rfl)
@[go_sem] noncomputable def R_steadfastref23_From_11 (_base : Nat) (s : St) (v2 v4 v5 v8 v9 v10 : V) : Option (Ex × Env × St) :=
  obind (vbin .lss v10 (.int .i64 8)) fun x0 =>
  oguard x0 true (
    obind (iadv 32 49 0 v5 v9) fun x1 =>
    obind (ldv s 0 x1) fun x2 =>
    oguard x2 true (
      obind (iadv 30 49 26 v2 v9) fun x3 =>
      obind (fadv 26 0 10 x3) fun x4 =>
      obind (ldv s 10 x4) fun x5 =>
      obind (vbin .eql x5 (.int .i64 2)) fun x6 =>
      some (.normal, [(2, v2), (4, v4), (5, v5), (8, v8), (9, v9), (10, v10), (46, x6)], s)) (
      some (.normal, [(2, v2), (4, v4), (5, v5), (8, v8), (9, v9), (10, v10), (46, (.bool false))], s)) (
      none)) (
    some (.normal, [(2, v2), (4, v4), (5, v5), (8, v8), (9, v9), (10, v10), (46, (.bool false))], s)) (
    none)
@[go_sem] theorem rc_steadfastref23_From_11 {base : Nat} {ρ : Env} {s : St} : rc D base (.reg (some [2, 4, 5, 8, 9, 10, 46]) o_steadfastref23_From_11) ρ s = R_steadfastref23_From_11 base s (get ρ 2) (get ρ 4) (get ρ 5) (get ρ 8) (get ρ 9) (get ρ 10) := rc_reg_O.trans (by kernel_rfl)
@[go_sem] noncomputable def R_steadfastref23_From_12 (base : Nat) (s : St) (v2 v4 v5 v8 v9 v10 : V) : Option (Ex × Env × St) :=
  obind (ldv s 30 v2) fun x0 =>
  obind (iadv 30 49 26 v2 v9) fun x1 =>
  obind (fadv 26 2 24 x1) fun x2 =>
  obind (iadv 24 8 18 x2 v10) fun x3 =>
  obind (ldv s 18 x3) fun x4 =>
  obind (pcallw D (pcut base [x0, x4]) base f_steadfastref23_Names [x0, x4] s) fun x5 =>
  obind (extv 0 x5) fun x6 =>
  obind (extv 1 x5) fun x7 =>
  some (.normal, [(2, v2), (4, v4), (5, v5), (8, v8), (9, v9), (10, v10), (11, x6), (12, x7)], s)
@[go_sem] theorem rc_steadfastref23_From_12 {base : Nat} {ρ : Env} {s : St} : rc D base (.regd (some [2, 4, 5, 8, 9, 10, 11, 12]) o_steadfastref23_From_12) ρ s = R_steadfastref23_From_12 base s (get ρ 2) (get ρ 4) (get ρ 5) (get ρ 8) (get ρ 9) (get ρ 10) := rc_regd_O.trans (by kernel_rfl)
@[go_sem] noncomputable def R_steadfastref23_From_13 (_base : Nat) (s : St) (v2 v4 v5 v8 v9 v10 v11 v12 : V) : Option (Ex × Env × St) :=
  some (.normal, [(2, v2), (4, v4), (5, v5), (8, v8), (9, v9), (10, v10), (11, v11), (60, v12)], s)
@[go_sem] theorem rc_steadfastref23_From_13 {base : Nat} {ρ : Env} {s : St} : rc D base (.reg (some [2, 4, 5, 8, 9, 10, 11, 60]) o_steadfastref23_From_13) ρ s = R_steadfastref23_From_13 base s (get ρ 2) (get ρ 4) (get ρ 5) (get ρ 8) (get ρ 9) (get ρ 10) (get ρ 11) (get ρ 12) := rc_reg_O.trans (by kernel_rfl)
@[go_sem] noncomputable def R_steadfastref23_From_14 (base : Nat) (s : St) (v2 v4 v5 v8 v9 v10 v11 : V) : Option (Ex × Env × St) :=
  obind (iadv 32 49 0 v5 v11) fun x0 =>
  obind (stv base s 0 (.bool true) x0) fun s1 =>
  some (.normal, [(2, v2), (4, v4), (5, v5), (8, v8), (9, v9), (10, v10)], s1)
@[go_sem] theorem rc_steadfastref23_From_14 {base : Nat} {ρ : Env} {s : St} : rc D base (.reg (some [2, 4, 5, 8, 9, 10]) o_steadfastref23_From_14) ρ s = R_steadfastref23_From_14 base s (get ρ 2) (get ρ 4) (get ρ 5) (get ρ 8) (get ρ 9) (get ρ 10) (get ρ 11) := rc_reg_O.trans (by kernel_rfl)
@[go_sem] noncomputable def R_steadfastref23_From_15 (_base : Nat) (s : St) (v2 v4 v5 v8 v9 v10 : V) : Option (Ex × Env × St) :=
  obind (vbin .add v10 (.int .i64 1)) fun x0 =>
  some (.normal, [(2, v2), (4, v4), (5, v5), (8, v8), (9, v9), (10, x0)], s)
@[go_sem] theorem rc_steadfastref23_From_15 {base : Nat} {ρ : Env} {s : St} : rc D base (.reg (some [2, 4, 5, 8, 9, 10]) o_steadfastref23_From_15) ρ s = R_steadfastref23_From_15 base s (get ρ 2) (get ρ 4) (get ρ 5) (get ρ 8) (get ρ 9) (get ρ 10) := rc_reg_O.trans (by kernel_rfl)
@[go_sem] noncomputable def R_steadfastref23_From_16 (_base : Nat) (s : St) (v2 v4 v5 v8 v9 : V) : Option (Ex × Env × St) :=
  obind (vbin .add v9 (.int .i64 1)) fun x0 =>
  some (.normal, [(2, v2), (4, v4), (5, v5), (8, v8), (9, x0)], s)
@[go_sem] theorem rc_steadfastref23_From_16 {base : Nat} {ρ : Env} {s : St} : rc D base (.reg (some [2, 4, 5, 8, 9]) o_steadfastref23_From_16) ρ s = R_steadfastref23_From_16 base s (get ρ 2) (get ρ 4) (get ρ 5) (get ρ 8) (get ρ 9) := rc_reg_O.trans (by kernel_rfl)
@[go_sem] noncomputable def R_steadfastref23_From_17 (_base : Nat) (s : St) (v2 v4 v5 v8 : V) : Option (Ex × Env × St) :=
  obind (vbin .add v8 (.int .i64 1)) fun x0 =>
  some (.normal, [(2, v2), (4, v4), (5, v5), (8, x0)], s)
@[go_sem] theorem rc_steadfastref23_From_17 {base : Nat} {ρ : Env} {s : St} : rc D base (.reg (some [2, 4, 5, 8]) o_steadfastref23_From_17) ρ s = R_steadfastref23_From_17 base s (get ρ 2) (get ρ 4) (get ρ 5) (get ρ 8) := rc_reg_O.trans (by kernel_rfl)
@[go_sem] noncomputable def R_steadfastref23_From_18 (base : Nat) (s : St) (v4 v5 : V) : Option (Ex × Env × St) :=
  obind (ldv s 32 v5) fun x0 =>
  obind (stv base s 32 x0 v4) fun s1 =>
  some (.normal, [(4, v4)], s1)
@[go_sem] theorem rc_steadfastref23_From_18 {base : Nat} {ρ : Env} {s : St} : rc D base (.reg (some [4]) o_steadfastref23_From_18) ρ s = R_steadfastref23_From_18 base s (get ρ 4) (get ρ 5) := rc_reg_O.trans (by kernel_rfl)

@[go_sem] noncomputable def R_reach_Of_0 (_base : Nat) (s : St) (v0 v1 : V) : Option (Ex × Env × St) :=
  if V.ok v0 && mayNew false v0 then let x0 : V := .ptr (St.fresh s false) [] (V.tag v0); let s0 : St := St.new s false v0
  let x1 : V := .ptr (St.fresh s0 false) [] 32; let s1 : St := St.new s0 false (.agg 32 (List.replicate 49 (.bool false)))
  some (.normal, [(1, v1), (2, x0), (4, x1)], s1)
  else none
@[go_sem] theorem rc_reach_Of_0 {base : Nat} {ρ : Env} {s : St} : rc D base (.reg (some [1, 2, 4]) o_reach_Of_0) ρ s = R_reach_Of_0 base s (get ρ 0) (get ρ 1) := rc_reg_O.trans (by kernel_rfl)
@[go_sem] noncomputable def R_reach_Of_1 (_base : Nat) (s : St) (v1 v2 v4 : V) : Option (Ex × Env × St) :=
  let x0 : V := .ptr (St.fresh s false) [] 32; let s0 : St := St.new s false (.agg 32 (List.replicate 49 (.bool false)))
  some (.normal, [(1, v1), (2, v2), (4, v4), (5, x0)], s0)
@[go_sem] theorem rc_reach_Of_1 {base : Nat} {ρ : Env} {s : St} : rc D base (.reg (some [1, 2, 4, 5]) o_reach_Of_1) ρ s = R_reach_Of_1 base s (get ρ 1) (get ρ 2) (get ρ 4) := rc_reg_O.trans (by kernel_rfl)
@[go_sem] noncomputable def R_reach_Of_2 (_base : Nat) (s : St) (v1 v2 v4 v5 : V) : Option (Ex × Env × St) :=
  obind (vbin .lss v1 (.int .i64 0)) fun x0 =>
  oguard x0 false (
    obind (vbin .geq v1 (.int .i64 49)) fun x1 =>
    oguard x1 false (
      obind (iadv 30 49 26 v2 v1) fun x2 =>
      obind (fadv 26 0 10 x2) fun x3 =>
      obind (ldv s 10 x3) fun x4 =>
      obind (vbin .neq x4 (.int .i64 3)) fun x5 =>
      some (.normal, [(1, v1), (2, v2), (4, v4), (5, v5), (23, x5)], s)) (
      some (.normal, [(1, v1), (2, v2), (4, v4), (5, v5), (23, (.bool true))], s)) (
      none)) (
    some (.normal, [(1, v1), (2, v2), (4, v4), (5, v5), (23, (.bool true))], s)) (
    none)
@[go_sem] theorem rc_reach_Of_2 {base : Nat} {ρ : Env} {s : St} : rc D base (.reg (some [1, 2, 4, 5, 23]) o_reach_Of_2) ρ s = R_reach_Of_2 base s (get ρ 1) (get ρ 2) (get ρ 4) (get ρ 5) := rc_reg_O.trans (by kernel_rfl)
@[go_sem] noncomputable def R_reach_Of_3 (base : Nat) (s : St) (v4 v5 : V) : Option (Ex × Env × St) :=
  obind (ldv s 32 v5) fun x0 =>
  obind (stv base s 32 x0 v4) fun s1 =>
  some (.normal, [(4, v4)], s1)
@[go_sem] theorem rc_reach_Of_3 {base : Nat} {ρ : Env} {s : St} : rc D base (.reg (some [4]) o_reach_Of_3) ρ s = R_reach_Of_3 base s (get ρ 4) (get ρ 5) := rc_reg_O.trans (by kernel_rfl)
@[go_sem] noncomputable def R_reach_Of_4 (base : Nat) (s : St) (v1 v2 v4 v5 : V) : Option (Ex × Env × St) :=
  obind (iadv 30 49 26 v2 v1) fun x0 =>
  obind (fadv 26 2 24 x0) fun x1 =>
  obind (ldv s 24 x1) fun x2 =>
  obind (rf D f_regs_Of [x2] s) fun x3 =>
  obind (extv 0 x3.1) fun x4 =>
  obind (extv 1 x3.1) fun x5 =>
  let x6 : V := .ptr (St.fresh x3.2 false) [] 64; let s6 : St := St.new x3.2 false (.agg 64 [(.int .i64 0), (.agg 62 (List.replicate 4 (.int .u64 0))), (.int .u64 0), (.int .u64 0), (.int .i64 0), (.int .i64 0), (.int .i64 0), (.int .i64 0)])
  obind (stv base s6 64 x4 x6) fun s7 =>
  some (.normal, [(2, v2), (4, v4), (5, v5), (6, x6), (7, x5)], s7)
@[go_sem] theorem rc_reach_Of_4 {base : Nat} {ρ : Env} {s : St} : rc D base (.reg (some [2, 4, 5, 6, 7]) o_reach_Of_4) ρ s = R_reach_Of_4 base s (get ρ 1) (get ρ 2) (get ρ 4) (get ρ 5) := rc_reg_O.trans (by kernel_rfl)
@[go_sem] noncomputable def R_reach_Of_5 (_base : Nat) (s : St) (v2 v4 v5 v6 v7 : V) : Option (Ex × Env × St) :=
  obind (vun .not v7) fun x0 =>
  some (.normal, [(2, v2), (4, v4), (5, v5), (6, v6), (34, x0)], s)
@[go_sem] theorem rc_reach_Of_5 {base : Nat} {ρ : Env} {s : St} : rc D base (.reg (some [2, 4, 5, 6, 34]) o_reach_Of_5) ρ s = R_reach_Of_5 base s (get ρ 2) (get ρ 4) (get ρ 5) (get ρ 6) (get ρ 7) := rc_reg_O.trans (by kernel_rfl)
@[go_sem] noncomputable def R_reach_Of_6 (base : Nat) (s : St) (v4 v5 : V) : Option (Ex × Env × St) :=
  obind (ldv s 32 v5) fun x0 =>
  obind (stv base s 32 x0 v4) fun s1 =>
  some (.normal, [(4, v4)], s1)
@[go_sem] theorem rc_reach_Of_6 {base : Nat} {ρ : Env} {s : St} : rc D base (.reg (some [4]) o_reach_Of_6) ρ s = R_reach_Of_6 base s (get ρ 4) (get ρ 5) := rc_reg_O.trans (by kernel_rfl)
@[go_sem] noncomputable def R_reach_Of_7 (base : Nat) (s : St) (v2 v4 v5 v6 : V) : Option (Ex × Env × St) :=
  obind (ldv s 30 v2) fun x0 =>
  obind (fadv 64 2 18 v6) fun x1 =>
  obind (ldv s 18 x1) fun x2 =>
  obind (pcallw D (pcut base [x0, x2]) base f_reach_From [x0, x2] s) fun x3 =>
  obind (ldv s 30 v2) fun x4 =>
  obind (fadv 64 3 18 v6) fun x5 =>
  obind (ldv s 18 x5) fun x6 =>
  obind (pcallw D (pcut base [x4, x6]) base f_reach_From [x4, x6] s) fun x7 =>
  let x8 : V := .ptr (St.fresh s false) [] 32; let s8 : St := St.new s false (.agg 32 (List.replicate 49 (.bool false)))
  let x9 : V := .ptr (St.fresh s8 false) [] 32; let s9 : St := St.new s8 false (.agg 32 (List.replicate 49 (.bool false)))
  obind (stv base s9 32 x3 x8) fun s10 =>
  obind (stv base s10 32 x7 x9) fun s11 =>
  some (.normal, [(4, v4), (5, v5), (8, x8), (9, x9)], s11)
@[go_sem] theorem rc_reach_Of_7 {base : Nat} {ρ : Env} {s : St} : rc D base (.regd (some [4, 5, 8, 9]) o_reach_Of_7) ρ s = R_reach_Of_7 base s (get ρ 2) (get ρ 4) (get ρ 5) (get ρ 6) := rc_regd_O.trans (by kernel_rfl)
@[go_sem] noncomputable def R_reach_Of_8 (_base : Nat) (s : St) (v4 v5 v8 v9 : V) : Option (Ex × Env × St) :=
  some (.normal, [(4, v4), (5, v5), (8, v8), (9, v9), (44, (.int .i64 0))], s)
@[go_sem] theorem rc_reach_Of_8 {base : Nat} {ρ : Env} {s : St} : rc D base (.reg (some [4, 5, 8, 9, 44]) o_reach_Of_8) ρ s = R_reach_Of_8 base s (get ρ 4) (get ρ 5) (get ρ 8) (get ρ 9) := rc_reg_O.trans (by kernel_rfl)
@[go_sem] noncomputable def R_reach_Of_9 (_base : Nat) (s : St) (v4 v5 v8 v9 v44 : V) : Option (Ex × Env × St) :=
  obind (vbin .lss v44 (.int .i64 49)) fun x0 =>
  some (.normal, [(4, v4), (5, v5), (8, v8), (9, v9), (44, v44), (45, x0)], s)
@[go_sem] theorem rc_reach_Of_9 {base : Nat} {ρ : Env} {s : St} : rc D base (.reg (some [4, 5, 8, 9, 44, 45]) o_reach_Of_9) ρ s = R_reach_Of_9 base s (get ρ 4) (get ρ 5) (get ρ 8) (get ρ 9) (get ρ 44) := rc_reg_O.trans (by kernel_rfl)
@[go_sem] noncomputable def R_reach_Of_10 (_base : Nat) (s : St) (v4 v5 v8 v9 v44 : V) : Option (Ex × Env × St) :=
  some (.normal, [(4, v4), (5, v5), (8, v8), (9, v9), (10, v44), (44, v44)], s)
@[go_sem] theorem rc_reach_Of_10 {base : Nat} {ρ : Env} {s : St} : rc D base (.reg (some [4, 5, 8, 9, 10, 44]) o_reach_Of_10) ρ s = R_reach_Of_10 base s (get ρ 4) (get ρ 5) (get ρ 8) (get ρ 9) (get ρ 44) := rc_reg_O.trans (by kernel_rfl)
@[go_sem] noncomputable def R_reach_Of_11 (base : Nat) (s : St) (v4 v5 v8 v9 v10 v44 : V) : Option (Ex × Env × St) :=
  obind (iadv 32 49 0 v8 v10) fun x0 =>
  obind (ldv s 0 x0) fun x1 =>
  oguard x1 false (
    obind (iadv 32 49 0 v9 v10) fun x2 =>
    obind (ldv s 0 x2) fun x3 =>
    obind (iadv 32 49 0 v5 v10) fun x4 =>
    obind (stv base s 0 x3 x4) fun s5 =>
    some (.normal, [(4, v4), (5, v5), (8, v8), (9, v9), (44, v44)], s5)) (
    obind (iadv 32 49 0 v5 v10) fun x2 =>
    obind (stv base s 0 (.bool true) x2) fun s3 =>
    some (.normal, [(4, v4), (5, v5), (8, v8), (9, v9), (44, v44)], s3)) (
    none)
@[go_sem] theorem rc_reach_Of_11 {base : Nat} {ρ : Env} {s : St} : rc D base (.reg (some [4, 5, 8, 9, 44]) o_reach_Of_11) ρ s = R_reach_Of_11 base s (get ρ 4) (get ρ 5) (get ρ 8) (get ρ 9) (get ρ 10) (get ρ 44) := rc_reg_O.trans (by kernel_rfl)
@[go_sem] noncomputable def R_reach_Of_12 (_base : Nat) (s : St) (v4 v5 v8 v9 v44 : V) : Option (Ex × Env × St) :=
  obind (vbin .add v44 (.int .i64 1)) fun x0 =>
  some (.normal, [(4, v4), (5, v5), (8, v8), (9, v9), (44, x0)], s)
@[go_sem] theorem rc_reach_Of_12 {base : Nat} {ρ : Env} {s : St} : rc D base (.reg (some [4, 5, 8, 9, 44]) o_reach_Of_12) ρ s = R_reach_Of_12 base s (get ρ 4) (get ρ 5) (get ρ 8) (get ρ 9) (get ρ 44) := rc_reg_O.trans (by kernel_rfl)
@[go_sem] noncomputable def R_reach_Of_13 (base : Nat) (s : St) (v4 v5 : V) : Option (Ex × Env × St) :=
  obind (ldv s 32 v5) fun x0 =>
  obind (stv base s 32 x0 v4) fun s1 =>
  some (.normal, [(4, v4)], s1)
@[go_sem] theorem rc_reach_Of_13 {base : Nat} {ρ : Env} {s : St} : rc D base (.reg (some [4]) o_reach_Of_13) ρ s = R_reach_Of_13 base s (get ρ 4) (get ρ 5) := rc_reg_O.trans (by kernel_rfl)

@[go_sem] noncomputable def R_steadfastref23_Of_0 (_base : Nat) (s : St) (v0 v1 : V) : Option (Ex × Env × St) :=
  if V.ok v0 && mayNew false v0 then let x0 : V := .ptr (St.fresh s false) [] (V.tag v0); let s0 : St := St.new s false v0
  let x1 : V := .ptr (St.fresh s0 false) [] 32; let s1 : St := St.new s0 false (.agg 32 (List.replicate 49 (.bool false)))
  some (.normal, [(1, v1), (2, x0), (4, x1)], s1)
  else none
@[go_sem] theorem rc_steadfastref23_Of_0 {base : Nat} {ρ : Env} {s : St} : rc D base (.reg (some [1, 2, 4]) o_steadfastref23_Of_0) ρ s = R_steadfastref23_Of_0 base s (get ρ 0) (get ρ 1) := rc_reg_O.trans (by kernel_rfl)
@[go_sem] noncomputable def R_steadfastref23_Of_1 (base : Nat) (s : St) (v1 v2 v4 : V) : Option (Ex × Env × St) :=
  obind (setParts (List.replicate 49 (.bool false)) []) fun x0 =>
  let x1 : V := .ptr (St.fresh s false) [] 32; let s1 : St := St.new s false (.agg 32 (List.replicate 49 (.bool false)))
  obind (stv base s1 32 (.agg 32 x0) x1) fun s2 =>
  some (.normal, [(1, v1), (2, v2), (4, v4), (5, x1)], s2)
@[go_sem] theorem rc_steadfastref23_Of_1 {base : Nat} {ρ : Env} {s : St} : rc D base (.reg (some [1, 2, 4, 5]) o_steadfastref23_Of_1) ρ s = R_steadfastref23_Of_1 base s (get ρ 1) (get ρ 2) (get ρ 4) := rc_reg_O.trans (by kernel_rfl)
@[go_sem] noncomputable def R_steadfastref23_Of_2 (_base : Nat) (s : St) (v1 v2 v4 v5 : V) : Option (Ex × Env × St) :=
  obind (vbin .lss v1 (.int .i64 0)) fun x0 =>
  oguard x0 false (
    obind (vbin .geq v1 (.int .i64 49)) fun x1 =>
    oguard x1 false (
      obind (iadv 30 49 26 v2 v1) fun x2 =>
      obind (fadv 26 0 10 x2) fun x3 =>
      obind (ldv s 10 x3) fun x4 =>
      obind (vbin .neq x4 (.int .i64 3)) fun x5 =>
      some (.normal, [(1, v1), (2, v2), (4, v4), (5, v5), (24, x5)], s)) (
      some (.normal, [(1, v1), (2, v2), (4, v4), (5, v5), (24, (.bool true))], s)) (
      none)) (
    some (.normal, [(1, v1), (2, v2), (4, v4), (5, v5), (24, (.bool true))], s)) (
    none)
@[go_sem] theorem rc_steadfastref23_Of_2 {base : Nat} {ρ : Env} {s : St} : rc D base (.reg (some [1, 2, 4, 5, 24]) o_steadfastref23_Of_2) ρ s = R_steadfastref23_Of_2 base s (get ρ 1) (get ρ 2) (get ρ 4) (get ρ 5) := rc_reg_O.trans (by kernel_rfl)
@[go_sem] noncomputable def R_steadfastref23_Of_3 (base : Nat) (s : St) (v4 v5 : V) : Option (Ex × Env × St) :=
  obind (ldv s 32 v5) fun x0 =>
  obind (stv base s 32 x0 v4) fun s1 =>
  some (.normal, [(4, v4)], s1)
@[go_sem] theorem rc_steadfastref23_Of_3 {base : Nat} {ρ : Env} {s : St} : rc D base (.reg (some [4]) o_steadfastref23_Of_3) ρ s = R_steadfastref23_Of_3 base s (get ρ 4) (get ρ 5) := rc_reg_O.trans (by kernel_rfl)
@[go_sem] noncomputable def R_steadfastref23_Of_4 (base : Nat) (s : St) (v1 v2 v4 v5 : V) : Option (Ex × Env × St) :=
  obind (iadv 30 49 26 v2 v1) fun x0 =>
  obind (fadv 26 2 24 x0) fun x1 =>
  obind (ldv s 24 x1) fun x2 =>
  obind (rf D f_steadfastref14_Of [x2] s) fun x3 =>
  obind (extv 0 x3.1) fun x4 =>
  obind (extv 1 x3.1) fun x5 =>
  let x6 : V := .ptr (St.fresh x3.2 false) [] 64; let s6 : St := St.new x3.2 false (.agg 64 [(.int .i64 0), (.agg 62 (List.replicate 4 (.int .u64 0))), (.int .u64 0), (.int .u64 0), (.int .i64 0), (.int .i64 0), (.int .i64 0), (.int .i64 0)])
  obind (stv base s6 64 x4 x6) fun s7 =>
  some (.normal, [(2, v2), (4, v4), (5, v5), (6, x6), (7, x5)], s7)
@[go_sem] theorem rc_steadfastref23_Of_4 {base : Nat} {ρ : Env} {s : St} : rc D base (.reg (some [2, 4, 5, 6, 7]) o_steadfastref23_Of_4) ρ s = R_steadfastref23_Of_4 base s (get ρ 1) (get ρ 2) (get ρ 4) (get ρ 5) := rc_reg_O.trans (by kernel_rfl)
@[go_sem] noncomputable def R_steadfastref23_Of_5 (_base : Nat) (s : St) (v2 v4 v5 v6 v7 : V) : Option (Ex × Env × St) :=
  obind (vun .not v7) fun x0 =>
  some (.normal, [(2, v2), (4, v4), (5, v5), (6, v6), (35, x0)], s)
@[go_sem] theorem rc_steadfastref23_Of_5 {base : Nat} {ρ : Env} {s : St} : rc D base (.reg (some [2, 4, 5, 6, 35]) o_steadfastref23_Of_5) ρ s = R_steadfastref23_Of_5 base s (get ρ 2) (get ρ 4) (get ρ 5) (get ρ 6) (get ρ 7) := rc_reg_O.trans (by kernel_rfl)
@[go_sem] noncomputable def R_steadfastref23_Of_6 (base : Nat) (s : St) (v4 v5 : V) : Option (Ex × Env × St) :=
  obind (ldv s 32 v5) fun x0 =>
  obind (stv base s 32 x0 v4) fun s1 =>
  some (.normal, [(4, v4)], s1)
@[go_sem] theorem rc_steadfastref23_Of_6 {base : Nat} {ρ : Env} {s : St} : rc D base (.reg (some [4]) o_steadfastref23_Of_6) ρ s = R_steadfastref23_Of_6 base s (get ρ 4) (get ρ 5) := rc_reg_O.trans (by kernel_rfl)
@[go_sem] noncomputable def R_steadfastref23_Of_7 (base : Nat) (s : St) (v2 v4 v6 : V) : Option (Ex × Env × St) :=
  obind (ldv s 30 v2) fun x0 =>
  obind (fadv 64 2 18 v6) fun x1 =>
  obind (ldv s 18 x1) fun x2 =>
  obind (rf D f_steadfastref23_From [x0, x2] s) fun x3 =>
  let x4 : V := .ptr (St.fresh x3.2 false) [] 32; let s4 : St := St.new x3.2 false (.agg 32 (List.replicate 49 (.bool false)))
  obind (stv base s4 32 x3.1 x4) fun s5 =>
  some (.normal, [(2, v2), (4, v4), (6, v6), (8, x4)], s5)
@[go_sem] theorem rc_steadfastref23_Of_7 {base : Nat} {ρ : Env} {s : St} : rc D base (.reg (some [2, 4, 6, 8]) o_steadfastref23_Of_7) ρ s = R_steadfastref23_Of_7 base s (get ρ 2) (get ρ 4) (get ρ 6) := rc_reg_O.trans (by kernel_rfl)
@[go_sem] noncomputable def R_steadfastref23_Of_8 (base : Nat) (s : St) (v2 v4 v6 v8 : V) : Option (Ex × Env × St) :=
  obind (ldv s 30 v2) fun x0 =>
  obind (fadv 64 3 18 v6) fun x1 =>
  obind (ldv s 18 x1) fun x2 =>
  obind (rf D f_steadfastref23_From [x0, x2] s) fun x3 =>
  let x4 : V := .ptr (St.fresh x3.2 false) [] 32; let s4 : St := St.new x3.2 false (.agg 32 (List.replicate 49 (.bool false)))
  obind (stv base s4 32 x3.1 x4) fun s5 =>
  some (.normal, [(4, v4), (8, v8), (9, x4)], s5)
@[go_sem] theorem rc_steadfastref23_Of_8 {base : Nat} {ρ : Env} {s : St} : rc D base (.reg (some [4, 8, 9]) o_steadfastref23_Of_8) ρ s = R_steadfastref23_Of_8 base s (get ρ 2) (get ρ 4) (get ρ 6) (get ρ 8) := rc_reg_O.trans (by kernel_rfl)
@[go_sem] noncomputable def R_steadfastref23_Of_9 (_base : Nat) (s : St) (v4 v8 v9 : V) : Option (Ex × Env × St) :=
  some (.normal, [(4, v4), (8, v8), (9, v9), (10, (.int .i64 0))], s)
@[go_sem] theorem rc_steadfastref23_Of_9 {base : Nat} {ρ : Env} {s : St} : rc D base (.reg (some [4, 8, 9, 10]) o_steadfastref23_Of_9) ρ s = R_steadfastref23_Of_9 base s (get ρ 4) (get ρ 8) (get ρ 9) := rc_reg_O.trans (by kernel_rfl)
@[go_sem] noncomputable def R_steadfastref23_Of_10 (_base : Nat) (s : St) (v4 v8 v9 v10 : V) : Option (Ex × Env × St) :=
  obind (vbin .lss v10 (.int .i64 49)) fun x0 =>
  some (.normal, [(4, v4), (8, v8), (9, v9), (10, v10), (46, x0)], s)
@[go_sem] theorem rc_steadfastref23_Of_10 {base : Nat} {ρ : Env} {s : St} : rc D base (.reg (some [4, 8, 9, 10, 46]) o_steadfastref23_Of_10) ρ s = R_steadfastref23_Of_10 base s (get ρ 4) (get ρ 8) (get ρ 9) (get ρ 10) := rc_reg_O.trans (by kernel_rfl)
@[go_sem] noncomputable def R_steadfastref23_Of_11 (base : Nat) (s : St) (v4 v8 v9 v10 : V) : Option (Ex × Env × St) :=
  obind (iadv 32 49 0 v8 v10) fun x0 =>
  obind (ldv s 0 x0) fun x1 =>
  oguard x1 false (
    obind (iadv 32 49 0 v9 v10) fun x2 =>
    obind (ldv s 0 x2) fun x3 =>
    obind (iadv 32 49 0 v8 v10) fun x4 =>
    obind (stv base s 0 x3 x4) fun s5 =>
    some (.normal, [(4, v4), (8, v8), (9, v9), (10, v10)], s5)) (
    obind (iadv 32 49 0 v8 v10) fun x2 =>
    obind (stv base s 0 (.bool true) x2) fun s3 =>
    some (.normal, [(4, v4), (8, v8), (9, v9), (10, v10)], s3)) (
    none)
@[go_sem] theorem rc_steadfastref23_Of_11 {base : Nat} {ρ : Env} {s : St} : rc D base (.reg (some [4, 8, 9, 10]) o_steadfastref23_Of_11) ρ s = R_steadfastref23_Of_11 base s (get ρ 4) (get ρ 8) (get ρ 9) (get ρ 10) := rc_reg_O.trans (by kernel_rfl)
@[go_sem] noncomputable def R_steadfastref23_Of_12 (_base : Nat) (s : St) (v4 v8 v9 v10 : V) : Option (Ex × Env × St) :=
  obind (vbin .add v10 (.int .i64 1)) fun x0 =>
  some (.normal, [(4, v4), (8, v8), (9, v9), (10, x0)], s)
@[go_sem] theorem rc_steadfastref23_Of_12 {base : Nat} {ρ : Env} {s : St} : rc D base (.reg (some [4, 8, 9, 10]) o_steadfastref23_Of_12) ρ s = R_steadfastref23_Of_12 base s (get ρ 4) (get ρ 8) (get ρ 9) (get ρ 10) := rc_reg_O.trans (by kernel_rfl)
@[go_sem] noncomputable def R_steadfastref23_Of_13 (base : Nat) (s : St) (v4 v8 : V) : Option (Ex × Env × St) :=
  obind (ldv s 32 v8) fun x0 =>
  obind (stv base s 32 x0 v4) fun s1 =>
  some (.normal, [(4, v4)], s1)
@[go_sem] theorem rc_steadfastref23_Of_13 {base : Nat} {ρ : Env} {s : St} : rc D base (.reg (some [4]) o_steadfastref23_Of_13) ρ s = R_steadfastref23_Of_13 base s (get ρ 4) (get ρ 8) := rc_reg_O.trans (by kernel_rfl)

@[go_sem] noncomputable def R_reach_Apart_0 (_base : Nat) (s : St) (v0 v1 v2 : V) : Option (Ex × Env × St) :=
  if V.ok v0 && mayNew false v0 then let x0 : V := .ptr (St.fresh s false) [] (V.tag v0); let s0 : St := St.new s false v0
  if V.ok v2 && mayNew false v2 then let x1 : V := .ptr (St.fresh s0 false) [] (V.tag v2); let s1 : St := St.new s0 false v2
  some (.normal, [(1, v1), (3, x0), (5, x1)], s1)
  else none
  else none
@[go_sem] theorem rc_reach_Apart_0 {base : Nat} {ρ : Env} {s : St} : rc D base (.reg (some [1, 3, 5]) o_reach_Apart_0) ρ s = R_reach_Apart_0 base s (get ρ 0) (get ρ 1) (get ρ 2) := rc_reg_O.trans (by kernel_rfl)
@[go_sem] noncomputable def R_reach_Apart_1 (_base : Nat) (s : St) (v1 v3 v5 : V) : Option (Ex × Env × St) :=
  obind (mkfnv f_reach_Apart_1 [v3, v5]) fun x0 =>
  obind (rf D f_slices_ContainsFunc_int [v1, x0] s) fun x1 =>
  obind (vun .not x1.1) fun x2 =>
  some (.normal, [(6, x2)], x1.2)
@[go_sem] theorem rc_reach_Apart_1 {base : Nat} {ρ : Env} {s : St} : rc D base (.reg (some [6]) o_reach_Apart_1) ρ s = R_reach_Apart_1 base s (get ρ 1) (get ρ 3) (get ρ 5) := rc_reg_O.trans (by kernel_rfl)

@[go_sem] noncomputable def R_steadfastref23_Apart_0 (_base : Nat) (s : St) (v0 v1 v2 : V) : Option (Ex × Env × St) :=
  if V.ok v0 && mayNew false v0 then let x0 : V := .ptr (St.fresh s false) [] (V.tag v0); let s0 : St := St.new s false v0
  some (.normal, [(1, v1), (2, v2), (3, x0)], s0)
  else none
@[go_sem] theorem rc_steadfastref23_Apart_0 {base : Nat} {ρ : Env} {s : St} : rc D base (.reg (some [1, 2, 3]) o_steadfastref23_Apart_0) ρ s = R_steadfastref23_Apart_0 base s (get ρ 0) (get ρ 1) (get ρ 2) := rc_reg_O.trans (by kernel_rfl)
@[go_sem] noncomputable def R_steadfastref23_Apart_1 (_base : Nat) (s : St) (v1 v2 v3 : V) : Option (Ex × Env × St) :=
  some (.normal, [(1, v1), (2, v2), (3, v3), (7, (.int .i64 0))], s)
@[go_sem] theorem rc_steadfastref23_Apart_1 {base : Nat} {ρ : Env} {s : St} : rc D base (.reg (some [1, 2, 3, 7]) o_steadfastref23_Apart_1) ρ s = R_steadfastref23_Apart_1 base s (get ρ 1) (get ρ 2) (get ρ 3) := rc_reg_O.trans (by kernel_rfl)
@[go_sem] noncomputable def R_steadfastref23_Apart_2 (_base : Nat) (s : St) (v1 v2 v3 v7 : V) : Option (Ex × Env × St) :=
  obind (V.slen false v1) fun x0 =>
  obind (vbin .lss v7 (.int .i64 x0)) fun x1 =>
  some (.normal, [(1, v1), (2, v2), (3, v3), (7, v7), (15, x1)], s)
@[go_sem] theorem rc_steadfastref23_Apart_2 {base : Nat} {ρ : Env} {s : St} : rc D base (.reg (some [1, 2, 3, 7, 15]) o_steadfastref23_Apart_2) ρ s = R_steadfastref23_Apart_2 base s (get ρ 1) (get ρ 2) (get ρ 3) (get ρ 7) := rc_reg_O.trans (by kernel_rfl)
@[go_sem] noncomputable def R_steadfastref23_Apart_3 (base : Nat) (s : St) (v1 v2 v3 v7 : V) : Option (Ex × Env × St) :=
  obind (ldv s 30 v3) fun x0 =>
  obind (sadv 10 v1 v7) fun x1 =>
  obind (ldv s 10 x1) fun x2 =>
  obind (pcallw D (pcut base [x0, x2]) base f_steadfastref23_Of [x0, x2] s) fun x3 =>
  let x4 : V := .ptr (St.fresh s false) [] 32; let s4 : St := St.new s false (.agg 32 (List.replicate 49 (.bool false)))
  obind (stv base s4 32 x3 x4) fun s5 =>
  some (.normal, [(1, v1), (2, v2), (3, v3), (7, v7), (8, x4)], s5)
@[go_sem] theorem rc_steadfastref23_Apart_3 {base : Nat} {ρ : Env} {s : St} : rc D base (.regd (some [1, 2, 3, 7, 8]) o_steadfastref23_Apart_3) ρ s = R_steadfastref23_Apart_3 base s (get ρ 1) (get ρ 2) (get ρ 3) (get ρ 7) := rc_regd_O.trans (by kernel_rfl)
@[go_sem] noncomputable def R_steadfastref23_Apart_4 (_base : Nat) (s : St) (v1 v2 v3 v7 v8 : V) : Option (Ex × Env × St) :=
  some (.normal, [(1, v1), (2, v2), (3, v3), (7, v7), (8, v8), (9, (.int .i64 0))], s)
@[go_sem] theorem rc_steadfastref23_Apart_4 {base : Nat} {ρ : Env} {s : St} : rc D base (.reg (some [1, 2, 3, 7, 8, 9]) o_steadfastref23_Apart_4) ρ s = R_steadfastref23_Apart_4 base s (get ρ 1) (get ρ 2) (get ρ 3) (get ρ 7) (get ρ 8) := rc_reg_O.trans (by kernel_rfl)
@[go_sem] noncomputable def R_steadfastref23_Apart_5 (_base : Nat) (s : St) (v1 v2 v3 v7 v8 v9 : V) : Option (Ex × Env × St) :=
  obind (V.slen false v2) fun x0 =>
  obind (vbin .lss v9 (.int .i64 x0)) fun x1 =>
  some (.normal, [(1, v1), (2, v2), (3, v3), (7, v7), (8, v8), (9, v9), (27, x1)], s)
@[go_sem] theorem rc_steadfastref23_Apart_5 {base : Nat} {ρ : Env} {s : St} : rc D base (.reg (some [1, 2, 3, 7, 8, 9, 27]) o_steadfastref23_Apart_5) ρ s = R_steadfastref23_Apart_5 base s (get ρ 1) (get ρ 2) (get ρ 3) (get ρ 7) (get ρ 8) (get ρ 9) := rc_reg_O.trans (by kernel_rfl)
@[go_sem] noncomputable def R_steadfastref23_Apart_6 (base : Nat) (s : St) (v1 v2 v3 v7 v8 v9 : V) : Option (Ex × Env × St) :=
  obind (ldv s 30 v3) fun x0 =>
  obind (sadv 10 v2 v9) fun x1 =>
  obind (ldv s 10 x1) fun x2 =>
  obind (pcallw D (pcut base [x0, x2]) base f_steadfastref23_Of [x0, x2] s) fun x3 =>
  let x4 : V := .ptr (St.fresh s false) [] 32; let s4 : St := St.new s false (.agg 32 (List.replicate 49 (.bool false)))
  obind (stv base s4 32 x3 x4) fun s5 =>
  some (.normal, [(1, v1), (2, v2), (3, v3), (7, v7), (8, v8), (9, v9), (10, x4)], s5)
@[go_sem] theorem rc_steadfastref23_Apart_6 {base : Nat} {ρ : Env} {s : St} : rc D base (.regd (some [1, 2, 3, 7, 8, 9, 10]) o_steadfastref23_Apart_6) ρ s = R_steadfastref23_Apart_6 base s (get ρ 1) (get ρ 2) (get ρ 3) (get ρ 7) (get ρ 8) (get ρ 9) := rc_regd_O.trans (by kernel_rfl)
@[go_sem] noncomputable def R_steadfastref23_Apart_7 (_base : Nat) (s : St) (v1 v2 v3 v7 v8 v9 v10 : V) : Option (Ex × Env × St) :=
  some (.normal, [(1, v1), (2, v2), (3, v3), (7, v7), (8, v8), (9, v9), (10, v10), (11, (.int .i64 0))], s)
@[go_sem] theorem rc_steadfastref23_Apart_7 {base : Nat} {ρ : Env} {s : St} : rc D base (.reg (some [1, 2, 3, 7, 8, 9, 10, 11]) o_steadfastref23_Apart_7) ρ s = R_steadfastref23_Apart_7 base s (get ρ 1) (get ρ 2) (get ρ 3) (get ρ 7) (get ρ 8) (get ρ 9) (get ρ 10) := rc_reg_O.trans (by kernel_rfl)
@[go_sem] noncomputable def R_steadfastref23_Apart_8 (_base : Nat) (s : St) (v1 v2 v3 v7 v8 v9 v10 v11 : V) : Option (Ex × Env × St) :=
  obind (vbin .lss v11 (.int .i64 49)) fun x0 =>
  some (.normal, [(1, v1), (2, v2), (3, v3), (7, v7), (8, v8), (9, v9), (10, v10), (11, v11), (37, x0)], s)
@[go_sem] theorem rc_steadfastref23_Apart_8 {base : Nat} {ρ : Env} {s : St} : rc D base (.reg (some [1, 2, 3, 7, 8, 9, 10, 11, 37]) o_steadfastref23_Apart_8) ρ s = R_steadfastref23_Apart_8 base s (get ρ 1) (get ρ 2) (get ρ 3) (get ρ 7) (get ρ 8) (get ρ 9) (get ρ 10) (get ρ 11) := rc_reg_O.trans (by kernel_rfl)
@[go_sem] noncomputable def R_steadfastref23_Apart_9 (_base : Nat) (s : St) (v1 v2 v3 v7 v8 v9 v10 v11 : V) : Option (Ex × Env × St) :=
  obind (iadv 32 49 0 v8 v11) fun x0 =>
  obind (ldv s 0 x0) fun x1 =>
  oguard x1 true (
    obind (iadv 32 49 0 v10 v11) fun x2 =>
    obind (ldv s 0 x2) fun x3 =>
    oguard x3 false (
      obind (iadv 32 49 0 v8 v11) fun x4 =>
      obind (ldv s 0 x4) fun x5 =>
      oguard x5 true (
        obind (sadv 10 v2 v9) fun x6 =>
        obind (ldv s 10 x6) fun x7 =>
        obind (vbin .eql v11 x7) fun x8 =>
        oguard x8 false (
          obind (iadv 32 49 0 v10 v11) fun x9 =>
          obind (ldv s 0 x9) fun x10 =>
          oguard x10 true (
            obind (sadv 10 v1 v7) fun x11 =>
            obind (ldv s 10 x11) fun x12 =>
            obind (vbin .eql v11 x12) fun x13 =>
            some (.normal, [(1, v1), (2, v2), (3, v3), (7, v7), (8, v8), (9, v9), (10, v10), (11, v11), (73, x13)], s)) (
            some (.normal, [(1, v1), (2, v2), (3, v3), (7, v7), (8, v8), (9, v9), (10, v10), (11, v11), (73, (.bool false))], s)) (
            none)) (
          some (.normal, [(1, v1), (2, v2), (3, v3), (7, v7), (8, v8), (9, v9), (10, v10), (11, v11), (73, (.bool true))], s)) (
          none)) (
        obind (iadv 32 49 0 v10 v11) fun x6 =>
        obind (ldv s 0 x6) fun x7 =>
        oguard x7 true (
          obind (sadv 10 v1 v7) fun x8 =>
          obind (ldv s 10 x8) fun x9 =>
          obind (vbin .eql v11 x9) fun x10 =>
          some (.normal, [(1, v1), (2, v2), (3, v3), (7, v7), (8, v8), (9, v9), (10, v10), (11, v11), (73, x10)], s)) (
          some (.normal, [(1, v1), (2, v2), (3, v3), (7, v7), (8, v8), (9, v9), (10, v10), (11, v11), (73, (.bool false))], s)) (
          none)) (
        none)) (
      some (.normal, [(1, v1), (2, v2), (3, v3), (7, v7), (8, v8), (9, v9), (10, v10), (11, v11), (73, (.bool true))], s)) (
      none)) (
    obind (iadv 32 49 0 v8 v11) fun x2 =>
    obind (ldv s 0 x2) fun x3 =>
    oguard x3 true (
      obind (sadv 10 v2 v9) fun x4 =>
      obind (ldv s 10 x4) fun x5 =>
      obind (vbin .eql v11 x5) fun x6 =>
      oguard x6 false (
        obind (iadv 32 49 0 v10 v11) fun x7 =>
        obind (ldv s 0 x7) fun x8 =>
        oguard x8 true (
          obind (sadv 10 v1 v7) fun x9 =>
          obind (ldv s 10 x9) fun x10 =>
          obind (vbin .eql v11 x10) fun x11 =>
          some (.normal, [(1, v1), (2, v2), (3, v3), (7, v7), (8, v8), (9, v9), (10, v10), (11, v11), (73, x11)], s)) (
          some (.normal, [(1, v1), (2, v2), (3, v3), (7, v7), (8, v8), (9, v9), (10, v10), (11, v11), (73, (.bool false))], s)) (
          none)) (
        some (.normal, [(1, v1), (2, v2), (3, v3), (7, v7), (8, v8), (9, v9), (10, v10), (11, v11), (73, (.bool true))], s)) (
        none)) (
      obind (iadv 32 49 0 v10 v11) fun x4 =>
      obind (ldv s 0 x4) fun x5 =>
      oguard x5 true (
        obind (sadv 10 v1 v7) fun x6 =>
        obind (ldv s 10 x6) fun x7 =>
        obind (vbin .eql v11 x7) fun x8 =>
        some (.normal, [(1, v1), (2, v2), (3, v3), (7, v7), (8, v8), (9, v9), (10, v10), (11, v11), (73, x8)], s)) (
        some (.normal, [(1, v1), (2, v2), (3, v3), (7, v7), (8, v8), (9, v9), (10, v10), (11, v11), (73, (.bool false))], s)) (
        none)) (
      none)) (
    none)
@[go_sem] theorem rc_steadfastref23_Apart_9 {base : Nat} {ρ : Env} {s : St} : rc D base (.reg (some [1, 2, 3, 7, 8, 9, 10, 11, 73]) o_steadfastref23_Apart_9) ρ s = R_steadfastref23_Apart_9 base s (get ρ 1) (get ρ 2) (get ρ 3) (get ρ 7) (get ρ 8) (get ρ 9) (get ρ 10) (get ρ 11) := rc_reg_O.trans (by kernel_rfl)
@[go_sem] noncomputable def R_steadfastref23_Apart_10 (_base : Nat) (s : St) : Option (Ex × Env × St) :=
  some (.normal, [(6, (.bool false))], s)
@[go_sem] theorem rc_steadfastref23_Apart_10 {base : Nat} {ρ : Env} {s : St} : rc D base (.reg (some [6]) o_steadfastref23_Apart_10) ρ s = R_steadfastref23_Apart_10 base s := rc_reg_O.trans (by kernel_rfl)
@[go_sem] noncomputable def R_steadfastref23_Apart_11 (_base : Nat) (s : St) (v1 v2 v3 v7 v8 v9 v10 v11 : V) : Option (Ex × Env × St) :=
  obind (vbin .add v11 (.int .i64 1)) fun x0 =>
  some (.normal, [(1, v1), (2, v2), (3, v3), (7, v7), (8, v8), (9, v9), (10, v10), (11, x0)], s)
@[go_sem] theorem rc_steadfastref23_Apart_11 {base : Nat} {ρ : Env} {s : St} : rc D base (.reg (some [1, 2, 3, 7, 8, 9, 10, 11]) o_steadfastref23_Apart_11) ρ s = R_steadfastref23_Apart_11 base s (get ρ 1) (get ρ 2) (get ρ 3) (get ρ 7) (get ρ 8) (get ρ 9) (get ρ 10) (get ρ 11) := rc_reg_O.trans (by kernel_rfl)
@[go_sem] noncomputable def R_steadfastref23_Apart_12 (_base : Nat) (s : St) (v1 v2 v3 v7 v8 v9 : V) : Option (Ex × Env × St) :=
  obind (vbin .add v9 (.int .i64 1)) fun x0 =>
  some (.normal, [(1, v1), (2, v2), (3, v3), (7, v7), (8, v8), (9, x0)], s)
@[go_sem] theorem rc_steadfastref23_Apart_12 {base : Nat} {ρ : Env} {s : St} : rc D base (.reg (some [1, 2, 3, 7, 8, 9]) o_steadfastref23_Apart_12) ρ s = R_steadfastref23_Apart_12 base s (get ρ 1) (get ρ 2) (get ρ 3) (get ρ 7) (get ρ 8) (get ρ 9) := rc_reg_O.trans (by kernel_rfl)
@[go_sem] noncomputable def R_steadfastref23_Apart_13 (_base : Nat) (s : St) (v1 v2 v3 v7 : V) : Option (Ex × Env × St) :=
  obind (vbin .add v7 (.int .i64 1)) fun x0 =>
  some (.normal, [(1, v1), (2, v2), (3, v3), (7, x0)], s)
@[go_sem] theorem rc_steadfastref23_Apart_13 {base : Nat} {ρ : Env} {s : St} : rc D base (.reg (some [1, 2, 3, 7]) o_steadfastref23_Apart_13) ρ s = R_steadfastref23_Apart_13 base s (get ρ 1) (get ρ 2) (get ρ 3) (get ρ 7) := rc_reg_O.trans (by kernel_rfl)
@[go_sem] noncomputable def R_steadfastref23_Apart_14 (_base : Nat) (s : St) : Option (Ex × Env × St) :=
  some (.normal, [(6, (.bool true))], s)
@[go_sem] theorem rc_steadfastref23_Apart_14 {base : Nat} {ρ : Env} {s : St} : rc D base (.reg (some [6]) o_steadfastref23_Apart_14) ρ s = R_steadfastref23_Apart_14 base s := rc_reg_O.trans (by kernel_rfl)

@[go_sem] noncomputable def R_reach_Holds_0 (_base : Nat) (s : St) (v0 v1 : V) : Option (Ex × Env × St) :=
  if V.ok v0 && mayNew false v0 then let x0 : V := .ptr (St.fresh s false) [] (V.tag v0); let s0 : St := St.new s false v0
  if V.ok v1 && mayNew false v1 then let x1 : V := .ptr (St.fresh s0 false) [] (V.tag v1); let s1 : St := St.new s0 false v1
  some (.normal, [(2, x0), (3, x1)], s1)
  else none
  else none
@[go_sem] theorem rc_reach_Holds_0 {base : Nat} {ρ : Env} {s : St} : rc D base (.reg (some [2, 3]) o_reach_Holds_0) ρ s = R_reach_Holds_0 base s (get ρ 0) (get ρ 1) := rc_reg_O.trans (by kernel_rfl)
@[go_sem] noncomputable def R_reach_Holds_1 (_base : Nat) (s : St) (v2 v3 : V) : Option (Ex × Env × St) :=
  obind (slarrv s 30 49 26 none none none v2) fun x0 =>
  obind (mkfnv f_reach_Holds_1 [v3]) fun x1 =>
  obind (rf D f_slices_ContainsFunc_api_Object [x0, x1] s) fun x2 =>
  some (.normal, [(4, x2.1)], x2.2)
@[go_sem] theorem rc_reach_Holds_1 {base : Nat} {ρ : Env} {s : St} : rc D base (.reg (some [4]) o_reach_Holds_1) ρ s = R_reach_Holds_1 base s (get ρ 2) (get ρ 3) := rc_reg_O.trans (by kernel_rfl)

@[go_sem] noncomputable def R_steadfastref23_Holds_0 (_base : Nat) (s : St) (v0 v1 : V) : Option (Ex × Env × St) :=
  if V.ok v0 && mayNew false v0 then let x0 : V := .ptr (St.fresh s false) [] (V.tag v0); let s0 : St := St.new s false v0
  some (.normal, [(1, v1), (2, x0)], s0)
  else none
@[go_sem] theorem rc_steadfastref23_Holds_0 {base : Nat} {ρ : Env} {s : St} : rc D base (.reg (some [1, 2]) o_steadfastref23_Holds_0) ρ s = R_steadfastref23_Holds_0 base s (get ρ 0) (get ρ 1) := rc_reg_O.trans (by kernel_rfl)
@[go_sem] noncomputable def R_steadfastref23_Holds_1 (_base : Nat) (s : St) (v1 v2 : V) : Option (Ex × Env × St) :=
  some (.normal, [(1, v1), (2, v2), (5, (.int .i64 0))], s)
@[go_sem] theorem rc_steadfastref23_Holds_1 {base : Nat} {ρ : Env} {s : St} : rc D base (.reg (some [1, 2, 5]) o_steadfastref23_Holds_1) ρ s = R_steadfastref23_Holds_1 base s (get ρ 1) (get ρ 2) := rc_reg_O.trans (by kernel_rfl)
@[go_sem] noncomputable def R_steadfastref23_Holds_2 (_base : Nat) (s : St) (v1 v2 v5 : V) : Option (Ex × Env × St) :=
  obind (vbin .lss v5 (.int .i64 49)) fun x0 =>
  some (.normal, [(1, v1), (2, v2), (5, v5), (10, x0)], s)
@[go_sem] theorem rc_steadfastref23_Holds_2 {base : Nat} {ρ : Env} {s : St} : rc D base (.reg (some [1, 2, 5, 10]) o_steadfastref23_Holds_2) ρ s = R_steadfastref23_Holds_2 base s (get ρ 1) (get ρ 2) (get ρ 5) := rc_reg_O.trans (by kernel_rfl)
@[go_sem] noncomputable def R_steadfastref23_Holds_3 (_base : Nat) (s : St) (v1 v2 v5 : V) : Option (Ex × Env × St) :=
  some (.normal, [(1, v1), (2, v2), (5, v5), (6, (.int .i64 0))], s)
@[go_sem] theorem rc_steadfastref23_Holds_3 {base : Nat} {ρ : Env} {s : St} : rc D base (.reg (some [1, 2, 5, 6]) o_steadfastref23_Holds_3) ρ s = R_steadfastref23_Holds_3 base s (get ρ 1) (get ρ 2) (get ρ 5) := rc_reg_O.trans (by kernel_rfl)
@[go_sem] noncomputable def R_steadfastref23_Holds_4 (_base : Nat) (s : St) (v1 v2 v5 v6 : V) : Option (Ex × Env × St) :=
  obind (vbin .lss v6 (.int .i64 8)) fun x0 =>
  some (.normal, [(1, v1), (2, v2), (5, v5), (6, v6), (14, x0)], s)
@[go_sem] theorem rc_steadfastref23_Holds_4 {base : Nat} {ρ : Env} {s : St} : rc D base (.reg (some [1, 2, 5, 6, 14]) o_steadfastref23_Holds_4) ρ s = R_steadfastref23_Holds_4 base s (get ρ 1) (get ρ 2) (get ρ 5) (get ρ 6) := rc_reg_O.trans (by kernel_rfl)
@[go_sem] noncomputable def R_steadfastref23_Holds_5 (base : Nat) (s : St) (v1 v2 v5 v6 : V) : Option (Ex × Env × St) :=
  obind (iadv 30 49 26 v2 v5) fun x0 =>
  obind (fadv 26 2 24 x0) fun x1 =>
  obind (iadv 24 8 18 x1 v6) fun x2 =>
  obind (ldv s 18 x2) fun x3 =>
  obind (rf D f_steadfastref07_Of [x3] s) fun x4 =>
  obind (extv 0 x4.1) fun x5 =>
  obind (extv 1 x4.1) fun x6 =>
  let x7 : V := .ptr (St.fresh x4.2 false) [] 40; let s7 : St := St.new x4.2 false (.agg 40 [(.int .i64 0), (.int .i64 0), (.int .i64 0), (.int .i64 0), (.int .i64 0)])
  obind (stv base s7 40 x5 x7) fun s8 =>
  some (.normal, [(1, v1), (2, v2), (5, v5), (6, v6), (7, x7), (8, x6)], s8)
@[go_sem] theorem rc_steadfastref23_Holds_5 {base : Nat} {ρ : Env} {s : St} : rc D base (.reg (some [1, 2, 5, 6, 7, 8]) o_steadfastref23_Holds_5) ρ s = R_steadfastref23_Holds_5 base s (get ρ 1) (get ρ 2) (get ρ 5) (get ρ 6) := rc_reg_O.trans (by kernel_rfl)
@[go_sem] noncomputable def R_steadfastref23_Holds_6 (_base : Nat) (s : St) (v1 v2 v5 v6 v7 v8 : V) : Option (Ex × Env × St) :=
  obind (iadv 30 49 26 v2 v5) fun x0 =>
  obind (fadv 26 0 10 x0) fun x1 =>
  obind (ldv s 10 x1) fun x2 =>
  obind (vbin .eql x2 (.int .i64 2)) fun x3 =>
  oguard x3 true (
    oguard v8 true (
      obind (fadv 40 0 10 v7) fun x4 =>
      obind (ldv s 10 x4) fun x5 =>
      obind (vbin .eql x5 v1) fun x6 =>
      some (.normal, [(1, v1), (2, v2), (5, v5), (6, v6), (40, x6)], s)) (
      some (.normal, [(1, v1), (2, v2), (5, v5), (6, v6), (40, (.bool false))], s)) (
      none)) (
    some (.normal, [(1, v1), (2, v2), (5, v5), (6, v6), (40, (.bool false))], s)) (
    none)
@[go_sem] theorem rc_steadfastref23_Holds_6 {base : Nat} {ρ : Env} {s : St} : rc D base (.reg (some [1, 2, 5, 6, 40]) o_steadfastref23_Holds_6) ρ s = R_steadfastref23_Holds_6 base s (get ρ 1) (get ρ 2) (get ρ 5) (get ρ 6) (get ρ 7) (get ρ 8) := rc_reg_O.trans (by kernel_rfl)
@[go_sem] noncomputable def R_steadfastref23_Holds_7 (_base : Nat) (s : St) : Option (Ex × Env × St) :=
  some (.normal, [(4, (.bool true))], s)
@[go_sem] theorem rc_steadfastref23_Holds_7 {base : Nat} {ρ : Env} {s : St} : rc D base (.reg (some [4]) o_steadfastref23_Holds_7) ρ s = R_steadfastref23_Holds_7 base s := rc_reg_O.trans (by kernel_rfl)
@[go_sem] noncomputable def R_steadfastref23_Holds_8 (_base : Nat) (s : St) (v1 v2 v5 v6 : V) : Option (Ex × Env × St) :=
  obind (vbin .add v6 (.int .i64 1)) fun x0 =>
  some (.normal, [(1, v1), (2, v2), (5, v5), (6, x0)], s)
@[go_sem] theorem rc_steadfastref23_Holds_8 {base : Nat} {ρ : Env} {s : St} : rc D base (.reg (some [1, 2, 5, 6]) o_steadfastref23_Holds_8) ρ s = R_steadfastref23_Holds_8 base s (get ρ 1) (get ρ 2) (get ρ 5) (get ρ 6) := rc_reg_O.trans (by kernel_rfl)
@[go_sem] noncomputable def R_steadfastref23_Holds_9 (_base : Nat) (s : St) (v1 v2 v5 : V) : Option (Ex × Env × St) :=
  obind (vbin .add v5 (.int .i64 1)) fun x0 =>
  some (.normal, [(1, v1), (2, v2), (5, x0)], s)
@[go_sem] theorem rc_steadfastref23_Holds_9 {base : Nat} {ρ : Env} {s : St} : rc D base (.reg (some [1, 2, 5]) o_steadfastref23_Holds_9) ρ s = R_steadfastref23_Holds_9 base s (get ρ 1) (get ρ 2) (get ρ 5) := rc_reg_O.trans (by kernel_rfl)
@[go_sem] noncomputable def R_steadfastref23_Holds_10 (_base : Nat) (s : St) : Option (Ex × Env × St) :=
  some (.normal, [(4, (.bool false))], s)
@[go_sem] theorem rc_steadfastref23_Holds_10 {base : Nat} {ρ : Env} {s : St} : rc D base (.reg (some [4]) o_steadfastref23_Holds_10) ρ s = R_steadfastref23_Holds_10 base s := rc_reg_O.trans (by kernel_rfl)

@[go_sem] noncomputable def R_caps_Word_0 (_base : Nat) (s : St) (v0 : V) : Option (Ex × Env × St) :=
  if V.ok v0 && mayNew false v0 then let x0 : V := .ptr (St.fresh s false) [] (V.tag v0); let s0 : St := St.new s false v0
  some (.normal, [(1, x0)], s0)
  else none
@[go_sem] theorem rc_caps_Word_0 {base : Nat} {ρ : Env} {s : St} : rc D base (.reg (some [1]) o_caps_Word_0) ρ s = R_caps_Word_0 base s (get ρ 0) := rc_reg_O.trans (by kernel_rfl)
@[go_sem] noncomputable def R_caps_Word_1 (_base : Nat) (s : St) (v1 : V) : Option (Ex × Env × St) :=
  obind (ldv s 40 v1) fun x0 =>
  obind (rf D f_caps_may [x0] s) fun x1 =>
  obind (vun .not x1.1) fun x2 =>
  some (.normal, [(1, v1), (6, x2)], x1.2)
@[go_sem] theorem rc_caps_Word_1 {base : Nat} {ρ : Env} {s : St} : rc D base (.reg (some [1, 6]) o_caps_Word_1) ρ s = R_caps_Word_1 base s (get ρ 1) := rc_reg_O.trans (by kernel_rfl)
@[go_sem] noncomputable def R_caps_Word_2 (_base : Nat) (s : St) : Option (Ex × Env × St) :=
  some (.normal, [(2, (.int .u64 0)), (3, (.int .i64 1))], s)
@[go_sem] theorem rc_caps_Word_2 {base : Nat} {ρ : Env} {s : St} : rc D base (.reg (some [2, 3]) o_caps_Word_2) ρ s = R_caps_Word_2 base s := rc_reg_O.trans (by kernel_rfl)
@[go_sem] noncomputable def R_caps_Word_3 (_base : Nat) (s : St) (v1 : V) : Option (Ex × Env × St) :=
  obind (fadv 40 0 10 v1) fun x0 =>
  obind (ldv s 10 x0) fun x1 =>
  obind (convv .u64 x1) fun x2 =>
  obind (fadv 40 1 10 v1) fun x3 =>
  obind (ldv s 10 x3) fun x4 =>
  obind (convv .u64 x4) fun x5 =>
  obind (vbin .shl x5 (.int .u64 4)) fun x6 =>
  obind (vbin .or x2 x6) fun x7 =>
  obind (fadv 40 2 10 v1) fun x8 =>
  obind (ldv s 10 x8) fun x9 =>
  obind (convv .u64 x9) fun x10 =>
  obind (vbin .shl x10 (.int .u64 8)) fun x11 =>
  obind (vbin .or x7 x11) fun x12 =>
  obind (fadv 40 3 10 v1) fun x13 =>
  obind (ldv s 10 x13) fun x14 =>
  obind (convv .u64 x14) fun x15 =>
  obind (vbin .shl x15 (.int .u64 24)) fun x16 =>
  obind (vbin .or x12 x16) fun x17 =>
  obind (fadv 40 4 10 v1) fun x18 =>
  obind (ldv s 10 x18) fun x19 =>
  obind (convv .u64 x19) fun x20 =>
  obind (vbin .shl x20 (.int .u64 48)) fun x21 =>
  obind (vbin .or x17 x21) fun x22 =>
  some (.normal, [(2, x22), (3, (.int .i64 0))], s)
@[go_sem] theorem rc_caps_Word_3 {base : Nat} {ρ : Env} {s : St} : rc D base (.reg (some [2, 3]) o_caps_Word_3) ρ s = R_caps_Word_3 base s (get ρ 1) := rc_reg_O.trans (by kernel_rfl)

@[go_sem] noncomputable def R_caps_Of_0 (_base : Nat) (s : St) (v0 : V) : Option (Ex × Env × St) :=
  let x0 : V := .ptr (St.fresh s false) [] 40; let s0 : St := St.new s false (.agg 40 [(.int .i64 0), (.int .i64 0), (.int .i64 0), (.int .i64 0), (.int .i64 0)])
  some (.normal, [(0, v0), (2, x0)], s0)
@[go_sem] theorem rc_caps_Of_0 {base : Nat} {ρ : Env} {s : St} : rc D base (.reg (some [0, 2]) o_caps_Of_0) ρ s = R_caps_Of_0 base s (get ρ 0) := rc_reg_O.trans (by kernel_rfl)
@[go_sem] noncomputable def R_caps_Of_1 (base : Nat) (s : St) (v0 v2 : V) : Option (Ex × Env × St) :=
  obind (vbin .and v0 (.int .u64 15)) fun x0 =>
  obind (convv .i64 x0) fun x1 =>
  obind (vbin .shr v0 (.int .u64 4)) fun x2 =>
  obind (vbin .and x2 (.int .u64 15)) fun x3 =>
  obind (convv .i64 x3) fun x4 =>
  obind (vbin .shr v0 (.int .u64 8)) fun x5 =>
  obind (vbin .and x5 (.int .u64 65535)) fun x6 =>
  obind (convv .i64 x6) fun x7 =>
  obind (vbin .shr v0 (.int .u64 24)) fun x8 =>
  obind (vbin .and x8 (.int .u64 16777215)) fun x9 =>
  obind (convv .i64 x9) fun x10 =>
  obind (vbin .shr v0 (.int .u64 48)) fun x11 =>
  obind (convv .i64 x11) fun x12 =>
  obind (setParts [(.int .i64 0), (.int .i64 0), (.int .i64 0), (.int .i64 0), (.int .i64 0)] [(0, x1), (1, x4), (2, x7), (3, x10), (4, x12)]) fun x13 =>
  let x14 : V := .ptr (St.fresh s false) [] 40; let s14 : St := St.new s false (.agg 40 [(.int .i64 0), (.int .i64 0), (.int .i64 0), (.int .i64 0), (.int .i64 0)])
  obind (stv base s14 40 (.agg 40 x13) x14) fun s15 =>
  some (.normal, [(2, v2), (4, x14)], s15)
@[go_sem] theorem rc_caps_Of_1 {base : Nat} {ρ : Env} {s : St} : rc D base (.reg (some [2, 4]) o_caps_Of_1) ρ s = R_caps_Of_1 base s (get ρ 0) (get ρ 2) := rc_reg_O.trans (by kernel_rfl)
@[go_sem] noncomputable def R_caps_Of_2 (_base : Nat) (s : St) (v2 v4 : V) : Option (Ex × Env × St) :=
  obind (ldv s 40 v4) fun x0 =>
  obind (rf D f_caps_may [x0] s) fun x1 =>
  obind (vun .not x1.1) fun x2 =>
  some (.normal, [(2, v2), (4, v4), (26, x2)], x1.2)
@[go_sem] theorem rc_caps_Of_2 {base : Nat} {ρ : Env} {s : St} : rc D base (.reg (some [2, 4, 26]) o_caps_Of_2) ρ s = R_caps_Of_2 base s (get ρ 2) (get ρ 4) := rc_reg_O.trans (by kernel_rfl)
@[go_sem] noncomputable def R_caps_Of_3 (base : Nat) (s : St) (v2 : V) : Option (Ex × Env × St) :=
  obind (setParts [(.int .i64 0), (.int .i64 0), (.int .i64 0), (.int .i64 0), (.int .i64 0)] []) fun x0 =>
  obind (stv base s 40 (.agg 40 x0) v2) fun s1 =>
  some (.normal, [(2, v2), (3, (.bool false))], s1)
@[go_sem] theorem rc_caps_Of_3 {base : Nat} {ρ : Env} {s : St} : rc D base (.reg (some [2, 3]) o_caps_Of_3) ρ s = R_caps_Of_3 base s (get ρ 2) := rc_reg_O.trans (by kernel_rfl)
@[go_sem] noncomputable def R_caps_Of_4 (base : Nat) (s : St) (v2 v4 : V) : Option (Ex × Env × St) :=
  obind (ldv s 40 v4) fun x0 =>
  obind (stv base s 40 x0 v2) fun s1 =>
  some (.normal, [(2, v2), (3, (.bool true))], s1)
@[go_sem] theorem rc_caps_Of_4 {base : Nat} {ρ : Env} {s : St} : rc D base (.reg (some [2, 3]) o_caps_Of_4) ρ s = R_caps_Of_4 base s (get ρ 2) (get ρ 4) := rc_reg_O.trans (by kernel_rfl)

@[go_sem] noncomputable def R_steadfastref07_Word_0 (_base : Nat) (s : St) (v0 : V) : Option (Ex × Env × St) :=
  if V.ok v0 && mayNew false v0 then let x0 : V := .ptr (St.fresh s false) [] (V.tag v0); let s0 : St := St.new s false v0
  some (.normal, [(1, x0)], s0)
  else none
@[go_sem] theorem rc_steadfastref07_Word_0 {base : Nat} {ρ : Env} {s : St} : rc D base (.reg (some [1]) o_steadfastref07_Word_0) ρ s = R_steadfastref07_Word_0 base s (get ρ 0) := rc_reg_O.trans (by kernel_rfl)
@[go_sem] noncomputable def R_steadfastref07_Word_1 (_base : Nat) (s : St) (v1 : V) : Option (Ex × Env × St) :=
  obind (fadv 40 0 10 v1) fun x0 =>
  obind (ldv s 10 x0) fun x1 =>
  obind (vbin .lss x1 (.int .i64 1)) fun x2 =>
  oguard x2 false (
    obind (fadv 40 0 10 v1) fun x3 =>
    obind (ldv s 10 x3) fun x4 =>
    obind (vbin .gtr x4 (.int .i64 6)) fun x5 =>
    oguard x5 false (
      obind (fadv 40 1 10 v1) fun x6 =>
      obind (ldv s 10 x6) fun x7 =>
      obind (vbin .lss x7 (.int .i64 0)) fun x8 =>
      oguard x8 false (
        obind (fadv 40 1 10 v1) fun x9 =>
        obind (ldv s 10 x9) fun x10 =>
        obind (vbin .gtr x10 (.int .i64 15)) fun x11 =>
        oguard x11 false (
          obind (fadv 40 2 10 v1) fun x12 =>
          obind (ldv s 10 x12) fun x13 =>
          obind (vbin .lss x13 (.int .i64 0)) fun x14 =>
          oguard x14 false (
            obind (fadv 40 2 10 v1) fun x15 =>
            obind (ldv s 10 x15) fun x16 =>
            obind (vbin .geq x16 (.int .i64 49)) fun x17 =>
            oguard x17 false (
              obind (fadv 40 3 10 v1) fun x18 =>
              obind (ldv s 10 x18) fun x19 =>
              obind (vbin .lss x19 (.int .i64 0)) fun x20 =>
              oguard x20 false (
                obind (fadv 40 3 10 v1) fun x21 =>
                obind (ldv s 10 x21) fun x22 =>
                obind (vbin .gtr x22 (.int .i64 16777215)) fun x23 =>
                oguard x23 false (
                  obind (fadv 40 4 10 v1) fun x24 =>
                  obind (ldv s 10 x24) fun x25 =>
                  obind (vbin .lss x25 (.int .i64 0)) fun x26 =>
                  oguard x26 false (
                    obind (fadv 40 4 10 v1) fun x27 =>
                    obind (ldv s 10 x27) fun x28 =>
                    obind (vbin .gtr x28 (.int .i64 65535)) fun x29 =>
                    some (.normal, [(1, v1), (53, x29)], s)) (
                    some (.normal, [(1, v1), (53, (.bool true))], s)) (
                    none)) (
                  some (.normal, [(1, v1), (53, (.bool true))], s)) (
                  none)) (
                some (.normal, [(1, v1), (53, (.bool true))], s)) (
                none)) (
              some (.normal, [(1, v1), (53, (.bool true))], s)) (
              none)) (
            some (.normal, [(1, v1), (53, (.bool true))], s)) (
            none)) (
          some (.normal, [(1, v1), (53, (.bool true))], s)) (
          none)) (
        some (.normal, [(1, v1), (53, (.bool true))], s)) (
        none)) (
      some (.normal, [(1, v1), (53, (.bool true))], s)) (
      none)) (
    some (.normal, [(1, v1), (53, (.bool true))], s)) (
    none)
@[go_sem] theorem rc_steadfastref07_Word_1 {base : Nat} {ρ : Env} {s : St} : rc D base (.reg (some [1, 53]) o_steadfastref07_Word_1) ρ s = R_steadfastref07_Word_1 base s (get ρ 1) := rc_reg_O.trans (by kernel_rfl)
@[go_sem] noncomputable def R_steadfastref07_Word_2 (_base : Nat) (s : St) : Option (Ex × Env × St) :=
  some (.normal, [(2, (.int .u64 0)), (3, (.int .i64 1))], s)
@[go_sem] theorem rc_steadfastref07_Word_2 {base : Nat} {ρ : Env} {s : St} : rc D base (.reg (some [2, 3]) o_steadfastref07_Word_2) ρ s = R_steadfastref07_Word_2 base s := rc_reg_O.trans (by kernel_rfl)
@[go_sem] noncomputable def R_steadfastref07_Word_3 (_base : Nat) (s : St) (v1 : V) : Option (Ex × Env × St) :=
  obind (fadv 40 0 10 v1) fun x0 =>
  obind (ldv s 10 x0) fun x1 =>
  obind (vbin .eql x1 (.int .i64 5)) fun x2 =>
  oguard x2 false (
    obind (fadv 40 0 10 v1) fun x3 =>
    obind (ldv s 10 x3) fun x4 =>
    obind (vbin .eql x4 (.int .i64 6)) fun x5 =>
    oguard x5 true (
      obind (fadv 40 2 10 v1) fun x6 =>
      obind (ldv s 10 x6) fun x7 =>
      obind (vbin .neq x7 (.int .i64 0)) fun x8 =>
      oguard x8 false (
        obind (fadv 40 3 10 v1) fun x9 =>
        obind (ldv s 10 x9) fun x10 =>
        obind (vbin .neq x10 (.int .i64 0)) fun x11 =>
        some (.normal, [(1, v1), (71, x11)], s)) (
        some (.normal, [(1, v1), (71, (.bool true))], s)) (
        none)) (
      some (.normal, [(1, v1), (71, (.bool false))], s)) (
      none)) (
    obind (fadv 40 2 10 v1) fun x3 =>
    obind (ldv s 10 x3) fun x4 =>
    obind (vbin .neq x4 (.int .i64 0)) fun x5 =>
    oguard x5 false (
      obind (fadv 40 3 10 v1) fun x6 =>
      obind (ldv s 10 x6) fun x7 =>
      obind (vbin .neq x7 (.int .i64 0)) fun x8 =>
      some (.normal, [(1, v1), (71, x8)], s)) (
      some (.normal, [(1, v1), (71, (.bool true))], s)) (
      none)) (
    none)
@[go_sem] theorem rc_steadfastref07_Word_3 {base : Nat} {ρ : Env} {s : St} : rc D base (.reg (some [1, 71]) o_steadfastref07_Word_3) ρ s = R_steadfastref07_Word_3 base s (get ρ 1) := rc_reg_O.trans (by kernel_rfl)
@[go_sem] noncomputable def R_steadfastref07_Word_4 (_base : Nat) (s : St) : Option (Ex × Env × St) :=
  some (.normal, [(2, (.int .u64 0)), (3, (.int .i64 1))], s)
@[go_sem] theorem rc_steadfastref07_Word_4 {base : Nat} {ρ : Env} {s : St} : rc D base (.reg (some [2, 3]) o_steadfastref07_Word_4) ρ s = R_steadfastref07_Word_4 base s := rc_reg_O.trans (by kernel_rfl)
@[go_sem] noncomputable def R_steadfastref07_Word_5 (_base : Nat) (s : St) (v1 : V) : Option (Ex × Env × St) :=
  obind (fadv 40 0 10 v1) fun x0 =>
  obind (ldv s 10 x0) fun x1 =>
  obind (convv .u64 x1) fun x2 =>
  obind (rf D f_steadfastref01_With [(.int .u64 0), (.int .i64 0), (.int .i64 4), x2] s) fun x3 =>
  obind (extv 0 x3.1) fun x4 =>
  obind (extv 1 x3.1) fun _x5 =>
  some (.normal, [(1, v1), (4, x4)], x3.2)
@[go_sem] theorem rc_steadfastref07_Word_5 {base : Nat} {ρ : Env} {s : St} : rc D base (.reg (some [1, 4]) o_steadfastref07_Word_5) ρ s = R_steadfastref07_Word_5 base s (get ρ 1) := rc_reg_O.trans (by kernel_rfl)
@[go_sem] noncomputable def R_steadfastref07_Word_6 (_base : Nat) (s : St) (v1 v4 : V) : Option (Ex × Env × St) :=
  obind (fadv 40 1 10 v1) fun x0 =>
  obind (ldv s 10 x0) fun x1 =>
  obind (convv .u64 x1) fun x2 =>
  obind (rf D f_steadfastref01_With [v4, (.int .i64 4), (.int .i64 4), x2] s) fun x3 =>
  obind (extv 0 x3.1) fun x4 =>
  obind (extv 1 x3.1) fun _x5 =>
  some (.normal, [(1, v1), (4, x4)], x3.2)
@[go_sem] theorem rc_steadfastref07_Word_6 {base : Nat} {ρ : Env} {s : St} : rc D base (.reg (some [1, 4]) o_steadfastref07_Word_6) ρ s = R_steadfastref07_Word_6 base s (get ρ 1) (get ρ 4) := rc_reg_O.trans (by kernel_rfl)
@[go_sem] noncomputable def R_steadfastref07_Word_7 (_base : Nat) (s : St) (v1 v4 : V) : Option (Ex × Env × St) :=
  obind (fadv 40 2 10 v1) fun x0 =>
  obind (ldv s 10 x0) fun x1 =>
  obind (convv .u64 x1) fun x2 =>
  obind (rf D f_steadfastref01_With [v4, (.int .i64 8), (.int .i64 16), x2] s) fun x3 =>
  obind (extv 0 x3.1) fun x4 =>
  obind (extv 1 x3.1) fun _x5 =>
  some (.normal, [(1, v1), (4, x4)], x3.2)
@[go_sem] theorem rc_steadfastref07_Word_7 {base : Nat} {ρ : Env} {s : St} : rc D base (.reg (some [1, 4]) o_steadfastref07_Word_7) ρ s = R_steadfastref07_Word_7 base s (get ρ 1) (get ρ 4) := rc_reg_O.trans (by kernel_rfl)

end Go.Proofs.Ytpbpgbedkmbfkaa
