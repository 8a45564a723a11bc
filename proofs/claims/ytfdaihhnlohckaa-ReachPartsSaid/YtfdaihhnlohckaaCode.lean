/-
  YtfdaihhnlohckaaCode: the code of the functions that this seat's laws reach, in the form of Ab1 (printed by a program out of the translation; held against it in YtfdaihhnlohckaaChk).
-/
import Derived.Test.YtfdaihhnlohckaaAb3
import Derived.KernelRfl
set_option maxRecDepth 100000
namespace Go.Proofs.Ytfdaihhnlohckaa
open Go.Ab
/-! The functions' numbers. -/
def f_steadfastlaw23_ReachLess : Nat := 6
def f_steadfastlaw23_ReachParts : Nat := 7
def f_steadfastlaw23_shown : Nat := 16
def f_steadfastlaw23_world : Nat := 17
def f_reach_From : Nat := 18
def f_reach_Names : Nat := 19
def f_steadfastref07_Word : Nat := 29
def f_reach_From_1 : Nat := 30
def f_caps_Of : Nat := 31
def f_entry_Names : Nat := 32
def f_steadfastref01_With : Nat := 43
def f_caps_may : Nat := 44
def f_steadfastref01_is : Nat := 55
def f_steadfastref01_bit : Nat := 56
def f_caps_within : Nat := 57
def o_steadfastlaw23_ReachLess_0 : List Ab.Op := [
  ⟨some 5, none, .box false (.t 2)⟩,
  ⟨some 6, none, .mv (.k (.bool false))⟩]
def o_steadfastlaw23_ReachLess_1 : List Ab.Op := [
  ⟨some 14, none, .call (.k (.fn f_steadfastlaw23_shown [])) []⟩,
  ⟨some 7, none, .mv (.t 14)⟩]
def o_steadfastlaw23_ReachLess_2 : List Ab.Op := [
  ⟨some 15, none, .mv (.t 0)⟩,
  ⟨some 16, none, .call (.k (.fn f_steadfastlaw23_world [])) [(.t 15)]⟩,
  ⟨some 8, none, .alloc false (.agg 30 (List.replicate 49 (.agg 26 [(.int .i64 0), (.int .i64 0), (.agg 24 (List.replicate 8 (.int .u64 0)))])))⟩,
  ⟨none, none, .st 30 (.t 8) (.t 16)⟩]
def o_steadfastlaw23_ReachLess_3 : List Ab.Op := [
  ⟨some 17, none, .ld 30 (.t 8)⟩,
  ⟨some 18, none, .mv (.t 1)⟩,
  ⟨some 19, none, .call (.k (.fn f_reach_From [])) [(.t 17), (.t 18)]⟩,
  ⟨some 9, none, .alloc false (.agg 32 (List.replicate 49 (.bool false)))⟩,
  ⟨none, none, .st 32 (.t 9) (.t 19)⟩]
def o_steadfastlaw23_ReachLess_4 : List Ab.Op := [
  ⟨some 20, none, .iad 22 2 10 (.t 5) (.k (.int .i64 0))⟩,
  ⟨some 21, none, .ld 10 (.t 20)⟩,
  ⟨some 22, none, .bin .rem (.t 21) (.k (.int .i64 49))⟩,
  ⟨some 10, none, .mv (.t 22)⟩]
def o_steadfastlaw23_ReachLess_5 : List Ab.Op := [
  ⟨some 23, none, .mv (.t 10)⟩,
  ⟨some 24, none, .bin .lss (.t 23) (.k (.int .i64 0))⟩]
def o_steadfastlaw23_ReachLess_6 : List Ab.Op := [
  ⟨some 25, none, .mv (.t 10)⟩,
  ⟨some 26, none, .un .neg (.t 25)⟩,
  ⟨some 10, none, .mv (.t 26)⟩]
def o_steadfastlaw23_ReachLess_7 : List Ab.Op := [
  ⟨some 27, none, .iad 22 2 10 (.t 5) (.k (.int .i64 1))⟩,
  ⟨some 28, none, .ld 10 (.t 27)⟩,
  ⟨some 29, none, .bin .rem (.t 28) (.k (.int .i64 8))⟩,
  ⟨some 11, none, .mv (.t 29)⟩]
def o_steadfastlaw23_ReachLess_8 : List Ab.Op := [
  ⟨some 30, none, .mv (.t 11)⟩,
  ⟨some 31, none, .bin .lss (.t 30) (.k (.int .i64 0))⟩]
def o_steadfastlaw23_ReachLess_9 : List Ab.Op := [
  ⟨some 32, none, .mv (.t 11)⟩,
  ⟨some 33, none, .un .neg (.t 32)⟩,
  ⟨some 11, none, .mv (.t 33)⟩]
def o_steadfastlaw23_ReachLess_10 : List Ab.Op := [
  ⟨some 34, none, .mv (.t 10)⟩,
  ⟨some 35, none, .iad 30 49 26 (.t 8) (.t 34)⟩,
  ⟨some 36, none, .fad 26 0 10 (.t 35)⟩,
  ⟨some 37, none, .ld 10 (.t 36)⟩,
  ⟨some 38, none, .bin .eql (.t 37) (.k (.int .i64 2))⟩]
def o_steadfastlaw23_ReachLess_11 : List Ab.Op := [
  ⟨some 39, none, .mv (.t 10)⟩,
  ⟨some 40, none, .mv (.t 11)⟩,
  ⟨some 41, none, .iad 30 49 26 (.t 8) (.t 39)⟩,
  ⟨some 42, none, .fad 26 2 24 (.t 41)⟩,
  ⟨some 43, none, .iad 24 8 18 (.t 42) (.t 40)⟩,
  ⟨none, none, .st 18 (.t 43) (.k (.int .u64 0))⟩]
def o_steadfastlaw23_ReachLess_12 : List Ab.Op := [
  ⟨some 44, none, .ld 30 (.t 8)⟩,
  ⟨some 45, none, .mv (.t 1)⟩,
  ⟨some 46, none, .call (.k (.fn f_reach_From [])) [(.t 44), (.t 45)]⟩,
  ⟨some 12, none, .alloc false (.agg 32 (List.replicate 49 (.bool false)))⟩,
  ⟨none, none, .st 32 (.t 12) (.t 46)⟩]
def o_steadfastlaw23_ReachLess_13 : List Ab.Op := [
  ⟨some 13, none, .mv (.k (.int .i64 0))⟩]
def o_steadfastlaw23_ReachLess_14 : List Ab.Op := [
  ⟨some 47, none, .mv (.t 13)⟩,
  ⟨some 48, none, .bin .lss (.t 47) (.k (.int .i64 49))⟩]
def o_steadfastlaw23_ReachLess_15 : List Ab.Op := [
  ⟨some 51, none, .mv (.t 13)⟩,
  ⟨some 52, none, .iad 32 49 0 (.t 12) (.t 51)⟩,
  ⟨some 53, none, .ld 0 (.t 52)⟩,
  ⟨some 54, none, .mv (.t 53)⟩,
  ⟨some 55, some (54, true), .mv (.t 13)⟩,
  ⟨some 56, some (54, true), .iad 32 49 0 (.t 9) (.t 55)⟩,
  ⟨some 57, some (54, true), .ld 0 (.t 56)⟩,
  ⟨some 58, some (54, true), .un .not (.t 57)⟩,
  ⟨some 59, none, .pick (.t 54) (.t 58) (.k (.bool false))⟩]
def o_steadfastlaw23_ReachLess_16 : List Ab.Op := [
  ⟨some 6, none, .mv (.k (.bool false))⟩]
def o_steadfastlaw23_ReachLess_17 : List Ab.Op := [
  ⟨some 49, none, .mv (.t 13)⟩,
  ⟨some 50, none, .bin .add (.t 49) (.k (.int .i64 1))⟩,
  ⟨some 13, none, .mv (.t 50)⟩]
def o_steadfastlaw23_ReachLess_18 : List Ab.Op := [
  ⟨some 60, none, .mv (.t 7)⟩,
  ⟨some 6, none, .mv (.t 60)⟩]
def b_steadfastlaw23_ReachLess_0 : C :=
    .seq (.seq ((.reg (some [7, 9, 12, 13, 48]) o_steadfastlaw23_ReachLess_14)) (
    .cond (.t 48) (
      .skip) (
      .exit 0))) (
    .seq (.block 1 (
      .seq ((.reg (some [7, 9, 12, 13, 59]) o_steadfastlaw23_ReachLess_15)) (
      .cond (.t 59) (
        .seq ((.reg (some [6]) o_steadfastlaw23_ReachLess_16)) (
        .ret)) (
        .skip)))) (
    (.reg (some [7, 9, 12, 13]) o_steadfastlaw23_ReachLess_17)))
/-- steadfast/steadfastlaw23.ReachLess -/
@[go_sem] def fc_steadfastlaw23_ReachLess : Fc := ⟨3,
  .seq ((.reg (some [0, 1, 5]) o_steadfastlaw23_ReachLess_0)) (
  .seq ((.reg (some [0, 1, 5, 7]) o_steadfastlaw23_ReachLess_1)) (
  .seq ((.reg (some [1, 5, 7, 8]) o_steadfastlaw23_ReachLess_2)) (
  .seq ((.reg (some [1, 5, 7, 8, 9]) o_steadfastlaw23_ReachLess_3)) (
  .seq ((.reg (some [1, 5, 7, 8, 9, 10]) o_steadfastlaw23_ReachLess_4)) (
  .seq (.seq ((.reg (some [1, 5, 7, 8, 9, 10, 24]) o_steadfastlaw23_ReachLess_5)) (
  .cond (.t 24) (
    (.reg (some [1, 5, 7, 8, 9, 10]) o_steadfastlaw23_ReachLess_6)) (
    .skip))) (
  .seq ((.reg (some [1, 7, 8, 9, 10, 11]) o_steadfastlaw23_ReachLess_7)) (
  .seq (.seq ((.reg (some [1, 7, 8, 9, 10, 11, 31]) o_steadfastlaw23_ReachLess_8)) (
  .cond (.t 31) (
    (.reg (some [1, 7, 8, 9, 10, 11]) o_steadfastlaw23_ReachLess_9)) (
    .skip))) (
  .seq (.seq ((.reg (some [1, 7, 8, 9, 10, 11, 38]) o_steadfastlaw23_ReachLess_10)) (
  .cond (.t 38) (
    (.reg (some [1, 7, 8, 9]) o_steadfastlaw23_ReachLess_11)) (
    .skip))) (
  .seq ((.reg (some [7, 9, 12]) o_steadfastlaw23_ReachLess_12)) (
  .seq (.seq ((.reg (some [7, 9, 12, 13]) o_steadfastlaw23_ReachLess_13)) (
  .block 0 (
    .loop [7, 9, 12, 13] b_steadfastlaw23_ReachLess_0))) (
  .seq ((.reg (some [6]) o_steadfastlaw23_ReachLess_18)) (
  .ret)))))))))))),
  [.t 6]⟩
def o_steadfastlaw23_ReachParts_0 : List Ab.Op := [
  ⟨some 4, none, .mv (.k (.bool false))⟩]
def o_steadfastlaw23_ReachParts_1 : List Ab.Op := [
  ⟨some 14, none, .call (.k (.fn f_steadfastlaw23_shown [])) []⟩,
  ⟨some 5, none, .mv (.t 14)⟩]
def o_steadfastlaw23_ReachParts_2 : List Ab.Op := [
  ⟨some 15, none, .mv (.t 0)⟩,
  ⟨some 16, none, .call (.k (.fn f_steadfastlaw23_world [])) [(.t 15)]⟩,
  ⟨some 6, none, .alloc false (.agg 30 (List.replicate 49 (.agg 26 [(.int .i64 0), (.int .i64 0), (.agg 24 (List.replicate 8 (.int .u64 0)))])))⟩,
  ⟨none, none, .st 30 (.t 6) (.t 16)⟩]
def o_steadfastlaw23_ReachParts_3 : List Ab.Op := [
  ⟨some 17, none, .ld 30 (.t 6)⟩,
  ⟨some 18, none, .mv (.t 1)⟩,
  ⟨some 19, none, .call (.k (.fn f_reach_From [])) [(.t 17), (.t 18)]⟩,
  ⟨some 7, none, .alloc false (.agg 32 (List.replicate 49 (.bool false)))⟩,
  ⟨none, none, .st 32 (.t 7) (.t 19)⟩]
def o_steadfastlaw23_ReachParts_4 : List Ab.Op := [
  ⟨some 21, none, .ld 30 (.t 6)⟩,
  ⟨some 22, none, .mv (.t 1)⟩,
  ⟨some 23, none, .call (.k (.fn f_reach_Names [])) [(.t 21), (.t 22)]⟩,
  ⟨some 20, none, .mv (.t 23)⟩,
  ⟨some 24, none, .ext (.t 20) 0⟩,
  ⟨some 25, none, .ext (.t 20) 1⟩,
  ⟨some 8, none, .mv (.t 24)⟩,
  ⟨some 9, none, .mv (.t 25)⟩]
def o_steadfastlaw23_ReachParts_5 : List Ab.Op := [
  ⟨some 26, none, .mv (.t 9)⟩,
  ⟨some 27, none, .un .not (.t 26)⟩]
def o_steadfastlaw23_ReachParts_6 : List Ab.Op := [
  ⟨some 28, none, .mv (.t 5)⟩,
  ⟨some 29, none, .mv (.t 28)⟩,
  ⟨some 30, some (29, true), .ld 32 (.t 7)⟩,
  ⟨some 31, some (29, true), .bld (.agg 32 (List.replicate 49 (.bool false))) []⟩,
  ⟨some 32, some (29, true), .eq false 32 (.t 30) (.t 31)⟩,
  ⟨some 33, none, .pick (.t 29) (.t 32) (.k (.bool false))⟩,
  ⟨some 4, none, .mv (.t 33)⟩]
def o_steadfastlaw23_ReachParts_7 : List Ab.Op := [
  ⟨some 34, none, .mv (.t 8)⟩,
  ⟨some 35, none, .iad 32 49 0 (.t 7) (.t 34)⟩,
  ⟨some 36, none, .ld 0 (.t 35)⟩,
  ⟨some 37, none, .un .not (.t 36)⟩]
def o_steadfastlaw23_ReachParts_8 : List Ab.Op := [
  ⟨some 4, none, .mv (.k (.bool false))⟩]
def o_steadfastlaw23_ReachParts_9 : List Ab.Op := [
  ⟨some 38, none, .mv (.t 8)⟩,
  ⟨some 39, none, .iad 30 49 26 (.t 6) (.t 38)⟩,
  ⟨some 40, none, .fad 26 0 10 (.t 39)⟩,
  ⟨some 41, none, .ld 10 (.t 40)⟩,
  ⟨some 42, none, .bin .neq (.t 41) (.k (.int .i64 2))⟩]
def o_steadfastlaw23_ReachParts_10 : List Ab.Op := [
  ⟨some 43, none, .mv (.t 8)⟩,
  ⟨some 44, none, .iad 32 49 0 (.t 7) (.t 43)⟩,
  ⟨none, none, .st 0 (.t 44) (.k (.bool false))⟩]
def o_steadfastlaw23_ReachParts_11 : List Ab.Op := [
  ⟨some 45, none, .mv (.t 5)⟩,
  ⟨some 46, none, .mv (.t 45)⟩,
  ⟨some 47, some (46, true), .ld 32 (.t 7)⟩,
  ⟨some 48, some (46, true), .bld (.agg 32 (List.replicate 49 (.bool false))) []⟩,
  ⟨some 49, some (46, true), .eq false 32 (.t 47) (.t 48)⟩,
  ⟨some 50, none, .pick (.t 46) (.t 49) (.k (.bool false))⟩,
  ⟨some 4, none, .mv (.t 50)⟩]
def o_steadfastlaw23_ReachParts_12 : List Ab.Op := [
  ⟨some 51, none, .bld (.agg 32 (List.replicate 49 (.bool false))) []⟩,
  ⟨some 10, none, .alloc false (.agg 32 (List.replicate 49 (.bool false)))⟩,
  ⟨none, none, .st 32 (.t 10) (.t 51)⟩]
def o_steadfastlaw23_ReachParts_13 : List Ab.Op := [
  ⟨some 52, none, .mv (.t 8)⟩,
  ⟨some 53, none, .iad 32 49 0 (.t 10) (.t 52)⟩,
  ⟨none, none, .st 0 (.t 53) (.k (.bool true))⟩]
def o_steadfastlaw23_ReachParts_14 : List Ab.Op := [
  ⟨some 11, none, .mv (.k (.int .i64 0))⟩]
def o_steadfastlaw23_ReachParts_15 : List Ab.Op := [
  ⟨some 54, none, .mv (.t 11)⟩,
  ⟨some 55, none, .bin .lss (.t 54) (.k (.int .i64 8))⟩]
def o_steadfastlaw23_ReachParts_16 : List Ab.Op := [
  ⟨some 58, none, .ld 30 (.t 6)⟩,
  ⟨some 59, none, .mv (.t 8)⟩,
  ⟨some 60, none, .mv (.t 11)⟩,
  ⟨some 61, none, .iad 30 49 26 (.t 6) (.t 59)⟩,
  ⟨some 62, none, .fad 26 2 24 (.t 61)⟩,
  ⟨some 63, none, .iad 24 8 18 (.t 62) (.t 60)⟩,
  ⟨some 64, none, .ld 18 (.t 63)⟩,
  ⟨some 65, none, .pcall (.k (.fn f_reach_From [])) [(.t 58), (.t 64)]⟩,
  ⟨some 12, none, .alloc false (.agg 32 (List.replicate 49 (.bool false)))⟩,
  ⟨none, none, .st 32 (.t 12) (.t 65)⟩]
def o_steadfastlaw23_ReachParts_17 : List Ab.Op := [
  ⟨some 13, none, .mv (.k (.int .i64 0))⟩]
def o_steadfastlaw23_ReachParts_18 : List Ab.Op := [
  ⟨some 66, none, .mv (.t 13)⟩,
  ⟨some 67, none, .bin .lss (.t 66) (.k (.int .i64 49))⟩]
def o_steadfastlaw23_ReachParts_19 : List Ab.Op := [
  ⟨some 70, none, .mv (.t 13)⟩,
  ⟨some 71, none, .mv (.t 13)⟩,
  ⟨some 72, none, .iad 32 49 0 (.t 10) (.t 71)⟩,
  ⟨some 73, none, .ld 0 (.t 72)⟩,
  ⟨some 74, none, .mv (.t 73)⟩,
  ⟨some 75, some (74, false), .mv (.t 13)⟩,
  ⟨some 76, some (74, false), .iad 32 49 0 (.t 12) (.t 75)⟩,
  ⟨some 77, some (74, false), .ld 0 (.t 76)⟩,
  ⟨some 78, none, .pick (.t 74) (.k (.bool true)) (.t 77)⟩,
  ⟨some 79, none, .iad 32 49 0 (.t 10) (.t 70)⟩,
  ⟨none, none, .st 0 (.t 79) (.t 78)⟩]
def o_steadfastlaw23_ReachParts_20 : List Ab.Op := [
  ⟨some 68, none, .mv (.t 13)⟩,
  ⟨some 69, none, .bin .add (.t 68) (.k (.int .i64 1))⟩,
  ⟨some 13, none, .mv (.t 69)⟩]
def o_steadfastlaw23_ReachParts_21 : List Ab.Op := [
  ⟨some 56, none, .mv (.t 11)⟩,
  ⟨some 57, none, .bin .add (.t 56) (.k (.int .i64 1))⟩,
  ⟨some 11, none, .mv (.t 57)⟩]
def o_steadfastlaw23_ReachParts_22 : List Ab.Op := [
  ⟨some 80, none, .mv (.t 5)⟩,
  ⟨some 81, none, .mv (.t 80)⟩,
  ⟨some 82, some (81, true), .ld 32 (.t 7)⟩,
  ⟨some 83, some (81, true), .ld 32 (.t 10)⟩,
  ⟨some 84, some (81, true), .eq false 32 (.t 82) (.t 83)⟩,
  ⟨some 85, none, .pick (.t 81) (.t 84) (.k (.bool false))⟩,
  ⟨some 4, none, .mv (.t 85)⟩]
def b_steadfastlaw23_ReachParts_1 : C :=
    .seq (.seq ((.reg (some [5, 6, 7, 8, 10, 11, 12, 13, 67]) o_steadfastlaw23_ReachParts_18)) (
    .cond (.t 67) (
      .skip) (
      .exit 2))) (
    .seq (.block 3 (
      (.reg (some [5, 6, 7, 8, 10, 11, 12, 13]) o_steadfastlaw23_ReachParts_19))) (
    (.reg (some [5, 6, 7, 8, 10, 11, 12, 13]) o_steadfastlaw23_ReachParts_20)))
def b_steadfastlaw23_ReachParts_0 : C :=
    .seq (.seq ((.reg (some [5, 6, 7, 8, 10, 11, 55]) o_steadfastlaw23_ReachParts_15)) (
    .cond (.t 55) (
      .skip) (
      .exit 0))) (
    .seq (.block 1 (
      .seq ((.regd (some [5, 6, 7, 8, 10, 11, 12]) o_steadfastlaw23_ReachParts_16)) (
      .seq ((.reg (some [5, 6, 7, 8, 10, 11, 12, 13]) o_steadfastlaw23_ReachParts_17)) (
      .block 2 (
        .loop [5, 6, 7, 8, 10, 11, 12, 13] b_steadfastlaw23_ReachParts_1))))) (
    (.reg (some [5, 6, 7, 8, 10, 11]) o_steadfastlaw23_ReachParts_21)))
/-- steadfast/steadfastlaw23.ReachParts -/
@[go_sem] def fc_steadfastlaw23_ReachParts : Fc := ⟨2,
  .seq ((.reg (some [0, 1]) o_steadfastlaw23_ReachParts_0)) (
  .seq ((.reg (some [0, 1, 5]) o_steadfastlaw23_ReachParts_1)) (
  .seq ((.reg (some [1, 5, 6]) o_steadfastlaw23_ReachParts_2)) (
  .seq ((.reg (some [1, 5, 6, 7]) o_steadfastlaw23_ReachParts_3)) (
  .seq ((.reg (some [5, 6, 7, 8, 9]) o_steadfastlaw23_ReachParts_4)) (
  .seq (.seq ((.reg (some [5, 6, 7, 8, 27]) o_steadfastlaw23_ReachParts_5)) (
  .cond (.t 27) (
    .seq ((.reg (some [4]) o_steadfastlaw23_ReachParts_6)) (
    .ret)) (
    .skip))) (
  .seq (.seq ((.reg (some [5, 6, 7, 8, 37]) o_steadfastlaw23_ReachParts_7)) (
  .cond (.t 37) (
    .seq ((.reg (some [4]) o_steadfastlaw23_ReachParts_8)) (
    .ret)) (
    .skip))) (
  .seq (.seq ((.reg (some [5, 6, 7, 8, 42]) o_steadfastlaw23_ReachParts_9)) (
  .cond (.t 42) (
    .seq ((.reg (some [5, 7]) o_steadfastlaw23_ReachParts_10)) (
    .seq ((.reg (some [4]) o_steadfastlaw23_ReachParts_11)) (
    .ret))) (
    .skip))) (
  .seq ((.reg (some [5, 6, 7, 8, 10]) o_steadfastlaw23_ReachParts_12)) (
  .seq ((.reg (some [5, 6, 7, 8, 10]) o_steadfastlaw23_ReachParts_13)) (
  .seq (.seq ((.reg (some [5, 6, 7, 8, 10, 11]) o_steadfastlaw23_ReachParts_14)) (
  .block 0 (
    .loop [5, 6, 7, 8, 10, 11] b_steadfastlaw23_ReachParts_0))) (
  .seq ((.reg (some [4]) o_steadfastlaw23_ReachParts_22)) (
  .ret)))))))))))),
  [.t 4]⟩
def o_steadfastlaw23_shown_0 : List Ab.Op := [
  ⟨some 0, none, .mv (.k (.bool false))⟩]
def o_steadfastlaw23_shown_1 : List Ab.Op := [
  ⟨some 8, none, .bld (.agg 40 [(.int .i64 0), (.int .i64 0), (.int .i64 0), (.int .i64 0), (.int .i64 0)]) [(0, (.k (.int .i64 1))), (1, (.k (.int .i64 1)))]⟩,
  ⟨some 9, none, .call (.k (.fn f_steadfastref07_Word [])) [(.t 8)]⟩,
  ⟨some 7, none, .mv (.t 9)⟩,
  ⟨some 10, none, .ext (.t 7) 0⟩,
  ⟨some 11, none, .ext (.t 7) 1⟩,
  ⟨some 1, none, .mv (.t 10)⟩,
  ⟨some 2, none, .mv (.t 11)⟩]
def o_steadfastlaw23_shown_2 : List Ab.Op := [
  ⟨some 13, none, .bld (.agg 40 [(.int .i64 0), (.int .i64 0), (.int .i64 0), (.int .i64 0), (.int .i64 0)]) [(0, (.k (.int .i64 2))), (1, (.k (.int .i64 1))), (2, (.k (.int .i64 1)))]⟩,
  ⟨some 14, none, .call (.k (.fn f_steadfastref07_Word [])) [(.t 13)]⟩,
  ⟨some 12, none, .mv (.t 14)⟩,
  ⟨some 15, none, .ext (.t 12) 0⟩,
  ⟨some 16, none, .ext (.t 12) 1⟩,
  ⟨some 3, none, .mv (.t 15)⟩,
  ⟨some 4, none, .mv (.t 16)⟩]
def o_steadfastlaw23_shown_3 : List Ab.Op := [
  ⟨some 17, none, .bld (.agg 26 [(.int .i64 0), (.int .i64 0), (.agg 24 (List.replicate 8 (.int .u64 0)))]) [(0, (.k (.int .i64 1)))]⟩,
  ⟨some 18, none, .mv (.t 1)⟩,
  ⟨some 19, none, .bld (.agg 24 (List.replicate 8 (.int .u64 0))) [(2, (.t 18))]⟩,
  ⟨some 20, none, .bld (.agg 26 [(.int .i64 0), (.int .i64 0), (.agg 24 (List.replicate 8 (.int .u64 0)))]) [(0, (.k (.int .i64 2))), (2, (.t 19))]⟩,
  ⟨some 21, none, .bsl false 28 26 (.agg 26 [(.int .i64 0), (.int .i64 0), (.agg 24 (List.replicate 8 (.int .u64 0)))]) 2 [(0, (.t 17)), (1, (.t 20))]⟩,
  ⟨some 22, none, .call (.k (.fn f_steadfastlaw23_world [])) [(.t 21)]⟩,
  ⟨some 5, none, .alloc false (.agg 30 (List.replicate 49 (.agg 26 [(.int .i64 0), (.int .i64 0), (.agg 24 (List.replicate 8 (.int .u64 0)))])))⟩,
  ⟨none, none, .st 30 (.t 5) (.t 22)⟩]
def o_steadfastlaw23_shown_4 : List Ab.Op := [
  ⟨some 23, none, .ld 30 (.t 5)⟩,
  ⟨some 24, none, .mv (.t 3)⟩,
  ⟨some 25, none, .call (.k (.fn f_reach_From [])) [(.t 23), (.t 24)]⟩,
  ⟨some 6, none, .alloc false (.agg 32 (List.replicate 49 (.bool false)))⟩,
  ⟨none, none, .st 32 (.t 6) (.t 25)⟩]
def o_steadfastlaw23_shown_5 : List Ab.Op := [
  ⟨some 26, none, .iad 32 49 0 (.t 6) (.k (.int .i64 0))⟩,
  ⟨some 27, none, .ld 0 (.t 26)⟩,
  ⟨some 28, none, .mv (.t 27)⟩,
  ⟨some 29, some (28, true), .iad 32 49 0 (.t 6) (.k (.int .i64 1))⟩,
  ⟨some 30, some (28, true), .ld 0 (.t 29)⟩,
  ⟨some 31, none, .pick (.t 28) (.t 30) (.k (.bool false))⟩,
  ⟨some 32, none, .mv (.t 31)⟩,
  ⟨some 33, some (32, true), .iad 32 49 0 (.t 6) (.k (.int .i64 2))⟩,
  ⟨some 34, some (32, true), .ld 0 (.t 33)⟩,
  ⟨some 35, some (32, true), .un .not (.t 34)⟩,
  ⟨some 36, none, .pick (.t 32) (.t 35) (.k (.bool false))⟩,
  ⟨some 37, none, .mv (.t 36)⟩,
  ⟨some 38, some (37, true), .ld 30 (.t 5)⟩,
  ⟨some 39, some (37, true), .call (.k (.fn f_reach_From [])) [(.t 38), (.k (.int .u64 0))]⟩,
  ⟨some 40, some (37, true), .bld (.agg 32 (List.replicate 49 (.bool false))) []⟩,
  ⟨some 41, some (37, true), .eq false 32 (.t 39) (.t 40)⟩,
  ⟨some 42, none, .pick (.t 37) (.t 41) (.k (.bool false))⟩,
  ⟨some 0, none, .mv (.t 42)⟩]
/-- steadfast/steadfastlaw23.shown -/
@[go_sem] def fc_steadfastlaw23_shown : Fc := ⟨0,
  .seq ((.reg (some []) o_steadfastlaw23_shown_0)) (
  .seq ((.reg (some [1]) o_steadfastlaw23_shown_1)) (
  .seq ((.reg (some [1, 3]) o_steadfastlaw23_shown_2)) (
  .seq ((.reg (some [3, 5]) o_steadfastlaw23_shown_3)) (
  .seq ((.reg (some [5, 6]) o_steadfastlaw23_shown_4)) (
  .seq ((.reg (some [0]) o_steadfastlaw23_shown_5)) (
  .ret)))))),
  [.t 0]⟩
def o_steadfastlaw23_world_0 : List Ab.Op := [
  ⟨some 2, none, .alloc false (.agg 30 (List.replicate 49 (.agg 26 [(.int .i64 0), (.int .i64 0), (.agg 24 (List.replicate 8 (.int .u64 0)))])))⟩]
def o_steadfastlaw23_world_1 : List Ab.Op := [
  ⟨some 7, none, .bld (.agg 30 (List.replicate 49 (.agg 26 [(.int .i64 0), (.int .i64 0), (.agg 24 (List.replicate 8 (.int .u64 0)))]))) []⟩,
  ⟨some 3, none, .alloc false (.agg 30 (List.replicate 49 (.agg 26 [(.int .i64 0), (.int .i64 0), (.agg 24 (List.replicate 8 (.int .u64 0)))])))⟩,
  ⟨none, none, .st 30 (.t 3) (.t 7)⟩]
def o_steadfastlaw23_world_2 : List Ab.Op := [
  ⟨some 4, none, .mv (.k (.int .i64 0))⟩]
def o_steadfastlaw23_world_3 : List Ab.Op := [
  ⟨some 8, none, .mv (.t 4)⟩,
  ⟨some 9, none, .mv (.t 0)⟩,
  ⟨some 10, none, .len false (.t 9)⟩,
  ⟨some 11, none, .bin .lss (.t 8) (.t 10)⟩,
  ⟨some 12, none, .mv (.t 11)⟩,
  ⟨some 13, some (12, true), .mv (.t 4)⟩,
  ⟨some 14, some (12, true), .bin .lss (.t 13) (.k (.int .i64 49))⟩,
  ⟨some 15, none, .pick (.t 12) (.t 14) (.k (.bool false))⟩]
def o_steadfastlaw23_world_4 : List Ab.Op := [
  ⟨some 18, none, .mv (.t 0)⟩,
  ⟨some 19, none, .mv (.t 4)⟩,
  ⟨some 20, none, .sad 26 (.t 18) (.t 19)⟩,
  ⟨some 21, none, .fad 26 0 10 (.t 20)⟩,
  ⟨some 22, none, .ld 10 (.t 21)⟩,
  ⟨some 23, none, .bin .rem (.t 22) (.k (.int .i64 5))⟩,
  ⟨some 5, none, .mv (.t 23)⟩]
def o_steadfastlaw23_world_5 : List Ab.Op := [
  ⟨some 24, none, .mv (.t 5)⟩,
  ⟨some 25, none, .bin .lss (.t 24) (.k (.int .i64 0))⟩]
def o_steadfastlaw23_world_6 : List Ab.Op := [
  ⟨some 26, none, .mv (.t 5)⟩,
  ⟨some 27, none, .un .neg (.t 26)⟩,
  ⟨some 5, none, .mv (.t 27)⟩]
def o_steadfastlaw23_world_7 : List Ab.Op := [
  ⟨some 28, none, .mv (.t 0)⟩,
  ⟨some 29, none, .mv (.t 4)⟩,
  ⟨some 30, none, .sad 26 (.t 28) (.t 29)⟩,
  ⟨some 31, none, .fad 26 1 10 (.t 30)⟩,
  ⟨some 32, none, .ld 10 (.t 31)⟩,
  ⟨some 33, none, .bin .rem (.t 32) (.k (.int .i64 100))⟩,
  ⟨some 6, none, .mv (.t 33)⟩]
def o_steadfastlaw23_world_8 : List Ab.Op := [
  ⟨some 34, none, .mv (.t 6)⟩,
  ⟨some 35, none, .bin .lss (.t 34) (.k (.int .i64 0))⟩]
def o_steadfastlaw23_world_9 : List Ab.Op := [
  ⟨some 36, none, .mv (.t 6)⟩,
  ⟨some 37, none, .un .neg (.t 36)⟩,
  ⟨some 6, none, .mv (.t 37)⟩]
def o_steadfastlaw23_world_10 : List Ab.Op := [
  ⟨some 38, none, .mv (.t 5)⟩,
  ⟨some 39, none, .bin .neq (.t 38) (.k (.int .i64 0))⟩]
def o_steadfastlaw23_world_11 : List Ab.Op := [
  ⟨some 40, none, .mv (.t 4)⟩,
  ⟨some 41, none, .mv (.t 5)⟩,
  ⟨some 42, none, .mv (.t 6)⟩,
  ⟨some 43, none, .mv (.t 0)⟩,
  ⟨some 44, none, .mv (.t 4)⟩,
  ⟨some 45, none, .sad 26 (.t 43) (.t 44)⟩,
  ⟨some 46, none, .fad 26 2 24 (.t 45)⟩,
  ⟨some 47, none, .ld 24 (.t 46)⟩,
  ⟨some 48, none, .bld (.agg 26 [(.int .i64 0), (.int .i64 0), (.agg 24 (List.replicate 8 (.int .u64 0)))]) [(0, (.t 41)), (1, (.t 42)), (2, (.t 47))]⟩,
  ⟨some 49, none, .iad 30 49 26 (.t 3) (.t 40)⟩,
  ⟨none, none, .st 26 (.t 49) (.t 48)⟩]
def o_steadfastlaw23_world_12 : List Ab.Op := [
  ⟨some 16, none, .mv (.t 4)⟩,
  ⟨some 17, none, .bin .add (.t 16) (.k (.int .i64 1))⟩,
  ⟨some 4, none, .mv (.t 17)⟩]
def o_steadfastlaw23_world_13 : List Ab.Op := [
  ⟨some 50, none, .ld 30 (.t 3)⟩,
  ⟨none, none, .st 30 (.t 2) (.t 50)⟩]
def b_steadfastlaw23_world_0 : C :=
    .seq (.seq ((.reg (some [0, 2, 3, 4, 15]) o_steadfastlaw23_world_3)) (
    .cond (.t 15) (
      .skip) (
      .exit 0))) (
    .seq (.block 1 (
      .seq ((.reg (some [0, 2, 3, 4, 5]) o_steadfastlaw23_world_4)) (
      .seq (.seq ((.reg (some [0, 2, 3, 4, 5, 25]) o_steadfastlaw23_world_5)) (
      .cond (.t 25) (
        (.reg (some [0, 2, 3, 4, 5]) o_steadfastlaw23_world_6)) (
        .skip))) (
      .seq ((.reg (some [0, 2, 3, 4, 5, 6]) o_steadfastlaw23_world_7)) (
      .seq (.seq ((.reg (some [0, 2, 3, 4, 5, 6, 35]) o_steadfastlaw23_world_8)) (
      .cond (.t 35) (
        (.reg (some [0, 2, 3, 4, 5, 6]) o_steadfastlaw23_world_9)) (
        .skip))) (
      .seq ((.reg (some [0, 2, 3, 4, 5, 6, 39]) o_steadfastlaw23_world_10)) (
      .cond (.t 39) (
        (.reg (some [0, 2, 3, 4]) o_steadfastlaw23_world_11)) (
        .skip)))))))) (
    (.reg (some [0, 2, 3, 4]) o_steadfastlaw23_world_12)))
/-- steadfast/steadfastlaw23.world -/
@[go_sem] def fc_steadfastlaw23_world : Fc := ⟨1,
  .seq ((.reg (some [0, 2]) o_steadfastlaw23_world_0)) (
  .seq ((.reg (some [0, 2, 3]) o_steadfastlaw23_world_1)) (
  .seq (.seq ((.reg (some [0, 2, 3, 4]) o_steadfastlaw23_world_2)) (
  .block 0 (
    .loop [0, 2, 3, 4] b_steadfastlaw23_world_0))) (
  .seq ((.reg (some [2]) o_steadfastlaw23_world_13)) (
  .ret)))),
  [.cell 2 30]⟩
def o_reach_From_0 : List Ab.Op := [
  ⟨some 2, none, .box false (.t 0)⟩,
  ⟨some 4, none, .alloc false (.agg 32 (List.replicate 49 (.bool false)))⟩]
def o_reach_From_1 : List Ab.Op := [
  ⟨some 5, none, .alloc false (.agg 32 (List.replicate 49 (.bool false)))⟩]
def o_reach_From_2 : List Ab.Op := [
  ⟨some 6, none, .alloc false .nilf⟩]
def o_reach_From_3 : List Ab.Op := [
  ⟨some 7, none, .mkfn f_reach_From_1 [(.t 2), (.t 5), (.t 6)]⟩,
  ⟨none, none, .st 1 (.t 6) (.t 7)⟩]
def o_reach_From_4 : List Ab.Op := [
  ⟨some 8, none, .ld 1 (.t 6)⟩,
  ⟨some 9, none, .mv (.t 1)⟩,
  ⟨some 10, none, .call (.t 8) [(.t 9)]⟩]
def o_reach_From_5 : List Ab.Op := [
  ⟨some 11, none, .ld 32 (.t 5)⟩,
  ⟨none, none, .st 32 (.t 4) (.t 11)⟩]
/-- steadfast/reach.From -/
@[go_sem] def fc_reach_From : Fc := ⟨2,
  .seq ((.reg (some [1, 2, 4]) o_reach_From_0)) (
  .seq ((.reg (some [1, 2, 4, 5]) o_reach_From_1)) (
  .seq ((.reg (some [1, 2, 4, 5, 6]) o_reach_From_2)) (
  .seq ((.reg (some [1, 4, 5, 6]) o_reach_From_3)) (
  .seq ((.reg (some [4, 5]) o_reach_From_4)) (
  .seq ((.reg (some [4]) o_reach_From_5)) (
  .ret)))))),
  [.cell 4 32]⟩
def o_reach_Names_0 : List Ab.Op := [
  ⟨some 2, none, .box false (.t 0)⟩,
  ⟨some 4, none, .mv (.k (.int .i64 0))⟩,
  ⟨some 5, none, .mv (.k (.bool false))⟩]
def o_reach_Names_1 : List Ab.Op := [
  ⟨some 10, none, .mv (.t 1)⟩,
  ⟨some 11, none, .call (.k (.fn f_caps_Of [])) [(.t 10)]⟩,
  ⟨some 9, none, .mv (.t 11)⟩,
  ⟨some 12, none, .ext (.t 9) 0⟩,
  ⟨some 13, none, .ext (.t 9) 1⟩,
  ⟨some 6, none, .alloc false (.agg 40 [(.int .i64 0), (.int .i64 0), (.int .i64 0), (.int .i64 0), (.int .i64 0)])⟩,
  ⟨none, none, .st 40 (.t 6) (.t 12)⟩,
  ⟨some 7, none, .mv (.t 13)⟩]
def o_reach_Names_2 : List Ab.Op := [
  ⟨some 14, none, .mv (.t 7)⟩,
  ⟨some 15, none, .un .not (.t 14)⟩]
def o_reach_Names_3 : List Ab.Op := [
  ⟨some 4, none, .mv (.k (.int .i64 0))⟩,
  ⟨some 5, none, .mv (.k (.bool false))⟩]
def o_reach_Names_4 : List Ab.Op := [
  ⟨some 16, none, .fad 40 2 10 (.t 6)⟩,
  ⟨some 17, none, .ld 10 (.t 16)⟩,
  ⟨some 18, none, .iad 30 49 26 (.t 2) (.t 17)⟩,
  ⟨some 19, none, .ld 26 (.t 18)⟩,
  ⟨some 8, none, .alloc false (.agg 26 [(.int .i64 0), (.int .i64 0), (.agg 24 (List.replicate 8 (.int .u64 0)))])⟩,
  ⟨none, none, .st 26 (.t 8) (.t 19)⟩]
def o_reach_Names_5 : List Ab.Op := [
  ⟨some 20, none, .fad 26 0 10 (.t 8)⟩,
  ⟨some 21, none, .ld 10 (.t 20)⟩,
  ⟨some 22, none, .fad 26 1 10 (.t 8)⟩,
  ⟨some 23, none, .ld 10 (.t 22)⟩,
  ⟨some 24, none, .bld (.agg 42 [(.int .i64 0), (.int .i64 0), (.int .i64 0)]) [(0, (.t 21)), (1, (.t 23))]⟩,
  ⟨some 25, none, .fad 40 2 10 (.t 6)⟩,
  ⟨some 26, none, .ld 10 (.t 25)⟩,
  ⟨some 27, none, .mv (.t 1)⟩,
  ⟨some 28, none, .call (.k (.fn f_entry_Names [])) [(.t 24), (.t 26), (.t 27)]⟩,
  ⟨some 29, none, .bin .neq (.t 28) (.k (.int .i64 0))⟩]
def o_reach_Names_6 : List Ab.Op := [
  ⟨some 4, none, .mv (.k (.int .i64 0))⟩,
  ⟨some 5, none, .mv (.k (.bool false))⟩]
def o_reach_Names_7 : List Ab.Op := [
  ⟨some 30, none, .fad 40 2 10 (.t 6)⟩,
  ⟨some 31, none, .ld 10 (.t 30)⟩,
  ⟨some 4, none, .mv (.t 31)⟩,
  ⟨some 5, none, .mv (.k (.bool true))⟩]
/-- steadfast/reach.Names -/
@[go_sem] def fc_reach_Names : Fc := ⟨2,
  .seq ((.reg (some [1, 2]) o_reach_Names_0)) (
  .seq ((.reg (some [1, 2, 6, 7]) o_reach_Names_1)) (
  .seq (.seq ((.reg (some [1, 2, 6, 15]) o_reach_Names_2)) (
  .cond (.t 15) (
    .seq ((.reg (some [4, 5]) o_reach_Names_3)) (
    .ret)) (
    .skip))) (
  .seq ((.reg (some [1, 6, 8]) o_reach_Names_4)) (
  .seq (.seq ((.reg (some [6, 29]) o_reach_Names_5)) (
  .cond (.t 29) (
    .seq ((.reg (some [4, 5]) o_reach_Names_6)) (
    .ret)) (
    .skip))) (
  .seq ((.reg (some [4, 5]) o_reach_Names_7)) (
  .ret)))))),
  [.t 4, .t 5]⟩
def o_steadfastref07_Word_0 : List Ab.Op := [
  ⟨some 1, none, .box false (.t 0)⟩,
  ⟨some 2, none, .mv (.k (.int .u64 0))⟩,
  ⟨some 3, none, .mv (.k (.int .i64 0))⟩]
def o_steadfastref07_Word_1 : List Ab.Op := [
  ⟨some 6, none, .fad 40 0 10 (.t 1)⟩,
  ⟨some 7, none, .ld 10 (.t 6)⟩,
  ⟨some 8, none, .bin .lss (.t 7) (.k (.int .i64 1))⟩,
  ⟨some 9, none, .mv (.t 8)⟩,
  ⟨some 10, some (9, false), .fad 40 0 10 (.t 1)⟩,
  ⟨some 11, some (9, false), .ld 10 (.t 10)⟩,
  ⟨some 12, some (9, false), .bin .gtr (.t 11) (.k (.int .i64 6))⟩,
  ⟨some 13, none, .pick (.t 9) (.k (.bool true)) (.t 12)⟩,
  ⟨some 14, none, .mv (.t 13)⟩,
  ⟨some 15, some (14, false), .fad 40 1 10 (.t 1)⟩,
  ⟨some 16, some (14, false), .ld 10 (.t 15)⟩,
  ⟨some 17, some (14, false), .bin .lss (.t 16) (.k (.int .i64 0))⟩,
  ⟨some 18, none, .pick (.t 14) (.k (.bool true)) (.t 17)⟩,
  ⟨some 19, none, .mv (.t 18)⟩,
  ⟨some 20, some (19, false), .fad 40 1 10 (.t 1)⟩,
  ⟨some 21, some (19, false), .ld 10 (.t 20)⟩,
  ⟨some 22, some (19, false), .bin .gtr (.t 21) (.k (.int .i64 15))⟩,
  ⟨some 23, none, .pick (.t 19) (.k (.bool true)) (.t 22)⟩,
  ⟨some 24, none, .mv (.t 23)⟩,
  ⟨some 25, some (24, false), .fad 40 2 10 (.t 1)⟩,
  ⟨some 26, some (24, false), .ld 10 (.t 25)⟩,
  ⟨some 27, some (24, false), .bin .lss (.t 26) (.k (.int .i64 0))⟩,
  ⟨some 28, none, .pick (.t 24) (.k (.bool true)) (.t 27)⟩,
  ⟨some 29, none, .mv (.t 28)⟩,
  ⟨some 30, some (29, false), .fad 40 2 10 (.t 1)⟩,
  ⟨some 31, some (29, false), .ld 10 (.t 30)⟩,
  ⟨some 32, some (29, false), .bin .geq (.t 31) (.k (.int .i64 49))⟩,
  ⟨some 33, none, .pick (.t 29) (.k (.bool true)) (.t 32)⟩,
  ⟨some 34, none, .mv (.t 33)⟩,
  ⟨some 35, some (34, false), .fad 40 3 10 (.t 1)⟩,
  ⟨some 36, some (34, false), .ld 10 (.t 35)⟩,
  ⟨some 37, some (34, false), .bin .lss (.t 36) (.k (.int .i64 0))⟩,
  ⟨some 38, none, .pick (.t 34) (.k (.bool true)) (.t 37)⟩,
  ⟨some 39, none, .mv (.t 38)⟩,
  ⟨some 40, some (39, false), .fad 40 3 10 (.t 1)⟩,
  ⟨some 41, some (39, false), .ld 10 (.t 40)⟩,
  ⟨some 42, some (39, false), .bin .gtr (.t 41) (.k (.int .i64 16777215))⟩,
  ⟨some 43, none, .pick (.t 39) (.k (.bool true)) (.t 42)⟩,
  ⟨some 44, none, .mv (.t 43)⟩,
  ⟨some 45, some (44, false), .fad 40 4 10 (.t 1)⟩,
  ⟨some 46, some (44, false), .ld 10 (.t 45)⟩,
  ⟨some 47, some (44, false), .bin .lss (.t 46) (.k (.int .i64 0))⟩,
  ⟨some 48, none, .pick (.t 44) (.k (.bool true)) (.t 47)⟩,
  ⟨some 49, none, .mv (.t 48)⟩,
  ⟨some 50, some (49, false), .fad 40 4 10 (.t 1)⟩,
  ⟨some 51, some (49, false), .ld 10 (.t 50)⟩,
  ⟨some 52, some (49, false), .bin .gtr (.t 51) (.k (.int .i64 65535))⟩,
  ⟨some 53, none, .pick (.t 49) (.k (.bool true)) (.t 52)⟩]
def o_steadfastref07_Word_2 : List Ab.Op := [
  ⟨some 2, none, .mv (.k (.int .u64 0))⟩,
  ⟨some 3, none, .mv (.k (.int .i64 1))⟩]
def o_steadfastref07_Word_3 : List Ab.Op := [
  ⟨some 54, none, .fad 40 0 10 (.t 1)⟩,
  ⟨some 55, none, .ld 10 (.t 54)⟩,
  ⟨some 56, none, .bin .eql (.t 55) (.k (.int .i64 5))⟩,
  ⟨some 57, none, .mv (.t 56)⟩,
  ⟨some 58, some (57, false), .fad 40 0 10 (.t 1)⟩,
  ⟨some 59, some (57, false), .ld 10 (.t 58)⟩,
  ⟨some 60, some (57, false), .bin .eql (.t 59) (.k (.int .i64 6))⟩,
  ⟨some 61, none, .pick (.t 57) (.k (.bool true)) (.t 60)⟩,
  ⟨some 62, none, .mv (.t 61)⟩,
  ⟨some 63, some (62, true), .fad 40 2 10 (.t 1)⟩,
  ⟨some 64, some (62, true), .ld 10 (.t 63)⟩,
  ⟨some 65, some (62, true), .bin .neq (.t 64) (.k (.int .i64 0))⟩,
  ⟨some 66, some (62, true), .mv (.t 65)⟩,
  ⟨some 67, some (66, false), .fad 40 3 10 (.t 1)⟩,
  ⟨some 68, some (66, false), .ld 10 (.t 67)⟩,
  ⟨some 69, some (66, false), .bin .neq (.t 68) (.k (.int .i64 0))⟩,
  ⟨some 70, some (62, true), .pick (.t 66) (.k (.bool true)) (.t 69)⟩,
  ⟨some 71, none, .pick (.t 62) (.t 70) (.k (.bool false))⟩]
def o_steadfastref07_Word_4 : List Ab.Op := [
  ⟨some 2, none, .mv (.k (.int .u64 0))⟩,
  ⟨some 3, none, .mv (.k (.int .i64 1))⟩]
def o_steadfastref07_Word_5 : List Ab.Op := [
  ⟨some 73, none, .fad 40 0 10 (.t 1)⟩,
  ⟨some 74, none, .ld 10 (.t 73)⟩,
  ⟨some 75, none, .conv .u64 (.t 74)⟩,
  ⟨some 76, none, .call (.k (.fn f_steadfastref01_With [])) [(.k (.int .u64 0)), (.k (.int .i64 0)), (.k (.int .i64 4)), (.t 75)]⟩,
  ⟨some 72, none, .mv (.t 76)⟩,
  ⟨some 77, none, .ext (.t 72) 0⟩,
  ⟨some 78, none, .ext (.t 72) 1⟩,
  ⟨some 4, none, .mv (.t 77)⟩,
  ⟨some 5, none, .mv (.t 78)⟩]
def o_steadfastref07_Word_6 : List Ab.Op := [
  ⟨some 80, none, .mv (.t 4)⟩,
  ⟨some 81, none, .fad 40 1 10 (.t 1)⟩,
  ⟨some 82, none, .ld 10 (.t 81)⟩,
  ⟨some 83, none, .conv .u64 (.t 82)⟩,
  ⟨some 84, none, .call (.k (.fn f_steadfastref01_With [])) [(.t 80), (.k (.int .i64 4)), (.k (.int .i64 4)), (.t 83)]⟩,
  ⟨some 79, none, .mv (.t 84)⟩,
  ⟨some 85, none, .ext (.t 79) 0⟩,
  ⟨some 86, none, .ext (.t 79) 1⟩,
  ⟨some 4, none, .mv (.t 85)⟩]
def o_steadfastref07_Word_7 : List Ab.Op := [
  ⟨some 88, none, .mv (.t 4)⟩,
  ⟨some 89, none, .fad 40 2 10 (.t 1)⟩,
  ⟨some 90, none, .ld 10 (.t 89)⟩,
  ⟨some 91, none, .conv .u64 (.t 90)⟩,
  ⟨some 92, none, .call (.k (.fn f_steadfastref01_With [])) [(.t 88), (.k (.int .i64 8)), (.k (.int .i64 16)), (.t 91)]⟩,
  ⟨some 87, none, .mv (.t 92)⟩,
  ⟨some 93, none, .ext (.t 87) 0⟩,
  ⟨some 94, none, .ext (.t 87) 1⟩,
  ⟨some 4, none, .mv (.t 93)⟩]
def o_steadfastref07_Word_8 : List Ab.Op := [
  ⟨some 96, none, .mv (.t 4)⟩,
  ⟨some 97, none, .fad 40 3 10 (.t 1)⟩,
  ⟨some 98, none, .ld 10 (.t 97)⟩,
  ⟨some 99, none, .conv .u64 (.t 98)⟩,
  ⟨some 100, none, .call (.k (.fn f_steadfastref01_With [])) [(.t 96), (.k (.int .i64 24)), (.k (.int .i64 24)), (.t 99)]⟩,
  ⟨some 95, none, .mv (.t 100)⟩,
  ⟨some 101, none, .ext (.t 95) 0⟩,
  ⟨some 102, none, .ext (.t 95) 1⟩,
  ⟨some 4, none, .mv (.t 101)⟩]
def o_steadfastref07_Word_9 : List Ab.Op := [
  ⟨some 104, none, .mv (.t 4)⟩,
  ⟨some 105, none, .fad 40 4 10 (.t 1)⟩,
  ⟨some 106, none, .ld 10 (.t 105)⟩,
  ⟨some 107, none, .conv .u64 (.t 106)⟩,
  ⟨some 108, none, .call (.k (.fn f_steadfastref01_With [])) [(.t 104), (.k (.int .i64 48)), (.k (.int .i64 16)), (.t 107)]⟩,
  ⟨some 103, none, .mv (.t 108)⟩,
  ⟨some 109, none, .ext (.t 103) 0⟩,
  ⟨some 110, none, .ext (.t 103) 1⟩,
  ⟨some 4, none, .mv (.t 109)⟩]
def o_steadfastref07_Word_10 : List Ab.Op := [
  ⟨some 111, none, .mv (.t 4)⟩,
  ⟨some 2, none, .mv (.t 111)⟩,
  ⟨some 3, none, .mv (.k (.int .i64 0))⟩]
/-- steadfast/steadfastref07.Word -/
@[go_sem] def fc_steadfastref07_Word : Fc := ⟨1,
  .seq ((.reg (some [1]) o_steadfastref07_Word_0)) (
  .seq (.seq ((.reg (some [1, 53]) o_steadfastref07_Word_1)) (
  .cond (.t 53) (
    .seq ((.reg (some [2, 3]) o_steadfastref07_Word_2)) (
    .ret)) (
    .skip))) (
  .seq (.seq ((.reg (some [1, 71]) o_steadfastref07_Word_3)) (
  .cond (.t 71) (
    .seq ((.reg (some [2, 3]) o_steadfastref07_Word_4)) (
    .ret)) (
    .skip))) (
  .seq ((.reg (some [1, 4]) o_steadfastref07_Word_5)) (
  .seq ((.reg (some [1, 4]) o_steadfastref07_Word_6)) (
  .seq ((.reg (some [1, 4]) o_steadfastref07_Word_7)) (
  .seq ((.reg (some [1, 4]) o_steadfastref07_Word_8)) (
  .seq ((.reg (some [4]) o_steadfastref07_Word_9)) (
  .seq ((.reg (some [2, 3]) o_steadfastref07_Word_10)) (
  .ret))))))))),
  [.t 2, .t 3]⟩
def o_reach_From_1_0 : List Ab.Op := [
  ⟨some 10, none, .ld 30 (.t 1)⟩,
  ⟨some 11, none, .mv (.t 0)⟩,
  ⟨some 12, none, .call (.k (.fn f_reach_Names [])) [(.t 10), (.t 11)]⟩,
  ⟨some 9, none, .mv (.t 12)⟩,
  ⟨some 13, none, .ext (.t 9) 0⟩,
  ⟨some 14, none, .ext (.t 9) 1⟩,
  ⟨some 5, none, .mv (.t 13)⟩,
  ⟨some 6, none, .mv (.t 14)⟩]
def o_reach_From_1_1 : List Ab.Op := [
  ⟨some 15, none, .mv (.t 6)⟩,
  ⟨some 16, none, .un .not (.t 15)⟩,
  ⟨some 17, none, .mv (.t 16)⟩,
  ⟨some 18, some (17, false), .mv (.t 5)⟩,
  ⟨some 19, some (17, false), .iad 32 49 0 (.t 2) (.t 18)⟩,
  ⟨some 20, some (17, false), .ld 0 (.t 19)⟩,
  ⟨some 21, none, .pick (.t 17) (.k (.bool true)) (.t 20)⟩]
def o_reach_From_1_2 : List Ab.Op := [
  ⟨some 22, none, .mv (.t 5)⟩,
  ⟨some 23, none, .iad 32 49 0 (.t 2) (.t 22)⟩,
  ⟨none, none, .st 0 (.t 23) (.k (.bool true))⟩]
def o_reach_From_1_3 : List Ab.Op := [
  ⟨some 24, none, .mv (.t 5)⟩,
  ⟨some 25, none, .iad 30 49 26 (.t 1) (.t 24)⟩,
  ⟨some 26, none, .fad 26 0 10 (.t 25)⟩,
  ⟨some 27, none, .ld 10 (.t 26)⟩,
  ⟨some 28, none, .bin .eql (.t 27) (.k (.int .i64 2))⟩]
def o_reach_From_1_4 : List Ab.Op := [
  ⟨some 29, none, .mv (.t 5)⟩,
  ⟨some 30, none, .iad 30 49 26 (.t 1) (.t 29)⟩,
  ⟨some 31, none, .fad 26 2 24 (.t 30)⟩,
  ⟨some 32, none, .ld 24 (.t 31)⟩,
  ⟨some 33, none, .mv (.k (.int .i64 0))⟩]
def o_reach_From_1_5 : List Ab.Op := [
  ⟨some 34, none, .bin .lss (.t 33) (.k (.int .i64 8))⟩]
def o_reach_From_1_6 : List Ab.Op := [
  ⟨some 35, none, .idx 24 8 (.t 32) (.t 33)⟩,
  ⟨some 8, none, .mv (.t 35)⟩]
def o_reach_From_1_7 : List Ab.Op := [
  ⟨some 36, none, .ld 1 (.t 3)⟩,
  ⟨some 37, none, .mv (.t 8)⟩,
  ⟨some 38, none, .call (.t 36) [(.t 37)]⟩]
def o_reach_From_1_8 : List Ab.Op := [
  ⟨some 39, none, .bin .add (.t 33) (.k (.int .i64 1))⟩,
  ⟨some 33, none, .mv (.t 39)⟩]
def b_reach_From_1_0 : C :=
    .seq ((.reg (some [3, 32, 33, 34]) o_reach_From_1_5)) (
    .seq (.cond (.t 34) (
      .skip) (
      .exit 0)) (
    .seq (.block 1 (
      .seq ((.reg (some [3, 8, 32, 33]) o_reach_From_1_6)) (
      (.reg (some [3, 32, 33]) o_reach_From_1_7)))) (
    (.reg (some [3, 32, 33]) o_reach_From_1_8))))
/-- steadfast/reach.From$1 -/
@[go_sem] def fc_reach_From_1 : Fc := ⟨4,
  .seq ((.reg (some [1, 2, 3, 5, 6]) o_reach_From_1_0)) (
  .seq (.seq ((.reg (some [1, 2, 3, 5, 21]) o_reach_From_1_1)) (
  .cond (.t 21) (
    .ret) (
    .skip))) (
  .seq ((.reg (some [1, 3, 5]) o_reach_From_1_2)) (
  .seq ((.reg (some [1, 3, 5, 28]) o_reach_From_1_3)) (
  .cond (.t 28) (
    .seq ((.reg (some [3, 32, 33]) o_reach_From_1_4)) (
    .block 0 (
      .loop [3, 32, 33] b_reach_From_1_0))) (
    .skip))))),
  []⟩
def o_caps_Of_0 : List Ab.Op := [
  ⟨some 2, none, .alloc false (.agg 40 [(.int .i64 0), (.int .i64 0), (.int .i64 0), (.int .i64 0), (.int .i64 0)])⟩,
  ⟨some 3, none, .mv (.k (.bool false))⟩]
def o_caps_Of_1 : List Ab.Op := [
  ⟨some 5, none, .mv (.t 0)⟩,
  ⟨some 6, none, .bin .and (.t 5) (.k (.int .u64 15))⟩,
  ⟨some 7, none, .conv .i64 (.t 6)⟩,
  ⟨some 8, none, .mv (.t 0)⟩,
  ⟨some 9, none, .bin .shr (.t 8) (.k (.int .u64 4))⟩,
  ⟨some 10, none, .bin .and (.t 9) (.k (.int .u64 15))⟩,
  ⟨some 11, none, .conv .i64 (.t 10)⟩,
  ⟨some 12, none, .mv (.t 0)⟩,
  ⟨some 13, none, .bin .shr (.t 12) (.k (.int .u64 8))⟩,
  ⟨some 14, none, .bin .and (.t 13) (.k (.int .u64 65535))⟩,
  ⟨some 15, none, .conv .i64 (.t 14)⟩,
  ⟨some 16, none, .mv (.t 0)⟩,
  ⟨some 17, none, .bin .shr (.t 16) (.k (.int .u64 24))⟩,
  ⟨some 18, none, .bin .and (.t 17) (.k (.int .u64 16777215))⟩,
  ⟨some 19, none, .conv .i64 (.t 18)⟩,
  ⟨some 20, none, .mv (.t 0)⟩,
  ⟨some 21, none, .bin .shr (.t 20) (.k (.int .u64 48))⟩,
  ⟨some 22, none, .conv .i64 (.t 21)⟩,
  ⟨some 23, none, .bld (.agg 40 [(.int .i64 0), (.int .i64 0), (.int .i64 0), (.int .i64 0), (.int .i64 0)]) [(0, (.t 7)), (1, (.t 11)), (2, (.t 15)), (3, (.t 19)), (4, (.t 22))]⟩,
  ⟨some 4, none, .alloc false (.agg 40 [(.int .i64 0), (.int .i64 0), (.int .i64 0), (.int .i64 0), (.int .i64 0)])⟩,
  ⟨none, none, .st 40 (.t 4) (.t 23)⟩]
def o_caps_Of_2 : List Ab.Op := [
  ⟨some 24, none, .ld 40 (.t 4)⟩,
  ⟨some 25, none, .call (.k (.fn f_caps_may [])) [(.t 24)]⟩,
  ⟨some 26, none, .un .not (.t 25)⟩]
def o_caps_Of_3 : List Ab.Op := [
  ⟨some 27, none, .bld (.agg 40 [(.int .i64 0), (.int .i64 0), (.int .i64 0), (.int .i64 0), (.int .i64 0)]) []⟩,
  ⟨none, none, .st 40 (.t 2) (.t 27)⟩,
  ⟨some 3, none, .mv (.k (.bool false))⟩]
def o_caps_Of_4 : List Ab.Op := [
  ⟨some 28, none, .ld 40 (.t 4)⟩,
  ⟨none, none, .st 40 (.t 2) (.t 28)⟩,
  ⟨some 3, none, .mv (.k (.bool true))⟩]
/-- steadfast/caps.Of -/
@[go_sem] def fc_caps_Of : Fc := ⟨1,
  .seq ((.reg (some [0, 2]) o_caps_Of_0)) (
  .seq ((.reg (some [2, 4]) o_caps_Of_1)) (
  .seq (.seq ((.reg (some [2, 4, 26]) o_caps_Of_2)) (
  .cond (.t 26) (
    .seq ((.reg (some [2, 3]) o_caps_Of_3)) (
    .ret)) (
    .skip))) (
  .seq ((.reg (some [2, 3]) o_caps_Of_4)) (
  .ret)))),
  [.cell 2 40, .t 3]⟩
def o_entry_Names_0 : List Ab.Op := [
  ⟨some 3, none, .box false (.t 0)⟩,
  ⟨some 6, none, .mv (.k (.int .i64 0))⟩]
def o_entry_Names_1 : List Ab.Op := [
  ⟨some 10, none, .mv (.t 2)⟩,
  ⟨some 11, none, .call (.k (.fn f_caps_Of [])) [(.t 10)]⟩,
  ⟨some 9, none, .mv (.t 11)⟩,
  ⟨some 12, none, .ext (.t 9) 0⟩,
  ⟨some 13, none, .ext (.t 9) 1⟩,
  ⟨some 7, none, .alloc false (.agg 40 [(.int .i64 0), (.int .i64 0), (.int .i64 0), (.int .i64 0), (.int .i64 0)])⟩,
  ⟨none, none, .st 40 (.t 7) (.t 12)⟩,
  ⟨some 8, none, .mv (.t 13)⟩]
def o_entry_Names_2 : List Ab.Op := [
  ⟨some 15, none, .mv (.t 8)⟩,
  ⟨some 16, none, .un .not (.t 15)⟩,
  ⟨some 14, none, .mv (.t 16)⟩]
def o_entry_Names_3 : List Ab.Op := [
  ⟨some 17, none, .fad 40 0 10 (.t 7)⟩,
  ⟨some 18, none, .ld 10 (.t 17)⟩,
  ⟨some 19, none, .bin .gtr (.t 18) (.k (.int .i64 4))⟩,
  ⟨some 14, none, .mv (.t 19)⟩]
def o_entry_Names_4 : List Ab.Op := [
  ⟨some 6, none, .mv (.k (.int .i64 31))⟩]
def o_entry_Names_5 : List Ab.Op := [
  ⟨some 21, none, .fad 40 2 10 (.t 7)⟩,
  ⟨some 22, none, .ld 10 (.t 21)⟩,
  ⟨some 23, none, .mv (.t 1)⟩,
  ⟨some 24, none, .bin .neq (.t 22) (.t 23)⟩,
  ⟨some 20, none, .mv (.t 24)⟩]
def o_entry_Names_6 : List Ab.Op := [
  ⟨some 6, none, .mv (.k (.int .i64 30))⟩]
def o_entry_Names_7 : List Ab.Op := [
  ⟨some 26, none, .fad 40 3 10 (.t 7)⟩,
  ⟨some 27, none, .ld 10 (.t 26)⟩,
  ⟨some 28, none, .fad 42 1 10 (.t 3)⟩,
  ⟨some 29, none, .ld 10 (.t 28)⟩,
  ⟨some 30, none, .bin .neq (.t 27) (.t 29)⟩,
  ⟨some 25, none, .mv (.t 30)⟩]
def o_entry_Names_8 : List Ab.Op := [
  ⟨some 6, none, .mv (.k (.int .i64 33))⟩]
def o_entry_Names_9 : List Ab.Op := [
  ⟨some 32, none, .fad 42 0 10 (.t 3)⟩,
  ⟨some 33, none, .ld 10 (.t 32)⟩,
  ⟨some 34, none, .bin .eql (.t 33) (.k (.int .i64 0))⟩,
  ⟨some 31, none, .mv (.t 34)⟩]
def o_entry_Names_10 : List Ab.Op := [
  ⟨some 6, none, .mv (.k (.int .i64 30))⟩]
def o_entry_Names_11 : List Ab.Op := [
  ⟨some 36, none, .fad 40 0 10 (.t 7)⟩,
  ⟨some 37, none, .ld 10 (.t 36)⟩,
  ⟨some 38, none, .fad 42 0 10 (.t 3)⟩,
  ⟨some 39, none, .ld 10 (.t 38)⟩,
  ⟨some 40, none, .bin .neq (.t 37) (.t 39)⟩,
  ⟨some 35, none, .mv (.t 40)⟩]
def o_entry_Names_12 : List Ab.Op := [
  ⟨some 6, none, .mv (.k (.int .i64 31))⟩]
def o_entry_Names_13 : List Ab.Op := [
  ⟨some 6, none, .mv (.k (.int .i64 0))⟩]
/-- steadfast/entry.Names -/
@[go_sem] def fc_entry_Names : Fc := ⟨3,
  .seq ((.reg (some [1, 2, 3]) o_entry_Names_0)) (
  .seq ((.reg (some [1, 3, 7, 8]) o_entry_Names_1)) (
  .seq (.block 0 (
    .seq (.seq ((.reg (some [1, 3, 7, 14]) o_entry_Names_2)) (
    .cond (.t 14) (
      .skip) (
      (.reg (some [1, 3, 7, 14]) o_entry_Names_3)))) (
    .cond (.t 14) (
      .seq ((.reg (some [6]) o_entry_Names_4)) (
      .ret)) (
      .seq ((.reg (some [3, 7, 20]) o_entry_Names_5)) (
      .cond (.t 20) (
        .seq ((.reg (some [6]) o_entry_Names_6)) (
        .ret)) (
        .seq ((.reg (some [3, 7, 25]) o_entry_Names_7)) (
        .cond (.t 25) (
          .seq ((.reg (some [6]) o_entry_Names_8)) (
          .ret)) (
          .seq ((.reg (some [3, 7, 31]) o_entry_Names_9)) (
          .cond (.t 31) (
            .seq ((.reg (some [6]) o_entry_Names_10)) (
            .ret)) (
            .seq ((.reg (some [35]) o_entry_Names_11)) (
            .cond (.t 35) (
              .seq ((.reg (some [6]) o_entry_Names_12)) (
              .ret)) (
              .skip)))))))))))) (
  .seq ((.reg (some [6]) o_entry_Names_13)) (
  .ret)))),
  [.t 6]⟩
def o_steadfastref01_With_0 : List Ab.Op := [
  ⟨some 8, none, .mv (.k (.int .u64 0))⟩,
  ⟨some 9, none, .mv (.k (.int .i64 0))⟩]
def o_steadfastref01_With_1 : List Ab.Op := [
  ⟨some 12, none, .mv (.t 1)⟩,
  ⟨some 13, none, .mv (.t 2)⟩,
  ⟨some 14, none, .call (.k (.fn f_steadfastref01_is [])) [(.t 12), (.t 13)]⟩,
  ⟨some 15, none, .un .not (.t 14)⟩]
def o_steadfastref01_With_2 : List Ab.Op := [
  ⟨some 8, none, .mv (.k (.int .u64 0))⟩,
  ⟨some 9, none, .mv (.k (.int .i64 1))⟩]
def o_steadfastref01_With_3 : List Ab.Op := [
  ⟨some 16, none, .mv (.t 2)⟩,
  ⟨some 10, none, .mv (.t 16)⟩]
def o_steadfastref01_With_4 : List Ab.Op := [
  ⟨some 17, none, .mv (.t 10)⟩,
  ⟨some 18, none, .bin .lss (.t 17) (.k (.int .i64 64))⟩]
def o_steadfastref01_With_5 : List Ab.Op := [
  ⟨some 21, none, .mv (.t 3)⟩,
  ⟨some 22, none, .mv (.t 10)⟩,
  ⟨some 23, none, .call (.k (.fn f_steadfastref01_bit [])) [(.t 21), (.t 22)]⟩,
  ⟨some 24, none, .bin .eql (.t 23) (.k (.int .u64 1))⟩]
def o_steadfastref01_With_6 : List Ab.Op := [
  ⟨some 8, none, .mv (.k (.int .u64 0))⟩,
  ⟨some 9, none, .mv (.k (.int .i64 2))⟩]
def o_steadfastref01_With_7 : List Ab.Op := [
  ⟨some 19, none, .mv (.t 10)⟩,
  ⟨some 20, none, .bin .add (.t 19) (.k (.int .i64 1))⟩,
  ⟨some 10, none, .mv (.t 20)⟩]
def o_steadfastref01_With_8 : List Ab.Op := [
  ⟨some 11, none, .mv (.k (.int .i64 0))⟩]
def o_steadfastref01_With_9 : List Ab.Op := [
  ⟨some 25, none, .mv (.t 11)⟩,
  ⟨some 26, none, .mv (.t 2)⟩,
  ⟨some 27, none, .bin .lss (.t 25) (.t 26)⟩]
def o_steadfastref01_With_10 : List Ab.Op := [
  ⟨some 30, none, .mv (.t 3)⟩,
  ⟨some 31, none, .mv (.t 11)⟩,
  ⟨some 32, none, .call (.k (.fn f_steadfastref01_bit [])) [(.t 30), (.t 31)]⟩,
  ⟨some 33, none, .mv (.t 0)⟩,
  ⟨some 34, none, .mv (.t 1)⟩,
  ⟨some 35, none, .mv (.t 11)⟩,
  ⟨some 36, none, .bin .add (.t 34) (.t 35)⟩,
  ⟨some 37, none, .call (.k (.fn f_steadfastref01_bit [])) [(.t 33), (.t 36)]⟩,
  ⟨some 38, none, .bin .neq (.t 32) (.t 37)⟩]
def o_steadfastref01_With_11 : List Ab.Op := [
  ⟨some 39, none, .mv (.t 0)⟩,
  ⟨some 40, none, .mv (.t 1)⟩,
  ⟨some 41, none, .mv (.t 11)⟩,
  ⟨some 42, none, .bin .add (.t 40) (.t 41)⟩,
  ⟨some 43, none, .bin .shl (.k (.int .u64 1)) (.t 42)⟩,
  ⟨some 44, none, .bin .xor (.t 39) (.t 43)⟩,
  ⟨some 0, none, .mv (.t 44)⟩]
def o_steadfastref01_With_12 : List Ab.Op := [
  ⟨some 28, none, .mv (.t 11)⟩,
  ⟨some 29, none, .bin .add (.t 28) (.k (.int .i64 1))⟩,
  ⟨some 11, none, .mv (.t 29)⟩]
def o_steadfastref01_With_13 : List Ab.Op := [
  ⟨some 45, none, .mv (.t 0)⟩,
  ⟨some 8, none, .mv (.t 45)⟩,
  ⟨some 9, none, .mv (.k (.int .i64 0))⟩]
def b_steadfastref01_With_0 : C :=
    .seq (.seq ((.reg (some [0, 1, 2, 3, 10, 18]) o_steadfastref01_With_4)) (
    .cond (.t 18) (
      .skip) (
      .exit 0))) (
    .seq (.block 1 (
      .seq ((.reg (some [0, 1, 2, 3, 10, 24]) o_steadfastref01_With_5)) (
      .cond (.t 24) (
        .seq ((.reg (some [8, 9]) o_steadfastref01_With_6)) (
        .ret)) (
        .skip)))) (
    (.reg (some [0, 1, 2, 3, 10]) o_steadfastref01_With_7)))
def b_steadfastref01_With_1 : C :=
    .seq (.seq ((.reg (some [0, 1, 2, 3, 11, 27]) o_steadfastref01_With_9)) (
    .cond (.t 27) (
      .skip) (
      .exit 2))) (
    .seq (.block 3 (
      .seq ((.reg (some [0, 1, 2, 3, 11, 38]) o_steadfastref01_With_10)) (
      .cond (.t 38) (
        (.reg (some [0, 1, 2, 3, 11]) o_steadfastref01_With_11)) (
        .skip)))) (
    (.reg (some [0, 1, 2, 3, 11]) o_steadfastref01_With_12)))
/-- steadfast/steadfastref01.With -/
@[go_sem] def fc_steadfastref01_With : Fc := ⟨4,
  .seq ((.reg (some [0, 1, 2, 3]) o_steadfastref01_With_0)) (
  .seq (.seq ((.reg (some [0, 1, 2, 3, 15]) o_steadfastref01_With_1)) (
  .cond (.t 15) (
    .seq ((.reg (some [8, 9]) o_steadfastref01_With_2)) (
    .ret)) (
    .skip))) (
  .seq (.seq ((.reg (some [0, 1, 2, 3, 10]) o_steadfastref01_With_3)) (
  .block 0 (
    .loop [0, 1, 2, 3, 10] b_steadfastref01_With_0))) (
  .seq (.seq ((.reg (some [0, 1, 2, 3, 11]) o_steadfastref01_With_8)) (
  .block 2 (
    .loop [0, 1, 2, 3, 11] b_steadfastref01_With_1))) (
  .seq ((.reg (some [8, 9]) o_steadfastref01_With_13)) (
  .ret))))),
  [.t 8, .t 9]⟩
def o_caps_may_0 : List Ab.Op := [
  ⟨some 1, none, .box false (.t 0)⟩,
  ⟨some 2, none, .mv (.k (.bool false))⟩]
def o_caps_may_1 : List Ab.Op := [
  ⟨some 4, none, .fad 40 0 10 (.t 1)⟩,
  ⟨some 5, none, .ld 10 (.t 4)⟩,
  ⟨some 6, none, .bin .eql (.t 5) (.k (.int .i64 5))⟩,
  ⟨some 7, none, .mv (.t 6)⟩,
  ⟨some 8, some (7, false), .fad 40 0 10 (.t 1)⟩,
  ⟨some 9, some (7, false), .ld 10 (.t 8)⟩,
  ⟨some 10, some (7, false), .bin .eql (.t 9) (.k (.int .i64 6))⟩,
  ⟨some 11, none, .pick (.t 7) (.k (.bool true)) (.t 10)⟩,
  ⟨some 3, none, .mv (.t 11)⟩]
def o_caps_may_2 : List Ab.Op := [
  ⟨some 12, none, .fad 40 0 10 (.t 1)⟩,
  ⟨some 13, none, .ld 10 (.t 12)⟩,
  ⟨some 14, none, .call (.k (.fn f_caps_within [])) [(.t 13), (.k (.int .i64 1)), (.k (.int .i64 6))]⟩,
  ⟨some 15, none, .mv (.t 14)⟩,
  ⟨some 16, some (15, true), .fad 40 1 10 (.t 1)⟩,
  ⟨some 17, some (15, true), .ld 10 (.t 16)⟩,
  ⟨some 18, some (15, true), .call (.k (.fn f_caps_within [])) [(.t 17), (.k (.int .i64 0)), (.k (.int .i64 15))]⟩,
  ⟨some 19, none, .pick (.t 15) (.t 18) (.k (.bool false))⟩,
  ⟨some 20, none, .mv (.t 19)⟩,
  ⟨some 21, some (20, true), .fad 40 2 10 (.t 1)⟩,
  ⟨some 22, some (20, true), .ld 10 (.t 21)⟩,
  ⟨some 23, some (20, true), .call (.k (.fn f_caps_within [])) [(.t 22), (.k (.int .i64 0)), (.k (.int .i64 48))]⟩,
  ⟨some 24, none, .pick (.t 20) (.t 23) (.k (.bool false))⟩,
  ⟨some 25, none, .mv (.t 24)⟩,
  ⟨some 26, some (25, true), .fad 40 3 10 (.t 1)⟩,
  ⟨some 27, some (25, true), .ld 10 (.t 26)⟩,
  ⟨some 28, some (25, true), .call (.k (.fn f_caps_within [])) [(.t 27), (.k (.int .i64 0)), (.k (.int .i64 16777215))]⟩,
  ⟨some 29, none, .pick (.t 25) (.t 28) (.k (.bool false))⟩,
  ⟨some 30, none, .mv (.t 29)⟩,
  ⟨some 31, some (30, true), .fad 40 4 10 (.t 1)⟩,
  ⟨some 32, some (30, true), .ld 10 (.t 31)⟩,
  ⟨some 33, some (30, true), .call (.k (.fn f_caps_within [])) [(.t 32), (.k (.int .i64 0)), (.k (.int .i64 65535))]⟩,
  ⟨some 34, none, .pick (.t 30) (.t 33) (.k (.bool false))⟩,
  ⟨some 35, none, .mv (.t 34)⟩,
  ⟨some 36, some (35, true), .mv (.t 3)⟩,
  ⟨some 37, some (35, true), .un .not (.t 36)⟩,
  ⟨some 38, some (35, true), .mv (.t 37)⟩,
  ⟨some 39, some (38, false), .fad 40 2 10 (.t 1)⟩,
  ⟨some 40, some (38, false), .ld 10 (.t 39)⟩,
  ⟨some 41, some (38, false), .bin .eql (.t 40) (.k (.int .i64 0))⟩,
  ⟨some 42, some (38, false), .mv (.t 41)⟩,
  ⟨some 43, some (42, true), .fad 40 3 10 (.t 1)⟩,
  ⟨some 44, some (42, true), .ld 10 (.t 43)⟩,
  ⟨some 45, some (42, true), .bin .eql (.t 44) (.k (.int .i64 0))⟩,
  ⟨some 46, some (38, false), .pick (.t 42) (.t 45) (.k (.bool false))⟩,
  ⟨some 47, some (35, true), .pick (.t 38) (.k (.bool true)) (.t 46)⟩,
  ⟨some 48, none, .pick (.t 35) (.t 47) (.k (.bool false))⟩,
  ⟨some 2, none, .mv (.t 48)⟩]
/-- steadfast/caps.may -/
@[go_sem] def fc_caps_may : Fc := ⟨1,
  .seq ((.reg (some [1]) o_caps_may_0)) (
  .seq ((.reg (some [1, 3]) o_caps_may_1)) (
  .seq ((.reg (some [2]) o_caps_may_2)) (
  .ret))),
  [.t 2]⟩
def o_steadfastref01_is_0 : List Ab.Op := [
  ⟨some 4, none, .mv (.k (.bool false))⟩]
def o_steadfastref01_is_1 : List Ab.Op := [
  ⟨some 5, none, .mv (.t 0)⟩,
  ⟨some 6, none, .bin .geq (.t 5) (.k (.int .i64 0))⟩,
  ⟨some 7, none, .mv (.t 6)⟩,
  ⟨some 8, some (7, true), .mv (.t 0)⟩,
  ⟨some 9, some (7, true), .bin .leq (.t 8) (.k (.int .i64 63))⟩,
  ⟨some 10, none, .pick (.t 7) (.t 9) (.k (.bool false))⟩,
  ⟨some 11, none, .mv (.t 10)⟩,
  ⟨some 12, some (11, true), .mv (.t 1)⟩,
  ⟨some 13, some (11, true), .bin .geq (.t 12) (.k (.int .i64 1))⟩,
  ⟨some 14, none, .pick (.t 11) (.t 13) (.k (.bool false))⟩,
  ⟨some 15, none, .mv (.t 14)⟩,
  ⟨some 16, some (15, true), .mv (.t 1)⟩,
  ⟨some 17, some (15, true), .bin .leq (.t 16) (.k (.int .i64 64))⟩,
  ⟨some 18, none, .pick (.t 15) (.t 17) (.k (.bool false))⟩,
  ⟨some 19, none, .mv (.t 18)⟩,
  ⟨some 20, some (19, true), .mv (.t 0)⟩,
  ⟨some 21, some (19, true), .mv (.t 1)⟩,
  ⟨some 22, some (19, true), .bin .add (.t 20) (.t 21)⟩,
  ⟨some 23, some (19, true), .bin .leq (.t 22) (.k (.int .i64 64))⟩,
  ⟨some 24, none, .pick (.t 19) (.t 23) (.k (.bool false))⟩,
  ⟨some 4, none, .mv (.t 24)⟩]
/-- steadfast/steadfastref01.is -/
@[go_sem] def fc_steadfastref01_is : Fc := ⟨2,
  .seq ((.reg (some [0, 1]) o_steadfastref01_is_0)) (
  .seq ((.reg (some [4]) o_steadfastref01_is_1)) (
  .ret)),
  [.t 4]⟩
def o_steadfastref01_bit_0 : List Ab.Op := [
  ⟨some 4, none, .mv (.k (.int .u64 0))⟩]
def o_steadfastref01_bit_1 : List Ab.Op := [
  ⟨some 5, none, .mv (.t 0)⟩,
  ⟨some 6, none, .mv (.t 1)⟩,
  ⟨some 7, none, .bin .shr (.t 5) (.t 6)⟩,
  ⟨some 8, none, .bin .and (.t 7) (.k (.int .u64 1))⟩,
  ⟨some 4, none, .mv (.t 8)⟩]
/-- steadfast/steadfastref01.bit -/
@[go_sem] def fc_steadfastref01_bit : Fc := ⟨2,
  .seq ((.reg (some [0, 1]) o_steadfastref01_bit_0)) (
  .seq ((.reg (some [4]) o_steadfastref01_bit_1)) (
  .ret)),
  [.t 4]⟩
def o_caps_within_0 : List Ab.Op := [
  ⟨some 6, none, .mv (.k (.bool false))⟩]
def o_caps_within_1 : List Ab.Op := [
  ⟨some 7, none, .mv (.t 0)⟩,
  ⟨some 8, none, .mv (.t 1)⟩,
  ⟨some 9, none, .bin .geq (.t 7) (.t 8)⟩,
  ⟨some 10, none, .mv (.t 9)⟩,
  ⟨some 11, some (10, true), .mv (.t 0)⟩,
  ⟨some 12, some (10, true), .mv (.t 2)⟩,
  ⟨some 13, some (10, true), .bin .leq (.t 11) (.t 12)⟩,
  ⟨some 14, none, .pick (.t 10) (.t 13) (.k (.bool false))⟩,
  ⟨some 6, none, .mv (.t 14)⟩]
/-- steadfast/caps.within -/
@[go_sem] def fc_caps_within : Fc := ⟨3,
  .seq ((.reg (some [0, 1, 2]) o_caps_within_0)) (
  .seq ((.reg (some [6]) o_caps_within_1)) (
  .ret)),
  [.t 6]⟩
def D : Nat → Option Fc
  | 6 => some fc_steadfastlaw23_ReachLess
  | 7 => some fc_steadfastlaw23_ReachParts
  | 16 => some fc_steadfastlaw23_shown
  | 17 => some fc_steadfastlaw23_world
  | 18 => some fc_reach_From
  | 19 => some fc_reach_Names
  | 29 => some fc_steadfastref07_Word
  | 30 => some fc_reach_From_1
  | 31 => some fc_caps_Of
  | 32 => some fc_entry_Names
  | 43 => some fc_steadfastref01_With
  | 44 => some fc_caps_may
  | 55 => some fc_steadfastref01_is
  | 56 => some fc_steadfastref01_bit
  | 57 => some fc_caps_within
  | _ => none
theorem D_steadfastlaw23_ReachLess : D f_steadfastlaw23_ReachLess = some fc_steadfastlaw23_ReachLess := rfl
theorem D_steadfastlaw23_ReachParts : D f_steadfastlaw23_ReachParts = some fc_steadfastlaw23_ReachParts := rfl
theorem D_steadfastlaw23_shown : D f_steadfastlaw23_shown = some fc_steadfastlaw23_shown := rfl
theorem D_steadfastlaw23_world : D f_steadfastlaw23_world = some fc_steadfastlaw23_world := rfl
theorem D_reach_From : D f_reach_From = some fc_reach_From := rfl
theorem D_reach_Names : D f_reach_Names = some fc_reach_Names := rfl
theorem D_steadfastref07_Word : D f_steadfastref07_Word = some fc_steadfastref07_Word := rfl
theorem D_reach_From_1 : D f_reach_From_1 = some fc_reach_From_1 := rfl
theorem D_caps_Of : D f_caps_Of = some fc_caps_Of := rfl
theorem D_entry_Names : D f_entry_Names = some fc_entry_Names := rfl
theorem D_steadfastref01_With : D f_steadfastref01_With = some fc_steadfastref01_With := rfl
theorem D_caps_may : D f_caps_may = some fc_caps_may := rfl
theorem D_steadfastref01_is : D f_steadfastref01_is = some fc_steadfastref01_is := rfl
theorem D_steadfastref01_bit : D f_steadfastref01_bit = some fc_steadfastref01_bit := rfl
theorem D_caps_within : D f_caps_within = some fc_caps_within := rfl
@[go_sem] noncomputable def R_steadfastlaw23_ReachLess_0 (_base : Nat) (s : St) (v0 v1 v2 : V) : Option (Ex × Env × St) :=
  if V.ok v2 && mayNew false v2 then let x0 : V := .ptr (St.fresh s false) [] (V.tag v2); let s0 : St := St.new s false v2
  some (.normal, [(0, v0), (1, v1), (5, x0)], s0)
  else none
@[go_sem] theorem rc_steadfastlaw23_ReachLess_0 {base : Nat} {ρ : Env} {s : St} : rc D base (.reg (some [0, 1, 5]) o_steadfastlaw23_ReachLess_0) ρ s = R_steadfastlaw23_ReachLess_0 base s (get ρ 0) (get ρ 1) (get ρ 2) := rc_reg_O.trans (by kernel_rfl)
@[go_sem] noncomputable def R_steadfastlaw23_ReachLess_1 (_base : Nat) (s : St) (v0 v1 v5 : V) : Option (Ex × Env × St) :=
  obind (rf D f_steadfastlaw23_shown [] s) fun x0 =>
  some (.normal, [(0, v0), (1, v1), (5, v5), (7, x0.1)], x0.2)
@[go_sem] theorem rc_steadfastlaw23_ReachLess_1 {base : Nat} {ρ : Env} {s : St} : rc D base (.reg (some [0, 1, 5, 7]) o_steadfastlaw23_ReachLess_1) ρ s = R_steadfastlaw23_ReachLess_1 base s (get ρ 0) (get ρ 1) (get ρ 5) := rc_reg_O.trans (by kernel_rfl)
@[go_sem] noncomputable def R_steadfastlaw23_ReachLess_2 (base : Nat) (s : St) (v0 v1 v5 v7 : V) : Option (Ex × Env × St) :=
  obind (rf D f_steadfastlaw23_world [v0] s) fun x0 =>
  let x1 : V := .ptr (St.fresh x0.2 false) [] 30; let s1 : St := St.new x0.2 false (.agg 30 (List.replicate 49 (.agg 26 [(.int .i64 0), (.int .i64 0), (.agg 24 (List.replicate 8 (.int .u64 0)))])))
  obind (stv base s1 30 x0.1 x1) fun s2 =>
  some (.normal, [(1, v1), (5, v5), (7, v7), (8, x1)], s2)
@[go_sem] theorem rc_steadfastlaw23_ReachLess_2 {base : Nat} {ρ : Env} {s : St} : rc D base (.reg (some [1, 5, 7, 8]) o_steadfastlaw23_ReachLess_2) ρ s = R_steadfastlaw23_ReachLess_2 base s (get ρ 0) (get ρ 1) (get ρ 5) (get ρ 7) := rc_reg_O.trans (by kernel_rfl)
@[go_sem] noncomputable def R_steadfastlaw23_ReachLess_3 (base : Nat) (s : St) (v1 v5 v7 v8 : V) : Option (Ex × Env × St) :=
  obind (ldv s 30 v8) fun x0 =>
  obind (rf D f_reach_From [x0, v1] s) fun x1 =>
  let x2 : V := .ptr (St.fresh x1.2 false) [] 32; let s2 : St := St.new x1.2 false (.agg 32 (List.replicate 49 (.bool false)))
  obind (stv base s2 32 x1.1 x2) fun s3 =>
  some (.normal, [(1, v1), (5, v5), (7, v7), (8, v8), (9, x2)], s3)
@[go_sem] theorem rc_steadfastlaw23_ReachLess_3 {base : Nat} {ρ : Env} {s : St} : rc D base (.reg (some [1, 5, 7, 8, 9]) o_steadfastlaw23_ReachLess_3) ρ s = R_steadfastlaw23_ReachLess_3 base s (get ρ 1) (get ρ 5) (get ρ 7) (get ρ 8) := rc_reg_O.trans (by kernel_rfl)
@[go_sem] noncomputable def R_steadfastlaw23_ReachLess_4 (_base : Nat) (s : St) (v1 v5 v7 v8 v9 : V) : Option (Ex × Env × St) :=
  obind (iadv 22 2 10 v5 (.int .i64 0)) fun x0 =>
  obind (ldv s 10 x0) fun x1 =>
  obind (vbin .rem x1 (.int .i64 49)) fun x2 =>
  some (.normal, [(1, v1), (5, v5), (7, v7), (8, v8), (9, v9), (10, x2)], s)
@[go_sem] theorem rc_steadfastlaw23_ReachLess_4 {base : Nat} {ρ : Env} {s : St} : rc D base (.reg (some [1, 5, 7, 8, 9, 10]) o_steadfastlaw23_ReachLess_4) ρ s = R_steadfastlaw23_ReachLess_4 base s (get ρ 1) (get ρ 5) (get ρ 7) (get ρ 8) (get ρ 9) := rc_reg_O.trans (by kernel_rfl)
@[go_sem] noncomputable def R_steadfastlaw23_ReachLess_5 (_base : Nat) (s : St) (v1 v5 v7 v8 v9 v10 : V) : Option (Ex × Env × St) :=
  obind (vbin .lss v10 (.int .i64 0)) fun x0 =>
  some (.normal, [(1, v1), (5, v5), (7, v7), (8, v8), (9, v9), (10, v10), (24, x0)], s)
@[go_sem] theorem rc_steadfastlaw23_ReachLess_5 {base : Nat} {ρ : Env} {s : St} : rc D base (.reg (some [1, 5, 7, 8, 9, 10, 24]) o_steadfastlaw23_ReachLess_5) ρ s = R_steadfastlaw23_ReachLess_5 base s (get ρ 1) (get ρ 5) (get ρ 7) (get ρ 8) (get ρ 9) (get ρ 10) := rc_reg_O.trans (by kernel_rfl)
@[go_sem] noncomputable def R_steadfastlaw23_ReachLess_6 (_base : Nat) (s : St) (v1 v5 v7 v8 v9 v10 : V) : Option (Ex × Env × St) :=
  obind (vun .neg v10) fun x0 =>
  some (.normal, [(1, v1), (5, v5), (7, v7), (8, v8), (9, v9), (10, x0)], s)
@[go_sem] theorem rc_steadfastlaw23_ReachLess_6 {base : Nat} {ρ : Env} {s : St} : rc D base (.reg (some [1, 5, 7, 8, 9, 10]) o_steadfastlaw23_ReachLess_6) ρ s = R_steadfastlaw23_ReachLess_6 base s (get ρ 1) (get ρ 5) (get ρ 7) (get ρ 8) (get ρ 9) (get ρ 10) := rc_reg_O.trans (by kernel_rfl)
@[go_sem] noncomputable def R_steadfastlaw23_ReachLess_7 (_base : Nat) (s : St) (v1 v5 v7 v8 v9 v10 : V) : Option (Ex × Env × St) :=
  obind (iadv 22 2 10 v5 (.int .i64 1)) fun x0 =>
  obind (ldv s 10 x0) fun x1 =>
  obind (vbin .rem x1 (.int .i64 8)) fun x2 =>
  some (.normal, [(1, v1), (7, v7), (8, v8), (9, v9), (10, v10), (11, x2)], s)
@[go_sem] theorem rc_steadfastlaw23_ReachLess_7 {base : Nat} {ρ : Env} {s : St} : rc D base (.reg (some [1, 7, 8, 9, 10, 11]) o_steadfastlaw23_ReachLess_7) ρ s = R_steadfastlaw23_ReachLess_7 base s (get ρ 1) (get ρ 5) (get ρ 7) (get ρ 8) (get ρ 9) (get ρ 10) := rc_reg_O.trans (by kernel_rfl)
@[go_sem] noncomputable def R_steadfastlaw23_ReachLess_8 (_base : Nat) (s : St) (v1 v7 v8 v9 v10 v11 : V) : Option (Ex × Env × St) :=
  obind (vbin .lss v11 (.int .i64 0)) fun x0 =>
  some (.normal, [(1, v1), (7, v7), (8, v8), (9, v9), (10, v10), (11, v11), (31, x0)], s)
@[go_sem] theorem rc_steadfastlaw23_ReachLess_8 {base : Nat} {ρ : Env} {s : St} : rc D base (.reg (some [1, 7, 8, 9, 10, 11, 31]) o_steadfastlaw23_ReachLess_8) ρ s = R_steadfastlaw23_ReachLess_8 base s (get ρ 1) (get ρ 7) (get ρ 8) (get ρ 9) (get ρ 10) (get ρ 11) := rc_reg_O.trans (by kernel_rfl)
@[go_sem] noncomputable def R_steadfastlaw23_ReachLess_9 (_base : Nat) (s : St) (v1 v7 v8 v9 v10 v11 : V) : Option (Ex × Env × St) :=
  obind (vun .neg v11) fun x0 =>
  some (.normal, [(1, v1), (7, v7), (8, v8), (9, v9), (10, v10), (11, x0)], s)
@[go_sem] theorem rc_steadfastlaw23_ReachLess_9 {base : Nat} {ρ : Env} {s : St} : rc D base (.reg (some [1, 7, 8, 9, 10, 11]) o_steadfastlaw23_ReachLess_9) ρ s = R_steadfastlaw23_ReachLess_9 base s (get ρ 1) (get ρ 7) (get ρ 8) (get ρ 9) (get ρ 10) (get ρ 11) := rc_reg_O.trans (by kernel_rfl)
@[go_sem] noncomputable def R_steadfastlaw23_ReachLess_10 (_base : Nat) (s : St) (v1 v7 v8 v9 v10 v11 : V) : Option (Ex × Env × St) :=
  obind (iadv 30 49 26 v8 v10) fun x0 =>
  obind (fadv 26 0 10 x0) fun x1 =>
  obind (ldv s 10 x1) fun x2 =>
  obind (vbin .eql x2 (.int .i64 2)) fun x3 =>
  some (.normal, [(1, v1), (7, v7), (8, v8), (9, v9), (10, v10), (11, v11), (38, x3)], s)
@[go_sem] theorem rc_steadfastlaw23_ReachLess_10 {base : Nat} {ρ : Env} {s : St} : rc D base (.reg (some [1, 7, 8, 9, 10, 11, 38]) o_steadfastlaw23_ReachLess_10) ρ s = R_steadfastlaw23_ReachLess_10 base s (get ρ 1) (get ρ 7) (get ρ 8) (get ρ 9) (get ρ 10) (get ρ 11) := rc_reg_O.trans (by kernel_rfl)
@[go_sem] noncomputable def R_steadfastlaw23_ReachLess_11 (base : Nat) (s : St) (v1 v7 v8 v9 v10 v11 : V) : Option (Ex × Env × St) :=
  obind (iadv 30 49 26 v8 v10) fun x0 =>
  obind (fadv 26 2 24 x0) fun x1 =>
  obind (iadv 24 8 18 x1 v11) fun x2 =>
  obind (stv base s 18 (.int .u64 0) x2) fun s3 =>
  some (.normal, [(1, v1), (7, v7), (8, v8), (9, v9)], s3)
@[go_sem] theorem rc_steadfastlaw23_ReachLess_11 {base : Nat} {ρ : Env} {s : St} : rc D base (.reg (some [1, 7, 8, 9]) o_steadfastlaw23_ReachLess_11) ρ s = R_steadfastlaw23_ReachLess_11 base s (get ρ 1) (get ρ 7) (get ρ 8) (get ρ 9) (get ρ 10) (get ρ 11) := rc_reg_O.trans (by kernel_rfl)
@[go_sem] noncomputable def R_steadfastlaw23_ReachLess_12 (base : Nat) (s : St) (v1 v7 v8 v9 : V) : Option (Ex × Env × St) :=
  obind (ldv s 30 v8) fun x0 =>
  obind (rf D f_reach_From [x0, v1] s) fun x1 =>
  let x2 : V := .ptr (St.fresh x1.2 false) [] 32; let s2 : St := St.new x1.2 false (.agg 32 (List.replicate 49 (.bool false)))
  obind (stv base s2 32 x1.1 x2) fun s3 =>
  some (.normal, [(7, v7), (9, v9), (12, x2)], s3)
@[go_sem] theorem rc_steadfastlaw23_ReachLess_12 {base : Nat} {ρ : Env} {s : St} : rc D base (.reg (some [7, 9, 12]) o_steadfastlaw23_ReachLess_12) ρ s = R_steadfastlaw23_ReachLess_12 base s (get ρ 1) (get ρ 7) (get ρ 8) (get ρ 9) := rc_reg_O.trans (by kernel_rfl)
@[go_sem] noncomputable def R_steadfastlaw23_ReachLess_13 (_base : Nat) (s : St) (v7 v9 v12 : V) : Option (Ex × Env × St) :=
  some (.normal, [(7, v7), (9, v9), (12, v12), (13, (.int .i64 0))], s)
@[go_sem] theorem rc_steadfastlaw23_ReachLess_13 {base : Nat} {ρ : Env} {s : St} : rc D base (.reg (some [7, 9, 12, 13]) o_steadfastlaw23_ReachLess_13) ρ s = R_steadfastlaw23_ReachLess_13 base s (get ρ 7) (get ρ 9) (get ρ 12) := rc_reg_O.trans (by kernel_rfl)
@[go_sem] noncomputable def R_steadfastlaw23_ReachLess_14 (_base : Nat) (s : St) (v7 v9 v12 v13 : V) : Option (Ex × Env × St) :=
  obind (vbin .lss v13 (.int .i64 49)) fun x0 =>
  some (.normal, [(7, v7), (9, v9), (12, v12), (13, v13), (48, x0)], s)
@[go_sem] theorem rc_steadfastlaw23_ReachLess_14 {base : Nat} {ρ : Env} {s : St} : rc D base (.reg (some [7, 9, 12, 13, 48]) o_steadfastlaw23_ReachLess_14) ρ s = R_steadfastlaw23_ReachLess_14 base s (get ρ 7) (get ρ 9) (get ρ 12) (get ρ 13) := rc_reg_O.trans (by kernel_rfl)
@[go_sem] noncomputable def R_steadfastlaw23_ReachLess_15 (_base : Nat) (s : St) (v7 v9 v12 v13 : V) : Option (Ex × Env × St) :=
  obind (iadv 32 49 0 v12 v13) fun x0 =>
  obind (ldv s 0 x0) fun x1 =>
  oguard x1 true (
    obind (iadv 32 49 0 v9 v13) fun x2 =>
    obind (ldv s 0 x2) fun x3 =>
    obind (vun .not x3) fun x4 =>
    some (.normal, [(7, v7), (9, v9), (12, v12), (13, v13), (59, x4)], s)) (
    some (.normal, [(7, v7), (9, v9), (12, v12), (13, v13), (59, (.bool false))], s)) (
    none)
@[go_sem] theorem rc_steadfastlaw23_ReachLess_15 {base : Nat} {ρ : Env} {s : St} : rc D base (.reg (some [7, 9, 12, 13, 59]) o_steadfastlaw23_ReachLess_15) ρ s = R_steadfastlaw23_ReachLess_15 base s (get ρ 7) (get ρ 9) (get ρ 12) (get ρ 13) := rc_reg_O.trans (by kernel_rfl)
@[go_sem] noncomputable def R_steadfastlaw23_ReachLess_16 (_base : Nat) (s : St) : Option (Ex × Env × St) :=
  some (.normal, [(6, (.bool false))], s)
@[go_sem] theorem rc_steadfastlaw23_ReachLess_16 {base : Nat} {ρ : Env} {s : St} : rc D base (.reg (some [6]) o_steadfastlaw23_ReachLess_16) ρ s = R_steadfastlaw23_ReachLess_16 base s := rc_reg_O.trans (by kernel_rfl)
@[go_sem] noncomputable def R_steadfastlaw23_ReachLess_17 (_base : Nat) (s : St) (v7 v9 v12 v13 : V) : Option (Ex × Env × St) :=
  obind (vbin .add v13 (.int .i64 1)) fun x0 =>
  some (.normal, [(7, v7), (9, v9), (12, v12), (13, x0)], s)
@[go_sem] theorem rc_steadfastlaw23_ReachLess_17 {base : Nat} {ρ : Env} {s : St} : rc D base (.reg (some [7, 9, 12, 13]) o_steadfastlaw23_ReachLess_17) ρ s = R_steadfastlaw23_ReachLess_17 base s (get ρ 7) (get ρ 9) (get ρ 12) (get ρ 13) := rc_reg_O.trans (by kernel_rfl)
@[go_sem] noncomputable def R_steadfastlaw23_ReachLess_18 (_base : Nat) (s : St) (v7 : V) : Option (Ex × Env × St) :=
  some (.normal, [(6, v7)], s)
@[go_sem] theorem rc_steadfastlaw23_ReachLess_18 {base : Nat} {ρ : Env} {s : St} : rc D base (.reg (some [6]) o_steadfastlaw23_ReachLess_18) ρ s = R_steadfastlaw23_ReachLess_18 base s (get ρ 7) := rc_reg_O.trans (by kernel_rfl)

@[go_sem] noncomputable def R_steadfastlaw23_ReachParts_0 (_base : Nat) (s : St) (v0 v1 : V) : Option (Ex × Env × St) :=
  some (.normal, [(0, v0), (1, v1)], s)
@[go_sem] theorem rc_steadfastlaw23_ReachParts_0 {base : Nat} {ρ : Env} {s : St} : rc D base (.reg (some [0, 1]) o_steadfastlaw23_ReachParts_0) ρ s = R_steadfastlaw23_ReachParts_0 base s (get ρ 0) (get ρ 1) := rc_reg_O.trans (by kernel_rfl)
@[go_sem] noncomputable def R_steadfastlaw23_ReachParts_1 (_base : Nat) (s : St) (v0 v1 : V) : Option (Ex × Env × St) :=
  obind (rf D f_steadfastlaw23_shown [] s) fun x0 =>
  some (.normal, [(0, v0), (1, v1), (5, x0.1)], x0.2)
@[go_sem] theorem rc_steadfastlaw23_ReachParts_1 {base : Nat} {ρ : Env} {s : St} : rc D base (.reg (some [0, 1, 5]) o_steadfastlaw23_ReachParts_1) ρ s = R_steadfastlaw23_ReachParts_1 base s (get ρ 0) (get ρ 1) := rc_reg_O.trans (by kernel_rfl)
@[go_sem] noncomputable def R_steadfastlaw23_ReachParts_2 (base : Nat) (s : St) (v0 v1 v5 : V) : Option (Ex × Env × St) :=
  obind (rf D f_steadfastlaw23_world [v0] s) fun x0 =>
  let x1 : V := .ptr (St.fresh x0.2 false) [] 30; let s1 : St := St.new x0.2 false (.agg 30 (List.replicate 49 (.agg 26 [(.int .i64 0), (.int .i64 0), (.agg 24 (List.replicate 8 (.int .u64 0)))])))
  obind (stv base s1 30 x0.1 x1) fun s2 =>
  some (.normal, [(1, v1), (5, v5), (6, x1)], s2)
@[go_sem] theorem rc_steadfastlaw23_ReachParts_2 {base : Nat} {ρ : Env} {s : St} : rc D base (.reg (some [1, 5, 6]) o_steadfastlaw23_ReachParts_2) ρ s = R_steadfastlaw23_ReachParts_2 base s (get ρ 0) (get ρ 1) (get ρ 5) := rc_reg_O.trans (by kernel_rfl)
@[go_sem] noncomputable def R_steadfastlaw23_ReachParts_3 (base : Nat) (s : St) (v1 v5 v6 : V) : Option (Ex × Env × St) :=
  obind (ldv s 30 v6) fun x0 =>
  obind (rf D f_reach_From [x0, v1] s) fun x1 =>
  let x2 : V := .ptr (St.fresh x1.2 false) [] 32; let s2 : St := St.new x1.2 false (.agg 32 (List.replicate 49 (.bool false)))
  obind (stv base s2 32 x1.1 x2) fun s3 =>
  some (.normal, [(1, v1), (5, v5), (6, v6), (7, x2)], s3)
@[go_sem] theorem rc_steadfastlaw23_ReachParts_3 {base : Nat} {ρ : Env} {s : St} : rc D base (.reg (some [1, 5, 6, 7]) o_steadfastlaw23_ReachParts_3) ρ s = R_steadfastlaw23_ReachParts_3 base s (get ρ 1) (get ρ 5) (get ρ 6) := rc_reg_O.trans (by kernel_rfl)
@[go_sem] noncomputable def R_steadfastlaw23_ReachParts_4 (_base : Nat) (s : St) (v1 v5 v6 v7 : V) : Option (Ex × Env × St) :=
  obind (ldv s 30 v6) fun x0 =>
  obind (rf D f_reach_Names [x0, v1] s) fun x1 =>
  obind (extv 0 x1.1) fun x2 =>
  obind (extv 1 x1.1) fun x3 =>
  some (.normal, [(5, v5), (6, v6), (7, v7), (8, x2), (9, x3)], x1.2)
@[go_sem] theorem rc_steadfastlaw23_ReachParts_4 {base : Nat} {ρ : Env} {s : St} : rc D base (.reg (some [5, 6, 7, 8, 9]) o_steadfastlaw23_ReachParts_4) ρ s = R_steadfastlaw23_ReachParts_4 base s (get ρ 1) (get ρ 5) (get ρ 6) (get ρ 7) := rc_reg_O.trans (by kernel_rfl)
@[go_sem] noncomputable def R_steadfastlaw23_ReachParts_5 (_base : Nat) (s : St) (v5 v6 v7 v8 v9 : V) : Option (Ex × Env × St) :=
  obind (vun .not v9) fun x0 =>
  some (.normal, [(5, v5), (6, v6), (7, v7), (8, v8), (27, x0)], s)
@[go_sem] theorem rc_steadfastlaw23_ReachParts_5 {base : Nat} {ρ : Env} {s : St} : rc D base (.reg (some [5, 6, 7, 8, 27]) o_steadfastlaw23_ReachParts_5) ρ s = R_steadfastlaw23_ReachParts_5 base s (get ρ 5) (get ρ 6) (get ρ 7) (get ρ 8) (get ρ 9) := rc_reg_O.trans (by kernel_rfl)
@[go_sem] noncomputable def R_steadfastlaw23_ReachParts_6 (_base : Nat) (s : St) (v5 v7 : V) : Option (Ex × Env × St) :=
  oguard v5 true (
    obind (ldv s 32 v7) fun x0 =>
    obind (setParts (List.replicate 49 (.bool false)) []) fun x1 =>
    obind (eqv false 32 x0 (.agg 32 x1)) fun x2 =>
    some (.normal, [(4, x2)], s)) (
    some (.normal, [(4, (.bool false))], s)) (
    none)
@[go_sem] theorem rc_steadfastlaw23_ReachParts_6 {base : Nat} {ρ : Env} {s : St} : rc D base (.reg (some [4]) o_steadfastlaw23_ReachParts_6) ρ s = R_steadfastlaw23_ReachParts_6 base s (get ρ 5) (get ρ 7) := rc_reg_O.trans (by kernel_rfl)
@[go_sem] noncomputable def R_steadfastlaw23_ReachParts_7 (_base : Nat) (s : St) (v5 v6 v7 v8 : V) : Option (Ex × Env × St) :=
  obind (iadv 32 49 0 v7 v8) fun x0 =>
  obind (ldv s 0 x0) fun x1 =>
  obind (vun .not x1) fun x2 =>
  some (.normal, [(5, v5), (6, v6), (7, v7), (8, v8), (37, x2)], s)
@[go_sem] theorem rc_steadfastlaw23_ReachParts_7 {base : Nat} {ρ : Env} {s : St} : rc D base (.reg (some [5, 6, 7, 8, 37]) o_steadfastlaw23_ReachParts_7) ρ s = R_steadfastlaw23_ReachParts_7 base s (get ρ 5) (get ρ 6) (get ρ 7) (get ρ 8) := rc_reg_O.trans (by kernel_rfl)
@[go_sem] noncomputable def R_steadfastlaw23_ReachParts_8 (_base : Nat) (s : St) : Option (Ex × Env × St) :=
  some (.normal, [(4, (.bool false))], s)
@[go_sem] theorem rc_steadfastlaw23_ReachParts_8 {base : Nat} {ρ : Env} {s : St} : rc D base (.reg (some [4]) o_steadfastlaw23_ReachParts_8) ρ s = R_steadfastlaw23_ReachParts_8 base s := rc_reg_O.trans (by kernel_rfl)
@[go_sem] noncomputable def R_steadfastlaw23_ReachParts_9 (_base : Nat) (s : St) (v5 v6 v7 v8 : V) : Option (Ex × Env × St) :=
  obind (iadv 30 49 26 v6 v8) fun x0 =>
  obind (fadv 26 0 10 x0) fun x1 =>
  obind (ldv s 10 x1) fun x2 =>
  obind (vbin .neq x2 (.int .i64 2)) fun x3 =>
  some (.normal, [(5, v5), (6, v6), (7, v7), (8, v8), (42, x3)], s)
@[go_sem] theorem rc_steadfastlaw23_ReachParts_9 {base : Nat} {ρ : Env} {s : St} : rc D base (.reg (some [5, 6, 7, 8, 42]) o_steadfastlaw23_ReachParts_9) ρ s = R_steadfastlaw23_ReachParts_9 base s (get ρ 5) (get ρ 6) (get ρ 7) (get ρ 8) := rc_reg_O.trans (by kernel_rfl)
@[go_sem] noncomputable def R_steadfastlaw23_ReachParts_10 (base : Nat) (s : St) (v5 v7 v8 : V) : Option (Ex × Env × St) :=
  obind (iadv 32 49 0 v7 v8) fun x0 =>
  obind (stv base s 0 (.bool false) x0) fun s1 =>
  some (.normal, [(5, v5), (7, v7)], s1)
@[go_sem] theorem rc_steadfastlaw23_ReachParts_10 {base : Nat} {ρ : Env} {s : St} : rc D base (.reg (some [5, 7]) o_steadfastlaw23_ReachParts_10) ρ s = R_steadfastlaw23_ReachParts_10 base s (get ρ 5) (get ρ 7) (get ρ 8) := rc_reg_O.trans (by kernel_rfl)
@[go_sem] noncomputable def R_steadfastlaw23_ReachParts_11 (_base : Nat) (s : St) (v5 v7 : V) : Option (Ex × Env × St) :=
  oguard v5 true (
    obind (ldv s 32 v7) fun x0 =>
    obind (setParts (List.replicate 49 (.bool false)) []) fun x1 =>
    obind (eqv false 32 x0 (.agg 32 x1)) fun x2 =>
    some (.normal, [(4, x2)], s)) (
    some (.normal, [(4, (.bool false))], s)) (
    none)
@[go_sem] theorem rc_steadfastlaw23_ReachParts_11 {base : Nat} {ρ : Env} {s : St} : rc D base (.reg (some [4]) o_steadfastlaw23_ReachParts_11) ρ s = R_steadfastlaw23_ReachParts_11 base s (get ρ 5) (get ρ 7) := rc_reg_O.trans (by kernel_rfl)
@[go_sem] noncomputable def R_steadfastlaw23_ReachParts_12 (base : Nat) (s : St) (v5 v6 v7 v8 : V) : Option (Ex × Env × St) :=
  obind (setParts (List.replicate 49 (.bool false)) []) fun x0 =>
  let x1 : V := .ptr (St.fresh s false) [] 32; let s1 : St := St.new s false (.agg 32 (List.replicate 49 (.bool false)))
  obind (stv base s1 32 (.agg 32 x0) x1) fun s2 =>
  some (.normal, [(5, v5), (6, v6), (7, v7), (8, v8), (10, x1)], s2)
@[go_sem] theorem rc_steadfastlaw23_ReachParts_12 {base : Nat} {ρ : Env} {s : St} : rc D base (.reg (some [5, 6, 7, 8, 10]) o_steadfastlaw23_ReachParts_12) ρ s = R_steadfastlaw23_ReachParts_12 base s (get ρ 5) (get ρ 6) (get ρ 7) (get ρ 8) := rc_reg_O.trans (by kernel_rfl)
@[go_sem] noncomputable def R_steadfastlaw23_ReachParts_13 (base : Nat) (s : St) (v5 v6 v7 v8 v10 : V) : Option (Ex × Env × St) :=
  obind (iadv 32 49 0 v10 v8) fun x0 =>
  obind (stv base s 0 (.bool true) x0) fun s1 =>
  some (.normal, [(5, v5), (6, v6), (7, v7), (8, v8), (10, v10)], s1)
@[go_sem] theorem rc_steadfastlaw23_ReachParts_13 {base : Nat} {ρ : Env} {s : St} : rc D base (.reg (some [5, 6, 7, 8, 10]) o_steadfastlaw23_ReachParts_13) ρ s = R_steadfastlaw23_ReachParts_13 base s (get ρ 5) (get ρ 6) (get ρ 7) (get ρ 8) (get ρ 10) := rc_reg_O.trans (by kernel_rfl)
@[go_sem] noncomputable def R_steadfastlaw23_ReachParts_14 (_base : Nat) (s : St) (v5 v6 v7 v8 v10 : V) : Option (Ex × Env × St) :=
  some (.normal, [(5, v5), (6, v6), (7, v7), (8, v8), (10, v10), (11, (.int .i64 0))], s)
@[go_sem] theorem rc_steadfastlaw23_ReachParts_14 {base : Nat} {ρ : Env} {s : St} : rc D base (.reg (some [5, 6, 7, 8, 10, 11]) o_steadfastlaw23_ReachParts_14) ρ s = R_steadfastlaw23_ReachParts_14 base s (get ρ 5) (get ρ 6) (get ρ 7) (get ρ 8) (get ρ 10) := rc_reg_O.trans (by kernel_rfl)
@[go_sem] noncomputable def R_steadfastlaw23_ReachParts_15 (_base : Nat) (s : St) (v5 v6 v7 v8 v10 v11 : V) : Option (Ex × Env × St) :=
  obind (vbin .lss v11 (.int .i64 8)) fun x0 =>
  some (.normal, [(5, v5), (6, v6), (7, v7), (8, v8), (10, v10), (11, v11), (55, x0)], s)
@[go_sem] theorem rc_steadfastlaw23_ReachParts_15 {base : Nat} {ρ : Env} {s : St} : rc D base (.reg (some [5, 6, 7, 8, 10, 11, 55]) o_steadfastlaw23_ReachParts_15) ρ s = R_steadfastlaw23_ReachParts_15 base s (get ρ 5) (get ρ 6) (get ρ 7) (get ρ 8) (get ρ 10) (get ρ 11) := rc_reg_O.trans (by kernel_rfl)
@[go_sem] noncomputable def R_steadfastlaw23_ReachParts_16 (base : Nat) (s : St) (v5 v6 v7 v8 v10 v11 : V) : Option (Ex × Env × St) :=
  obind (ldv s 30 v6) fun x0 =>
  obind (iadv 30 49 26 v6 v8) fun x1 =>
  obind (fadv 26 2 24 x1) fun x2 =>
  obind (iadv 24 8 18 x2 v11) fun x3 =>
  obind (ldv s 18 x3) fun x4 =>
  obind (pcallw D (pcut base [x0, x4]) base f_reach_From [x0, x4] s) fun x5 =>
  let x6 : V := .ptr (St.fresh s false) [] 32; let s6 : St := St.new s false (.agg 32 (List.replicate 49 (.bool false)))
  obind (stv base s6 32 x5 x6) fun s7 =>
  some (.normal, [(5, v5), (6, v6), (7, v7), (8, v8), (10, v10), (11, v11), (12, x6)], s7)
@[go_sem] theorem rc_steadfastlaw23_ReachParts_16 {base : Nat} {ρ : Env} {s : St} : rc D base (.regd (some [5, 6, 7, 8, 10, 11, 12]) o_steadfastlaw23_ReachParts_16) ρ s = R_steadfastlaw23_ReachParts_16 base s (get ρ 5) (get ρ 6) (get ρ 7) (get ρ 8) (get ρ 10) (get ρ 11) := rc_regd_O.trans (by kernel_rfl)
@[go_sem] noncomputable def R_steadfastlaw23_ReachParts_17 (_base : Nat) (s : St) (v5 v6 v7 v8 v10 v11 v12 : V) : Option (Ex × Env × St) :=
  some (.normal, [(5, v5), (6, v6), (7, v7), (8, v8), (10, v10), (11, v11), (12, v12), (13, (.int .i64 0))], s)
@[go_sem] theorem rc_steadfastlaw23_ReachParts_17 {base : Nat} {ρ : Env} {s : St} : rc D base (.reg (some [5, 6, 7, 8, 10, 11, 12, 13]) o_steadfastlaw23_ReachParts_17) ρ s = R_steadfastlaw23_ReachParts_17 base s (get ρ 5) (get ρ 6) (get ρ 7) (get ρ 8) (get ρ 10) (get ρ 11) (get ρ 12) := rc_reg_O.trans (by kernel_rfl)
@[go_sem] noncomputable def R_steadfastlaw23_ReachParts_18 (_base : Nat) (s : St) (v5 v6 v7 v8 v10 v11 v12 v13 : V) : Option (Ex × Env × St) :=
  obind (vbin .lss v13 (.int .i64 49)) fun x0 =>
  some (.normal, [(5, v5), (6, v6), (7, v7), (8, v8), (10, v10), (11, v11), (12, v12), (13, v13), (67, x0)], s)
@[go_sem] theorem rc_steadfastlaw23_ReachParts_18 {base : Nat} {ρ : Env} {s : St} : rc D base (.reg (some [5, 6, 7, 8, 10, 11, 12, 13, 67]) o_steadfastlaw23_ReachParts_18) ρ s = R_steadfastlaw23_ReachParts_18 base s (get ρ 5) (get ρ 6) (get ρ 7) (get ρ 8) (get ρ 10) (get ρ 11) (get ρ 12) (get ρ 13) := rc_reg_O.trans (by kernel_rfl)
@[go_sem] noncomputable def R_steadfastlaw23_ReachParts_19 (base : Nat) (s : St) (v5 v6 v7 v8 v10 v11 v12 v13 : V) : Option (Ex × Env × St) :=
  obind (iadv 32 49 0 v10 v13) fun x0 =>
  obind (ldv s 0 x0) fun x1 =>
  oguard x1 false (
    obind (iadv 32 49 0 v12 v13) fun x2 =>
    obind (ldv s 0 x2) fun x3 =>
    obind (iadv 32 49 0 v10 v13) fun x4 =>
    obind (stv base s 0 x3 x4) fun s5 =>
    some (.normal, [(5, v5), (6, v6), (7, v7), (8, v8), (10, v10), (11, v11), (12, v12), (13, v13)], s5)) (
    obind (iadv 32 49 0 v10 v13) fun x2 =>
    obind (stv base s 0 (.bool true) x2) fun s3 =>
    some (.normal, [(5, v5), (6, v6), (7, v7), (8, v8), (10, v10), (11, v11), (12, v12), (13, v13)], s3)) (
    none)
@[go_sem] theorem rc_steadfastlaw23_ReachParts_19 {base : Nat} {ρ : Env} {s : St} : rc D base (.reg (some [5, 6, 7, 8, 10, 11, 12, 13]) o_steadfastlaw23_ReachParts_19) ρ s = R_steadfastlaw23_ReachParts_19 base s (get ρ 5) (get ρ 6) (get ρ 7) (get ρ 8) (get ρ 10) (get ρ 11) (get ρ 12) (get ρ 13) := rc_reg_O.trans (by kernel_rfl)
@[go_sem] noncomputable def R_steadfastlaw23_ReachParts_20 (_base : Nat) (s : St) (v5 v6 v7 v8 v10 v11 v12 v13 : V) : Option (Ex × Env × St) :=
  obind (vbin .add v13 (.int .i64 1)) fun x0 =>
  some (.normal, [(5, v5), (6, v6), (7, v7), (8, v8), (10, v10), (11, v11), (12, v12), (13, x0)], s)
@[go_sem] theorem rc_steadfastlaw23_ReachParts_20 {base : Nat} {ρ : Env} {s : St} : rc D base (.reg (some [5, 6, 7, 8, 10, 11, 12, 13]) o_steadfastlaw23_ReachParts_20) ρ s = R_steadfastlaw23_ReachParts_20 base s (get ρ 5) (get ρ 6) (get ρ 7) (get ρ 8) (get ρ 10) (get ρ 11) (get ρ 12) (get ρ 13) := rc_reg_O.trans (by kernel_rfl)
@[go_sem] noncomputable def R_steadfastlaw23_ReachParts_21 (_base : Nat) (s : St) (v5 v6 v7 v8 v10 v11 : V) : Option (Ex × Env × St) :=
  obind (vbin .add v11 (.int .i64 1)) fun x0 =>
  some (.normal, [(5, v5), (6, v6), (7, v7), (8, v8), (10, v10), (11, x0)], s)
@[go_sem] theorem rc_steadfastlaw23_ReachParts_21 {base : Nat} {ρ : Env} {s : St} : rc D base (.reg (some [5, 6, 7, 8, 10, 11]) o_steadfastlaw23_ReachParts_21) ρ s = R_steadfastlaw23_ReachParts_21 base s (get ρ 5) (get ρ 6) (get ρ 7) (get ρ 8) (get ρ 10) (get ρ 11) := rc_reg_O.trans (by kernel_rfl)
@[go_sem] noncomputable def R_steadfastlaw23_ReachParts_22 (_base : Nat) (s : St) (v5 v7 v10 : V) : Option (Ex × Env × St) :=
  oguard v5 true (
    obind (ldv s 32 v7) fun x0 =>
    obind (ldv s 32 v10) fun x1 =>
    obind (eqv false 32 x0 x1) fun x2 =>
    some (.normal, [(4, x2)], s)) (
    some (.normal, [(4, (.bool false))], s)) (
    none)
@[go_sem] theorem rc_steadfastlaw23_ReachParts_22 {base : Nat} {ρ : Env} {s : St} : rc D base (.reg (some [4]) o_steadfastlaw23_ReachParts_22) ρ s = R_steadfastlaw23_ReachParts_22 base s (get ρ 5) (get ρ 7) (get ρ 10) := rc_reg_O.trans (by kernel_rfl)

@[go_sem] noncomputable def R_steadfastlaw23_shown_0 (_base : Nat) (s : St) : Option (Ex × Env × St) :=
  some (.normal, [], s)
@[go_sem] theorem rc_steadfastlaw23_shown_0 {base : Nat} {ρ : Env} {s : St} : rc D base (.reg (some []) o_steadfastlaw23_shown_0) ρ s = R_steadfastlaw23_shown_0 base s := rc_reg_O.trans (by kernel_rfl)
@[go_sem] noncomputable def R_steadfastlaw23_shown_1 (_base : Nat) (s : St) : Option (Ex × Env × St) :=
  obind (setParts [(.int .i64 0), (.int .i64 0), (.int .i64 0), (.int .i64 0), (.int .i64 0)] [(0, (.int .i64 1)), (1, (.int .i64 1))]) fun x0 =>
  obind (rf D f_steadfastref07_Word [(.agg 40 x0)] s) fun x1 =>
  obind (extv 0 x1.1) fun x2 =>
  obind (extv 1 x1.1) fun _x3 =>
  some (.normal, [(1, x2)], x1.2)
@[go_sem] theorem rc_steadfastlaw23_shown_1 {base : Nat} {ρ : Env} {s : St} : rc D base (.reg (some [1]) o_steadfastlaw23_shown_1) ρ s = R_steadfastlaw23_shown_1 base s := rc_reg_O.trans (by kernel_rfl)
@[go_sem] noncomputable def R_steadfastlaw23_shown_2 (_base : Nat) (s : St) (v1 : V) : Option (Ex × Env × St) :=
  obind (setParts [(.int .i64 0), (.int .i64 0), (.int .i64 0), (.int .i64 0), (.int .i64 0)] [(0, (.int .i64 2)), (1, (.int .i64 1)), (2, (.int .i64 1))]) fun x0 =>
  obind (rf D f_steadfastref07_Word [(.agg 40 x0)] s) fun x1 =>
  obind (extv 0 x1.1) fun x2 =>
  obind (extv 1 x1.1) fun _x3 =>
  some (.normal, [(1, v1), (3, x2)], x1.2)
@[go_sem] theorem rc_steadfastlaw23_shown_2 {base : Nat} {ρ : Env} {s : St} : rc D base (.reg (some [1, 3]) o_steadfastlaw23_shown_2) ρ s = R_steadfastlaw23_shown_2 base s (get ρ 1) := rc_reg_O.trans (by kernel_rfl)
@[go_sem] noncomputable def R_steadfastlaw23_shown_3 (base : Nat) (s : St) (v1 v3 : V) : Option (Ex × Env × St) :=
  obind (setParts [(.int .i64 0), (.int .i64 0), (.agg 24 (List.replicate 8 (.int .u64 0)))] [(0, (.int .i64 1))]) fun x0 =>
  obind (setParts (List.replicate 8 (.int .u64 0)) [(2, v1)]) fun x1 =>
  obind (setParts [(.int .i64 0), (.int .i64 0), (.agg 24 (List.replicate 8 (.int .u64 0)))] [(0, (.int .i64 2)), (2, (.agg 24 x1))]) fun x2 =>
  obind (bslv false 28 26 2 (.agg 26 [(.int .i64 0), (.int .i64 0), (.agg 24 (List.replicate 8 (.int .u64 0)))]) s [(0, (.agg 26 x0)), (1, (.agg 26 x2))]) fun x3 =>
  obind (rf D f_steadfastlaw23_world [x3.1] x3.2) fun x4 =>
  let x5 : V := .ptr (St.fresh x4.2 false) [] 30; let s5 : St := St.new x4.2 false (.agg 30 (List.replicate 49 (.agg 26 [(.int .i64 0), (.int .i64 0), (.agg 24 (List.replicate 8 (.int .u64 0)))])))
  obind (stv base s5 30 x4.1 x5) fun s6 =>
  some (.normal, [(3, v3), (5, x5)], s6)
@[go_sem] theorem rc_steadfastlaw23_shown_3 {base : Nat} {ρ : Env} {s : St} : rc D base (.reg (some [3, 5]) o_steadfastlaw23_shown_3) ρ s = R_steadfastlaw23_shown_3 base s (get ρ 1) (get ρ 3) := rc_reg_O.trans (by kernel_rfl)
@[go_sem] noncomputable def R_steadfastlaw23_shown_4 (base : Nat) (s : St) (v3 v5 : V) : Option (Ex × Env × St) :=
  obind (ldv s 30 v5) fun x0 =>
  obind (rf D f_reach_From [x0, v3] s) fun x1 =>
  let x2 : V := .ptr (St.fresh x1.2 false) [] 32; let s2 : St := St.new x1.2 false (.agg 32 (List.replicate 49 (.bool false)))
  obind (stv base s2 32 x1.1 x2) fun s3 =>
  some (.normal, [(5, v5), (6, x2)], s3)
@[go_sem] theorem rc_steadfastlaw23_shown_4 {base : Nat} {ρ : Env} {s : St} : rc D base (.reg (some [5, 6]) o_steadfastlaw23_shown_4) ρ s = R_steadfastlaw23_shown_4 base s (get ρ 3) (get ρ 5) := rc_reg_O.trans (by kernel_rfl)
@[go_sem] noncomputable def R_steadfastlaw23_shown_5 (_base : Nat) (s : St) (v5 v6 : V) : Option (Ex × Env × St) :=
  obind (iadv 32 49 0 v6 (.int .i64 0)) fun x0 =>
  obind (ldv s 0 x0) fun x1 =>
  oguard x1 true (
    obind (iadv 32 49 0 v6 (.int .i64 1)) fun x2 =>
    obind (ldv s 0 x2) fun x3 =>
    oguard x3 true (
      obind (iadv 32 49 0 v6 (.int .i64 2)) fun x4 =>
      obind (ldv s 0 x4) fun x5 =>
      obind (vun .not x5) fun x6 =>
      oguard x6 true (
        obind (ldv s 30 v5) fun x7 =>
        obind (rf D f_reach_From [x7, (.int .u64 0)] s) fun x8 =>
        obind (setParts (List.replicate 49 (.bool false)) []) fun x9 =>
        obind (eqv false 32 x8.1 (.agg 32 x9)) fun x10 =>
        some (.normal, [(0, x10)], x8.2)) (
        some (.normal, [(0, (.bool false))], s)) (
        none)) (
      some (.normal, [(0, (.bool false))], s)) (
      none)) (
    some (.normal, [(0, (.bool false))], s)) (
    none)
@[go_sem] theorem rc_steadfastlaw23_shown_5 {base : Nat} {ρ : Env} {s : St} : rc D base (.reg (some [0]) o_steadfastlaw23_shown_5) ρ s = R_steadfastlaw23_shown_5 base s (get ρ 5) (get ρ 6) := rc_reg_O.trans (by kernel_rfl)

@[go_sem] noncomputable def R_steadfastlaw23_world_0 (_base : Nat) (s : St) (v0 : V) : Option (Ex × Env × St) :=
  let x0 : V := .ptr (St.fresh s false) [] 30; let s0 : St := St.new s false (.agg 30 (List.replicate 49 (.agg 26 [(.int .i64 0), (.int .i64 0), (.agg 24 (List.replicate 8 (.int .u64 0)))])))
  some (.normal, [(0, v0), (2, x0)], s0)
@[go_sem] theorem rc_steadfastlaw23_world_0 {base : Nat} {ρ : Env} {s : St} : rc D base (.reg (some [0, 2]) o_steadfastlaw23_world_0) ρ s = R_steadfastlaw23_world_0 base s (get ρ 0) := rc_reg_O.trans (by kernel_rfl)
@[go_sem] noncomputable def R_steadfastlaw23_world_1 (base : Nat) (s : St) (v0 v2 : V) : Option (Ex × Env × St) :=
  obind (setParts (List.replicate 49 (.agg 26 [(.int .i64 0), (.int .i64 0), (.agg 24 (List.replicate 8 (.int .u64 0)))])) []) fun x0 =>
  let x1 : V := .ptr (St.fresh s false) [] 30; let s1 : St := St.new s false (.agg 30 (List.replicate 49 (.agg 26 [(.int .i64 0), (.int .i64 0), (.agg 24 (List.replicate 8 (.int .u64 0)))])))
  obind (stv base s1 30 (.agg 30 x0) x1) fun s2 =>
  some (.normal, [(0, v0), (2, v2), (3, x1)], s2)
@[go_sem] theorem rc_steadfastlaw23_world_1 {base : Nat} {ρ : Env} {s : St} : rc D base (.reg (some [0, 2, 3]) o_steadfastlaw23_world_1) ρ s = R_steadfastlaw23_world_1 base s (get ρ 0) (get ρ 2) := rc_reg_O.trans (by kernel_rfl)
@[go_sem] noncomputable def R_steadfastlaw23_world_2 (_base : Nat) (s : St) (v0 v2 v3 : V) : Option (Ex × Env × St) :=
  some (.normal, [(0, v0), (2, v2), (3, v3), (4, (.int .i64 0))], s)
@[go_sem] theorem rc_steadfastlaw23_world_2 {base : Nat} {ρ : Env} {s : St} : rc D base (.reg (some [0, 2, 3, 4]) o_steadfastlaw23_world_2) ρ s = R_steadfastlaw23_world_2 base s (get ρ 0) (get ρ 2) (get ρ 3) := rc_reg_O.trans (by kernel_rfl)
@[go_sem] noncomputable def R_steadfastlaw23_world_3 (_base : Nat) (s : St) (v0 v2 v3 v4 : V) : Option (Ex × Env × St) :=
  obind (V.slen false v0) fun x0 =>
  obind (vbin .lss v4 (.int .i64 x0)) fun x1 =>
  oguard x1 true (
    obind (vbin .lss v4 (.int .i64 49)) fun x2 =>
    some (.normal, [(0, v0), (2, v2), (3, v3), (4, v4), (15, x2)], s)) (
    some (.normal, [(0, v0), (2, v2), (3, v3), (4, v4), (15, (.bool false))], s)) (
    none)
@[go_sem] theorem rc_steadfastlaw23_world_3 {base : Nat} {ρ : Env} {s : St} : rc D base (.reg (some [0, 2, 3, 4, 15]) o_steadfastlaw23_world_3) ρ s = R_steadfastlaw23_world_3 base s (get ρ 0) (get ρ 2) (get ρ 3) (get ρ 4) := rc_reg_O.trans (by kernel_rfl)
@[go_sem] noncomputable def R_steadfastlaw23_world_4 (_base : Nat) (s : St) (v0 v2 v3 v4 : V) : Option (Ex × Env × St) :=
  obind (sadv 26 v0 v4) fun x0 =>
  obind (fadv 26 0 10 x0) fun x1 =>
  obind (ldv s 10 x1) fun x2 =>
  obind (vbin .rem x2 (.int .i64 5)) fun x3 =>
  some (.normal, [(0, v0), (2, v2), (3, v3), (4, v4), (5, x3)], s)
@[go_sem] theorem rc_steadfastlaw23_world_4 {base : Nat} {ρ : Env} {s : St} : rc D base (.reg (some [0, 2, 3, 4, 5]) o_steadfastlaw23_world_4) ρ s = R_steadfastlaw23_world_4 base s (get ρ 0) (get ρ 2) (get ρ 3) (get ρ 4) := rc_reg_O.trans (by kernel_rfl)
@[go_sem] noncomputable def R_steadfastlaw23_world_5 (_base : Nat) (s : St) (v0 v2 v3 v4 v5 : V) : Option (Ex × Env × St) :=
  obind (vbin .lss v5 (.int .i64 0)) fun x0 =>
  some (.normal, [(0, v0), (2, v2), (3, v3), (4, v4), (5, v5), (25, x0)], s)
@[go_sem] theorem rc_steadfastlaw23_world_5 {base : Nat} {ρ : Env} {s : St} : rc D base (.reg (some [0, 2, 3, 4, 5, 25]) o_steadfastlaw23_world_5) ρ s = R_steadfastlaw23_world_5 base s (get ρ 0) (get ρ 2) (get ρ 3) (get ρ 4) (get ρ 5) := rc_reg_O.trans (by kernel_rfl)
@[go_sem] noncomputable def R_steadfastlaw23_world_6 (_base : Nat) (s : St) (v0 v2 v3 v4 v5 : V) : Option (Ex × Env × St) :=
  obind (vun .neg v5) fun x0 =>
  some (.normal, [(0, v0), (2, v2), (3, v3), (4, v4), (5, x0)], s)
@[go_sem] theorem rc_steadfastlaw23_world_6 {base : Nat} {ρ : Env} {s : St} : rc D base (.reg (some [0, 2, 3, 4, 5]) o_steadfastlaw23_world_6) ρ s = R_steadfastlaw23_world_6 base s (get ρ 0) (get ρ 2) (get ρ 3) (get ρ 4) (get ρ 5) := rc_reg_O.trans (by kernel_rfl)
@[go_sem] noncomputable def R_steadfastlaw23_world_7 (_base : Nat) (s : St) (v0 v2 v3 v4 v5 : V) : Option (Ex × Env × St) :=
  obind (sadv 26 v0 v4) fun x0 =>
  obind (fadv 26 1 10 x0) fun x1 =>
  obind (ldv s 10 x1) fun x2 =>
  obind (vbin .rem x2 (.int .i64 100)) fun x3 =>
  some (.normal, [(0, v0), (2, v2), (3, v3), (4, v4), (5, v5), (6, x3)], s)
@[go_sem] theorem rc_steadfastlaw23_world_7 {base : Nat} {ρ : Env} {s : St} : rc D base (.reg (some [0, 2, 3, 4, 5, 6]) o_steadfastlaw23_world_7) ρ s = R_steadfastlaw23_world_7 base s (get ρ 0) (get ρ 2) (get ρ 3) (get ρ 4) (get ρ 5) := rc_reg_O.trans (by kernel_rfl)
@[go_sem] noncomputable def R_steadfastlaw23_world_8 (_base : Nat) (s : St) (v0 v2 v3 v4 v5 v6 : V) : Option (Ex × Env × St) :=
  obind (vbin .lss v6 (.int .i64 0)) fun x0 =>
  some (.normal, [(0, v0), (2, v2), (3, v3), (4, v4), (5, v5), (6, v6), (35, x0)], s)
@[go_sem] theorem rc_steadfastlaw23_world_8 {base : Nat} {ρ : Env} {s : St} : rc D base (.reg (some [0, 2, 3, 4, 5, 6, 35]) o_steadfastlaw23_world_8) ρ s = R_steadfastlaw23_world_8 base s (get ρ 0) (get ρ 2) (get ρ 3) (get ρ 4) (get ρ 5) (get ρ 6) := rc_reg_O.trans (by kernel_rfl)
@[go_sem] noncomputable def R_steadfastlaw23_world_9 (_base : Nat) (s : St) (v0 v2 v3 v4 v5 v6 : V) : Option (Ex × Env × St) :=
  obind (vun .neg v6) fun x0 =>
  some (.normal, [(0, v0), (2, v2), (3, v3), (4, v4), (5, v5), (6, x0)], s)
@[go_sem] theorem rc_steadfastlaw23_world_9 {base : Nat} {ρ : Env} {s : St} : rc D base (.reg (some [0, 2, 3, 4, 5, 6]) o_steadfastlaw23_world_9) ρ s = R_steadfastlaw23_world_9 base s (get ρ 0) (get ρ 2) (get ρ 3) (get ρ 4) (get ρ 5) (get ρ 6) := rc_reg_O.trans (by kernel_rfl)
@[go_sem] noncomputable def R_steadfastlaw23_world_10 (_base : Nat) (s : St) (v0 v2 v3 v4 v5 v6 : V) : Option (Ex × Env × St) :=
  obind (vbin .neq v5 (.int .i64 0)) fun x0 =>
  some (.normal, [(0, v0), (2, v2), (3, v3), (4, v4), (5, v5), (6, v6), (39, x0)], s)
@[go_sem] theorem rc_steadfastlaw23_world_10 {base : Nat} {ρ : Env} {s : St} : rc D base (.reg (some [0, 2, 3, 4, 5, 6, 39]) o_steadfastlaw23_world_10) ρ s = R_steadfastlaw23_world_10 base s (get ρ 0) (get ρ 2) (get ρ 3) (get ρ 4) (get ρ 5) (get ρ 6) := rc_reg_O.trans (by kernel_rfl)
@[go_sem] noncomputable def R_steadfastlaw23_world_11 (base : Nat) (s : St) (v0 v2 v3 v4 v5 v6 : V) : Option (Ex × Env × St) :=
  obind (sadv 26 v0 v4) fun x0 =>
  obind (fadv 26 2 24 x0) fun x1 =>
  obind (ldv s 24 x1) fun x2 =>
  obind (setParts [(.int .i64 0), (.int .i64 0), (.agg 24 (List.replicate 8 (.int .u64 0)))] [(0, v5), (1, v6), (2, x2)]) fun x3 =>
  obind (iadv 30 49 26 v3 v4) fun x4 =>
  obind (stv base s 26 (.agg 26 x3) x4) fun s5 =>
  some (.normal, [(0, v0), (2, v2), (3, v3), (4, v4)], s5)
@[go_sem] theorem rc_steadfastlaw23_world_11 {base : Nat} {ρ : Env} {s : St} : rc D base (.reg (some [0, 2, 3, 4]) o_steadfastlaw23_world_11) ρ s = R_steadfastlaw23_world_11 base s (get ρ 0) (get ρ 2) (get ρ 3) (get ρ 4) (get ρ 5) (get ρ 6) := rc_reg_O.trans (by kernel_rfl)
@[go_sem] noncomputable def R_steadfastlaw23_world_12 (_base : Nat) (s : St) (v0 v2 v3 v4 : V) : Option (Ex × Env × St) :=
  obind (vbin .add v4 (.int .i64 1)) fun x0 =>
  some (.normal, [(0, v0), (2, v2), (3, v3), (4, x0)], s)
@[go_sem] theorem rc_steadfastlaw23_world_12 {base : Nat} {ρ : Env} {s : St} : rc D base (.reg (some [0, 2, 3, 4]) o_steadfastlaw23_world_12) ρ s = R_steadfastlaw23_world_12 base s (get ρ 0) (get ρ 2) (get ρ 3) (get ρ 4) := rc_reg_O.trans (by kernel_rfl)
@[go_sem] noncomputable def R_steadfastlaw23_world_13 (base : Nat) (s : St) (v2 v3 : V) : Option (Ex × Env × St) :=
  obind (ldv s 30 v3) fun x0 =>
  obind (stv base s 30 x0 v2) fun s1 =>
  some (.normal, [(2, v2)], s1)
@[go_sem] theorem rc_steadfastlaw23_world_13 {base : Nat} {ρ : Env} {s : St} : rc D base (.reg (some [2]) o_steadfastlaw23_world_13) ρ s = R_steadfastlaw23_world_13 base s (get ρ 2) (get ρ 3) := rc_reg_O.trans (by kernel_rfl)

@[go_sem] noncomputable def R_reach_From_0 (_base : Nat) (s : St) (v0 v1 : V) : Option (Ex × Env × St) :=
  if V.ok v0 && mayNew false v0 then let x0 : V := .ptr (St.fresh s false) [] (V.tag v0); let s0 : St := St.new s false v0
  let x1 : V := .ptr (St.fresh s0 false) [] 32; let s1 : St := St.new s0 false (.agg 32 (List.replicate 49 (.bool false)))
  some (.normal, [(1, v1), (2, x0), (4, x1)], s1)
  else none
@[go_sem] theorem rc_reach_From_0 {base : Nat} {ρ : Env} {s : St} : rc D base (.reg (some [1, 2, 4]) o_reach_From_0) ρ s = R_reach_From_0 base s (get ρ 0) (get ρ 1) := rc_reg_O.trans (by kernel_rfl)
@[go_sem] noncomputable def R_reach_From_1 (_base : Nat) (s : St) (v1 v2 v4 : V) : Option (Ex × Env × St) :=
  let x0 : V := .ptr (St.fresh s false) [] 32; let s0 : St := St.new s false (.agg 32 (List.replicate 49 (.bool false)))
  some (.normal, [(1, v1), (2, v2), (4, v4), (5, x0)], s0)
@[go_sem] theorem rc_reach_From_1 {base : Nat} {ρ : Env} {s : St} : rc D base (.reg (some [1, 2, 4, 5]) o_reach_From_1) ρ s = R_reach_From_1 base s (get ρ 1) (get ρ 2) (get ρ 4) := rc_reg_O.trans (by kernel_rfl)
@[go_sem] noncomputable def R_reach_From_2 (_base : Nat) (s : St) (v1 v2 v4 v5 : V) : Option (Ex × Env × St) :=
  let x0 : V := .ptr (St.fresh s false) [] 1; let s0 : St := St.new s false .nilf
  some (.normal, [(1, v1), (2, v2), (4, v4), (5, v5), (6, x0)], s0)
@[go_sem] theorem rc_reach_From_2 {base : Nat} {ρ : Env} {s : St} : rc D base (.reg (some [1, 2, 4, 5, 6]) o_reach_From_2) ρ s = R_reach_From_2 base s (get ρ 1) (get ρ 2) (get ρ 4) (get ρ 5) := rc_reg_O.trans (by kernel_rfl)
@[go_sem] noncomputable def R_reach_From_3 (base : Nat) (s : St) (v1 v2 v4 v5 v6 : V) : Option (Ex × Env × St) :=
  obind (mkfnv f_reach_From_1 [v2, v5, v6]) fun x0 =>
  obind (stv base s 1 x0 v6) fun s1 =>
  some (.normal, [(1, v1), (4, v4), (5, v5), (6, v6)], s1)
@[go_sem] theorem rc_reach_From_3 {base : Nat} {ρ : Env} {s : St} : rc D base (.reg (some [1, 4, 5, 6]) o_reach_From_3) ρ s = R_reach_From_3 base s (get ρ 1) (get ρ 2) (get ρ 4) (get ρ 5) (get ρ 6) := rc_reg_O.trans (by kernel_rfl)
@[go_sem] noncomputable def R_reach_From_4 (_base : Nat) (s : St) (v1 v4 v5 v6 : V) : Option (Ex × Env × St) :=
  obind (ldv s 1 v6) fun x0 =>
  obind (callv D [v1] s x0) fun x1 =>
  some (.normal, [(4, v4), (5, v5)], x1.2)
@[go_sem] theorem rc_reach_From_4 {base : Nat} {ρ : Env} {s : St} : rc D base (.reg (some [4, 5]) o_reach_From_4) ρ s = R_reach_From_4 base s (get ρ 1) (get ρ 4) (get ρ 5) (get ρ 6) := rc_reg_O.trans (by kernel_rfl)
@[go_sem] noncomputable def R_reach_From_5 (base : Nat) (s : St) (v4 v5 : V) : Option (Ex × Env × St) :=
  obind (ldv s 32 v5) fun x0 =>
  obind (stv base s 32 x0 v4) fun s1 =>
  some (.normal, [(4, v4)], s1)
@[go_sem] theorem rc_reach_From_5 {base : Nat} {ρ : Env} {s : St} : rc D base (.reg (some [4]) o_reach_From_5) ρ s = R_reach_From_5 base s (get ρ 4) (get ρ 5) := rc_reg_O.trans (by kernel_rfl)

@[go_sem] noncomputable def R_reach_Names_0 (_base : Nat) (s : St) (v0 v1 : V) : Option (Ex × Env × St) :=
  if V.ok v0 && mayNew false v0 then let x0 : V := .ptr (St.fresh s false) [] (V.tag v0); let s0 : St := St.new s false v0
  some (.normal, [(1, v1), (2, x0)], s0)
  else none
@[go_sem] theorem rc_reach_Names_0 {base : Nat} {ρ : Env} {s : St} : rc D base (.reg (some [1, 2]) o_reach_Names_0) ρ s = R_reach_Names_0 base s (get ρ 0) (get ρ 1) := rc_reg_O.trans (by kernel_rfl)
@[go_sem] noncomputable def R_reach_Names_1 (base : Nat) (s : St) (v1 v2 : V) : Option (Ex × Env × St) :=
  obind (rf D f_caps_Of [v1] s) fun x0 =>
  obind (extv 0 x0.1) fun x1 =>
  obind (extv 1 x0.1) fun x2 =>
  let x3 : V := .ptr (St.fresh x0.2 false) [] 40; let s3 : St := St.new x0.2 false (.agg 40 [(.int .i64 0), (.int .i64 0), (.int .i64 0), (.int .i64 0), (.int .i64 0)])
  obind (stv base s3 40 x1 x3) fun s4 =>
  some (.normal, [(1, v1), (2, v2), (6, x3), (7, x2)], s4)
@[go_sem] theorem rc_reach_Names_1 {base : Nat} {ρ : Env} {s : St} : rc D base (.reg (some [1, 2, 6, 7]) o_reach_Names_1) ρ s = R_reach_Names_1 base s (get ρ 1) (get ρ 2) := rc_reg_O.trans (by kernel_rfl)
@[go_sem] noncomputable def R_reach_Names_2 (_base : Nat) (s : St) (v1 v2 v6 v7 : V) : Option (Ex × Env × St) :=
  obind (vun .not v7) fun x0 =>
  some (.normal, [(1, v1), (2, v2), (6, v6), (15, x0)], s)
@[go_sem] theorem rc_reach_Names_2 {base : Nat} {ρ : Env} {s : St} : rc D base (.reg (some [1, 2, 6, 15]) o_reach_Names_2) ρ s = R_reach_Names_2 base s (get ρ 1) (get ρ 2) (get ρ 6) (get ρ 7) := rc_reg_O.trans (by kernel_rfl)
@[go_sem] noncomputable def R_reach_Names_3 (_base : Nat) (s : St) : Option (Ex × Env × St) :=
  some (.normal, [(4, (.int .i64 0)), (5, (.bool false))], s)
@[go_sem] theorem rc_reach_Names_3 {base : Nat} {ρ : Env} {s : St} : rc D base (.reg (some [4, 5]) o_reach_Names_3) ρ s = R_reach_Names_3 base s := rc_reg_O.trans (by kernel_rfl)
@[go_sem] noncomputable def R_reach_Names_4 (base : Nat) (s : St) (v1 v2 v6 : V) : Option (Ex × Env × St) :=
  obind (fadv 40 2 10 v6) fun x0 =>
  obind (ldv s 10 x0) fun x1 =>
  obind (iadv 30 49 26 v2 x1) fun x2 =>
  obind (ldv s 26 x2) fun x3 =>
  let x4 : V := .ptr (St.fresh s false) [] 26; let s4 : St := St.new s false (.agg 26 [(.int .i64 0), (.int .i64 0), (.agg 24 (List.replicate 8 (.int .u64 0)))])
  obind (stv base s4 26 x3 x4) fun s5 =>
  some (.normal, [(1, v1), (6, v6), (8, x4)], s5)
@[go_sem] theorem rc_reach_Names_4 {base : Nat} {ρ : Env} {s : St} : rc D base (.reg (some [1, 6, 8]) o_reach_Names_4) ρ s = R_reach_Names_4 base s (get ρ 1) (get ρ 2) (get ρ 6) := rc_reg_O.trans (by kernel_rfl)
@[go_sem] noncomputable def R_reach_Names_5 (_base : Nat) (s : St) (v1 v6 v8 : V) : Option (Ex × Env × St) :=
  obind (fadv 26 0 10 v8) fun x0 =>
  obind (ldv s 10 x0) fun x1 =>
  obind (fadv 26 1 10 v8) fun x2 =>
  obind (ldv s 10 x2) fun x3 =>
  obind (setParts [(.int .i64 0), (.int .i64 0), (.int .i64 0)] [(0, x1), (1, x3)]) fun x4 =>
  obind (fadv 40 2 10 v6) fun x5 =>
  obind (ldv s 10 x5) fun x6 =>
  obind (rf D f_entry_Names [(.agg 42 x4), x6, v1] s) fun x7 =>
  obind (vbin .neq x7.1 (.int .i64 0)) fun x8 =>
  some (.normal, [(6, v6), (29, x8)], x7.2)
@[go_sem] theorem rc_reach_Names_5 {base : Nat} {ρ : Env} {s : St} : rc D base (.reg (some [6, 29]) o_reach_Names_5) ρ s = R_reach_Names_5 base s (get ρ 1) (get ρ 6) (get ρ 8) := rc_reg_O.trans (by kernel_rfl)
@[go_sem] noncomputable def R_reach_Names_6 (_base : Nat) (s : St) : Option (Ex × Env × St) :=
  some (.normal, [(4, (.int .i64 0)), (5, (.bool false))], s)
@[go_sem] theorem rc_reach_Names_6 {base : Nat} {ρ : Env} {s : St} : rc D base (.reg (some [4, 5]) o_reach_Names_6) ρ s = R_reach_Names_6 base s := rc_reg_O.trans (by kernel_rfl)
@[go_sem] noncomputable def R_reach_Names_7 (_base : Nat) (s : St) (v6 : V) : Option (Ex × Env × St) :=
  obind (fadv 40 2 10 v6) fun x0 =>
  obind (ldv s 10 x0) fun x1 =>
  some (.normal, [(4, x1), (5, (.bool true))], s)
@[go_sem] theorem rc_reach_Names_7 {base : Nat} {ρ : Env} {s : St} : rc D base (.reg (some [4, 5]) o_reach_Names_7) ρ s = R_reach_Names_7 base s (get ρ 6) := rc_reg_O.trans (by kernel_rfl)

@[go_sem] noncomputable def R_steadfastref07_Word_0 (_base : Nat) (s : St) (v0 : V) : Option (Ex × Env × St) :=
  if V.ok v0 && mayNew false v0 then let x0 : V := .ptr (St.fresh s false) [] (V.tag v0); let s0 : St := St.new s false v0
  some (.normal, [(1, x0)], s0)
  else none
@[go_sem] theorem rc_steadfastref07_Word_0 {base : Nat} {ρ : Env} {s : St} : rc D base (.reg (some [1]) o_steadfastref07_Word_0) ρ s = R_steadfastref07_Word_0 base s (get ρ 0) := rc_reg_O.trans (by kernel_rfl)
@[go_sem] noncomputable def R_steadfastref07_Word_1 (_base : Nat) (s : St) (v1 : V) : Option (Ex × Env × St) :=
  obind (fadv 40 0 10 v1) fun x0 =>
  obind (ldv s 10 x0) fun x1 =>
  obind (vbin .lss x1 (.int .i64 1)) fun x2 =>
  oguard x2 false (
    obind (fadv 40 0 10 v1) fun x3 =>
    obind (ldv s 10 x3) fun x4 =>
    obind (vbin .gtr x4 (.int .i64 6)) fun x5 =>
    oguard x5 false (
      obind (fadv 40 1 10 v1) fun x6 =>
      obind (ldv s 10 x6) fun x7 =>
      obind (vbin .lss x7 (.int .i64 0)) fun x8 =>
      oguard x8 false (
        obind (fadv 40 1 10 v1) fun x9 =>
        obind (ldv s 10 x9) fun x10 =>
        obind (vbin .gtr x10 (.int .i64 15)) fun x11 =>
        oguard x11 false (
          obind (fadv 40 2 10 v1) fun x12 =>
          obind (ldv s 10 x12) fun x13 =>
          obind (vbin .lss x13 (.int .i64 0)) fun x14 =>
          oguard x14 false (
            obind (fadv 40 2 10 v1) fun x15 =>
            obind (ldv s 10 x15) fun x16 =>
            obind (vbin .geq x16 (.int .i64 49)) fun x17 =>
            oguard x17 false (
              obind (fadv 40 3 10 v1) fun x18 =>
              obind (ldv s 10 x18) fun x19 =>
              obind (vbin .lss x19 (.int .i64 0)) fun x20 =>
              oguard x20 false (
                obind (fadv 40 3 10 v1) fun x21 =>
                obind (ldv s 10 x21) fun x22 =>
                obind (vbin .gtr x22 (.int .i64 16777215)) fun x23 =>
                oguard x23 false (
                  obind (fadv 40 4 10 v1) fun x24 =>
                  obind (ldv s 10 x24) fun x25 =>
                  obind (vbin .lss x25 (.int .i64 0)) fun x26 =>
                  oguard x26 false (
                    obind (fadv 40 4 10 v1) fun x27 =>
                    obind (ldv s 10 x27) fun x28 =>
                    obind (vbin .gtr x28 (.int .i64 65535)) fun x29 =>
                    some (.normal, [(1, v1), (53, x29)], s)) (
                    some (.normal, [(1, v1), (53, (.bool true))], s)) (
                    none)) (
                  some (.normal, [(1, v1), (53, (.bool true))], s)) (
                  none)) (
                some (.normal, [(1, v1), (53, (.bool true))], s)) (
                none)) (
              some (.normal, [(1, v1), (53, (.bool true))], s)) (
              none)) (
            some (.normal, [(1, v1), (53, (.bool true))], s)) (
            none)) (
          some (.normal, [(1, v1), (53, (.bool true))], s)) (
          none)) (
        some (.normal, [(1, v1), (53, (.bool true))], s)) (
        none)) (
      some (.normal, [(1, v1), (53, (.bool true))], s)) (
      none)) (
    some (.normal, [(1, v1), (53, (.bool true))], s)) (
    none)
@[go_sem] theorem rc_steadfastref07_Word_1 {base : Nat} {ρ : Env} {s : St} : rc D base (.reg (some [1, 53]) o_steadfastref07_Word_1) ρ s = R_steadfastref07_Word_1 base s (get ρ 1) := rc_reg_O.trans (by kernel_rfl)
@[go_sem] noncomputable def R_steadfastref07_Word_2 (_base : Nat) (s : St) : Option (Ex × Env × St) :=
  some (.normal, [(2, (.int .u64 0)), (3, (.int .i64 1))], s)
@[go_sem] theorem rc_steadfastref07_Word_2 {base : Nat} {ρ : Env} {s : St} : rc D base (.reg (some [2, 3]) o_steadfastref07_Word_2) ρ s = R_steadfastref07_Word_2 base s := rc_reg_O.trans (by kernel_rfl)
@[go_sem] noncomputable def R_steadfastref07_Word_3 (_base : Nat) (s : St) (v1 : V) : Option (Ex × Env × St) :=
  obind (fadv 40 0 10 v1) fun x0 =>
  obind (ldv s 10 x0) fun x1 =>
  obind (vbin .eql x1 (.int .i64 5)) fun x2 =>
  oguard x2 false (
    obind (fadv 40 0 10 v1) fun x3 =>
    obind (ldv s 10 x3) fun x4 =>
    obind (vbin .eql x4 (.int .i64 6)) fun x5 =>
    oguard x5 true (
      obind (fadv 40 2 10 v1) fun x6 =>
      obind (ldv s 10 x6) fun x7 =>
      obind (vbin .neq x7 (.int .i64 0)) fun x8 =>
      oguard x8 false (
        obind (fadv 40 3 10 v1) fun x9 =>
        obind (ldv s 10 x9) fun x10 =>
        obind (vbin .neq x10 (.int .i64 0)) fun x11 =>
        some (.normal, [(1, v1), (71, x11)], s)) (
        some (.normal, [(1, v1), (71, (.bool true))], s)) (
        none)) (
      some (.normal, [(1, v1), (71, (.bool false))], s)) (
      none)) (
    obind (fadv 40 2 10 v1) fun x3 =>
    obind (ldv s 10 x3) fun x4 =>
    obind (vbin .neq x4 (.int .i64 0)) fun x5 =>
    oguard x5 false (
      obind (fadv 40 3 10 v1) fun x6 =>
      obind (ldv s 10 x6) fun x7 =>
      obind (vbin .neq x7 (.int .i64 0)) fun x8 =>
      some (.normal, [(1, v1), (71, x8)], s)) (
      some (.normal, [(1, v1), (71, (.bool true))], s)) (
      none)) (
    none)
@[go_sem] theorem rc_steadfastref07_Word_3 {base : Nat} {ρ : Env} {s : St} : rc D base (.reg (some [1, 71]) o_steadfastref07_Word_3) ρ s = R_steadfastref07_Word_3 base s (get ρ 1) := rc_reg_O.trans (by kernel_rfl)
@[go_sem] noncomputable def R_steadfastref07_Word_4 (_base : Nat) (s : St) : Option (Ex × Env × St) :=
  some (.normal, [(2, (.int .u64 0)), (3, (.int .i64 1))], s)
@[go_sem] theorem rc_steadfastref07_Word_4 {base : Nat} {ρ : Env} {s : St} : rc D base (.reg (some [2, 3]) o_steadfastref07_Word_4) ρ s = R_steadfastref07_Word_4 base s := rc_reg_O.trans (by kernel_rfl)
@[go_sem] noncomputable def R_steadfastref07_Word_5 (_base : Nat) (s : St) (v1 : V) : Option (Ex × Env × St) :=
  obind (fadv 40 0 10 v1) fun x0 =>
  obind (ldv s 10 x0) fun x1 =>
  obind (convv .u64 x1) fun x2 =>
  obind (rf D f_steadfastref01_With [(.int .u64 0), (.int .i64 0), (.int .i64 4), x2] s) fun x3 =>
  obind (extv 0 x3.1) fun x4 =>
  obind (extv 1 x3.1) fun _x5 =>
  some (.normal, [(1, v1), (4, x4)], x3.2)
@[go_sem] theorem rc_steadfastref07_Word_5 {base : Nat} {ρ : Env} {s : St} : rc D base (.reg (some [1, 4]) o_steadfastref07_Word_5) ρ s = R_steadfastref07_Word_5 base s (get ρ 1) := rc_reg_O.trans (by kernel_rfl)
@[go_sem] noncomputable def R_steadfastref07_Word_6 (_base : Nat) (s : St) (v1 v4 : V) : Option (Ex × Env × St) :=
  obind (fadv 40 1 10 v1) fun x0 =>
  obind (ldv s 10 x0) fun x1 =>
  obind (convv .u64 x1) fun x2 =>
  obind (rf D f_steadfastref01_With [v4, (.int .i64 4), (.int .i64 4), x2] s) fun x3 =>
  obind (extv 0 x3.1) fun x4 =>
  obind (extv 1 x3.1) fun _x5 =>
  some (.normal, [(1, v1), (4, x4)], x3.2)
@[go_sem] theorem rc_steadfastref07_Word_6 {base : Nat} {ρ : Env} {s : St} : rc D base (.reg (some [1, 4]) o_steadfastref07_Word_6) ρ s = R_steadfastref07_Word_6 base s (get ρ 1) (get ρ 4) := rc_reg_O.trans (by kernel_rfl)
@[go_sem] noncomputable def R_steadfastref07_Word_7 (_base : Nat) (s : St) (v1 v4 : V) : Option (Ex × Env × St) :=
  obind (fadv 40 2 10 v1) fun x0 =>
  obind (ldv s 10 x0) fun x1 =>
  obind (convv .u64 x1) fun x2 =>
  obind (rf D f_steadfastref01_With [v4, (.int .i64 8), (.int .i64 16), x2] s) fun x3 =>
  obind (extv 0 x3.1) fun x4 =>
  obind (extv 1 x3.1) fun _x5 =>
  some (.normal, [(1, v1), (4, x4)], x3.2)
@[go_sem] theorem rc_steadfastref07_Word_7 {base : Nat} {ρ : Env} {s : St} : rc D base (.reg (some [1, 4]) o_steadfastref07_Word_7) ρ s = R_steadfastref07_Word_7 base s (get ρ 1) (get ρ 4) := rc_reg_O.trans (by kernel_rfl)
@[go_sem] noncomputable def R_steadfastref07_Word_8 (_base : Nat) (s : St) (v1 v4 : V) : Option (Ex × Env × St) :=
  obind (fadv 40 3 10 v1) fun x0 =>
  obind (ldv s 10 x0) fun x1 =>
  obind (convv .u64 x1) fun x2 =>
  obind (rf D f_steadfastref01_With [v4, (.int .i64 24), (.int .i64 24), x2] s) fun x3 =>
  obind (extv 0 x3.1) fun x4 =>
  obind (extv 1 x3.1) fun _x5 =>
  some (.normal, [(1, v1), (4, x4)], x3.2)
@[go_sem] theorem rc_steadfastref07_Word_8 {base : Nat} {ρ : Env} {s : St} : rc D base (.reg (some [1, 4]) o_steadfastref07_Word_8) ρ s = R_steadfastref07_Word_8 base s (get ρ 1) (get ρ 4) := rc_reg_O.trans (by kernel_rfl)
@[go_sem] noncomputable def R_steadfastref07_Word_9 (_base : Nat) (s : St) (v1 v4 : V) : Option (Ex × Env × St) :=
  obind (fadv 40 4 10 v1) fun x0 =>
  obind (ldv s 10 x0) fun x1 =>
  obind (convv .u64 x1) fun x2 =>
  obind (rf D f_steadfastref01_With [v4, (.int .i64 48), (.int .i64 16), x2] s) fun x3 =>
  obind (extv 0 x3.1) fun x4 =>
  obind (extv 1 x3.1) fun _x5 =>
  some (.normal, [(4, x4)], x3.2)
@[go_sem] theorem rc_steadfastref07_Word_9 {base : Nat} {ρ : Env} {s : St} : rc D base (.reg (some [4]) o_steadfastref07_Word_9) ρ s = R_steadfastref07_Word_9 base s (get ρ 1) (get ρ 4) := rc_reg_O.trans (by kernel_rfl)
@[go_sem] noncomputable def R_steadfastref07_Word_10 (_base : Nat) (s : St) (v4 : V) : Option (Ex × Env × St) :=
  some (.normal, [(2, v4), (3, (.int .i64 0))], s)
@[go_sem] theorem rc_steadfastref07_Word_10 {base : Nat} {ρ : Env} {s : St} : rc D base (.reg (some [2, 3]) o_steadfastref07_Word_10) ρ s = R_steadfastref07_Word_10 base s (get ρ 4) := rc_reg_O.trans (by kernel_rfl)

@[go_sem] noncomputable def R_reach_From_1_0 (_base : Nat) (s : St) (v0 v1 v2 v3 : V) : Option (Ex × Env × St) :=
  obind (ldv s 30 v1) fun x0 =>
  obind (rf D f_reach_Names [x0, v0] s) fun x1 =>
  obind (extv 0 x1.1) fun x2 =>
  obind (extv 1 x1.1) fun x3 =>
  some (.normal, [(1, v1), (2, v2), (3, v3), (5, x2), (6, x3)], x1.2)
@[go_sem] theorem rc_reach_From_1_0 {base : Nat} {ρ : Env} {s : St} : rc D base (.reg (some [1, 2, 3, 5, 6]) o_reach_From_1_0) ρ s = R_reach_From_1_0 base s (get ρ 0) (get ρ 1) (get ρ 2) (get ρ 3) := rc_reg_O.trans (by kernel_rfl)
@[go_sem] noncomputable def R_reach_From_1_1 (_base : Nat) (s : St) (v1 v2 v3 v5 v6 : V) : Option (Ex × Env × St) :=
  obind (vun .not v6) fun x0 =>
  oguard x0 false (
    obind (iadv 32 49 0 v2 v5) fun x1 =>
    obind (ldv s 0 x1) fun x2 =>
    some (.normal, [(1, v1), (2, v2), (3, v3), (5, v5), (21, x2)], s)) (
    some (.normal, [(1, v1), (2, v2), (3, v3), (5, v5), (21, (.bool true))], s)) (
    none)
@[go_sem] theorem rc_reach_From_1_1 {base : Nat} {ρ : Env} {s : St} : rc D base (.reg (some [1, 2, 3, 5, 21]) o_reach_From_1_1) ρ s = R_reach_From_1_1 base s (get ρ 1) (get ρ 2) (get ρ 3) (get ρ 5) (get ρ 6) := rc_reg_O.trans (by kernel_rfl)
@[go_sem] noncomputable def R_reach_From_1_2 (base : Nat) (s : St) (v1 v2 v3 v5 : V) : Option (Ex × Env × St) :=
  obind (iadv 32 49 0 v2 v5) fun x0 =>
  obind (stv base s 0 (.bool true) x0) fun s1 =>
  some (.normal, [(1, v1), (3, v3), (5, v5)], s1)
@[go_sem] theorem rc_reach_From_1_2 {base : Nat} {ρ : Env} {s : St} : rc D base (.reg (some [1, 3, 5]) o_reach_From_1_2) ρ s = R_reach_From_1_2 base s (get ρ 1) (get ρ 2) (get ρ 3) (get ρ 5) := rc_reg_O.trans (by kernel_rfl)
@[go_sem] noncomputable def R_reach_From_1_3 (_base : Nat) (s : St) (v1 v3 v5 : V) : Option (Ex × Env × St) :=
  obind (iadv 30 49 26 v1 v5) fun x0 =>
  obind (fadv 26 0 10 x0) fun x1 =>
  obind (ldv s 10 x1) fun x2 =>
  obind (vbin .eql x2 (.int .i64 2)) fun x3 =>
  some (.normal, [(1, v1), (3, v3), (5, v5), (28, x3)], s)
@[go_sem] theorem rc_reach_From_1_3 {base : Nat} {ρ : Env} {s : St} : rc D base (.reg (some [1, 3, 5, 28]) o_reach_From_1_3) ρ s = R_reach_From_1_3 base s (get ρ 1) (get ρ 3) (get ρ 5) := rc_reg_O.trans (by kernel_rfl)
@[go_sem] noncomputable def R_reach_From_1_4 (_base : Nat) (s : St) (v1 v3 v5 : V) : Option (Ex × Env × St) :=
  obind (iadv 30 49 26 v1 v5) fun x0 =>
  obind (fadv 26 2 24 x0) fun x1 =>
  obind (ldv s 24 x1) fun x2 =>
  some (.normal, [(3, v3), (32, x2), (33, (.int .i64 0))], s)
@[go_sem] theorem rc_reach_From_1_4 {base : Nat} {ρ : Env} {s : St} : rc D base (.reg (some [3, 32, 33]) o_reach_From_1_4) ρ s = R_reach_From_1_4 base s (get ρ 1) (get ρ 3) (get ρ 5) := rc_reg_O.trans (by kernel_rfl)
@[go_sem] noncomputable def R_reach_From_1_5 (_base : Nat) (s : St) (v3 v32 v33 : V) : Option (Ex × Env × St) :=
  obind (vbin .lss v33 (.int .i64 8)) fun x0 =>
  some (.normal, [(3, v3), (32, v32), (33, v33), (34, x0)], s)
@[go_sem] theorem rc_reach_From_1_5 {base : Nat} {ρ : Env} {s : St} : rc D base (.reg (some [3, 32, 33, 34]) o_reach_From_1_5) ρ s = R_reach_From_1_5 base s (get ρ 3) (get ρ 32) (get ρ 33) := rc_reg_O.trans (by kernel_rfl)
@[go_sem] noncomputable def R_reach_From_1_6 (_base : Nat) (s : St) (v3 v32 v33 : V) : Option (Ex × Env × St) :=
  obind (idxv 24 8 v32 v33) fun x0 =>
  some (.normal, [(3, v3), (8, x0), (32, v32), (33, v33)], s)
@[go_sem] theorem rc_reach_From_1_6 {base : Nat} {ρ : Env} {s : St} : rc D base (.reg (some [3, 8, 32, 33]) o_reach_From_1_6) ρ s = R_reach_From_1_6 base s (get ρ 3) (get ρ 32) (get ρ 33) := rc_reg_O.trans (by kernel_rfl)
@[go_sem] noncomputable def R_reach_From_1_7 (_base : Nat) (s : St) (v3 v8 v32 v33 : V) : Option (Ex × Env × St) :=
  obind (ldv s 1 v3) fun x0 =>
  obind (callv D [v8] s x0) fun x1 =>
  some (.normal, [(3, v3), (32, v32), (33, v33)], x1.2)
@[go_sem] theorem rc_reach_From_1_7 {base : Nat} {ρ : Env} {s : St} : rc D base (.reg (some [3, 32, 33]) o_reach_From_1_7) ρ s = R_reach_From_1_7 base s (get ρ 3) (get ρ 8) (get ρ 32) (get ρ 33) := rc_reg_O.trans (by kernel_rfl)
@[go_sem] noncomputable def R_reach_From_1_8 (_base : Nat) (s : St) (v3 v32 v33 : V) : Option (Ex × Env × St) :=
  obind (vbin .add v33 (.int .i64 1)) fun x0 =>
  some (.normal, [(3, v3), (32, v32), (33, x0)], s)
@[go_sem] theorem rc_reach_From_1_8 {base : Nat} {ρ : Env} {s : St} : rc D base (.reg (some [3, 32, 33]) o_reach_From_1_8) ρ s = R_reach_From_1_8 base s (get ρ 3) (get ρ 32) (get ρ 33) := rc_reg_O.trans (by kernel_rfl)

@[go_sem] noncomputable def R_caps_Of_0 (_base : Nat) (s : St) (v0 : V) : Option (Ex × Env × St) :=
  let x0 : V := .ptr (St.fresh s false) [] 40; let s0 : St := St.new s false (.agg 40 [(.int .i64 0), (.int .i64 0), (.int .i64 0), (.int .i64 0), (.int .i64 0)])
  some (.normal, [(0, v0), (2, x0)], s0)
@[go_sem] theorem rc_caps_Of_0 {base : Nat} {ρ : Env} {s : St} : rc D base (.reg (some [0, 2]) o_caps_Of_0) ρ s = R_caps_Of_0 base s (get ρ 0) := rc_reg_O.trans (by kernel_rfl)
@[go_sem] noncomputable def R_caps_Of_1 (base : Nat) (s : St) (v0 v2 : V) : Option (Ex × Env × St) :=
  obind (vbin .and v0 (.int .u64 15)) fun x0 =>
  obind (convv .i64 x0) fun x1 =>
  obind (vbin .shr v0 (.int .u64 4)) fun x2 =>
  obind (vbin .and x2 (.int .u64 15)) fun x3 =>
  obind (convv .i64 x3) fun x4 =>
  obind (vbin .shr v0 (.int .u64 8)) fun x5 =>
  obind (vbin .and x5 (.int .u64 65535)) fun x6 =>
  obind (convv .i64 x6) fun x7 =>
  obind (vbin .shr v0 (.int .u64 24)) fun x8 =>
  obind (vbin .and x8 (.int .u64 16777215)) fun x9 =>
  obind (convv .i64 x9) fun x10 =>
  obind (vbin .shr v0 (.int .u64 48)) fun x11 =>
  obind (convv .i64 x11) fun x12 =>
  obind (setParts [(.int .i64 0), (.int .i64 0), (.int .i64 0), (.int .i64 0), (.int .i64 0)] [(0, x1), (1, x4), (2, x7), (3, x10), (4, x12)]) fun x13 =>
  let x14 : V := .ptr (St.fresh s false) [] 40; let s14 : St := St.new s false (.agg 40 [(.int .i64 0), (.int .i64 0), (.int .i64 0), (.int .i64 0), (.int .i64 0)])
  obind (stv base s14 40 (.agg 40 x13) x14) fun s15 =>
  some (.normal, [(2, v2), (4, x14)], s15)
@[go_sem] theorem rc_caps_Of_1 {base : Nat} {ρ : Env} {s : St} : rc D base (.reg (some [2, 4]) o_caps_Of_1) ρ s = R_caps_Of_1 base s (get ρ 0) (get ρ 2) := rc_reg_O.trans (by kernel_rfl)
@[go_sem] noncomputable def R_caps_Of_2 (_base : Nat) (s : St) (v2 v4 : V) : Option (Ex × Env × St) :=
  obind (ldv s 40 v4) fun x0 =>
  obind (rf D f_caps_may [x0] s) fun x1 =>
  obind (vun .not x1.1) fun x2 =>
  some (.normal, [(2, v2), (4, v4), (26, x2)], x1.2)
@[go_sem] theorem rc_caps_Of_2 {base : Nat} {ρ : Env} {s : St} : rc D base (.reg (some [2, 4, 26]) o_caps_Of_2) ρ s = R_caps_Of_2 base s (get ρ 2) (get ρ 4) := rc_reg_O.trans (by kernel_rfl)
@[go_sem] noncomputable def R_caps_Of_3 (base : Nat) (s : St) (v2 : V) : Option (Ex × Env × St) :=
  obind (setParts [(.int .i64 0), (.int .i64 0), (.int .i64 0), (.int .i64 0), (.int .i64 0)] []) fun x0 =>
  obind (stv base s 40 (.agg 40 x0) v2) fun s1 =>
  some (.normal, [(2, v2), (3, (.bool false))], s1)
@[go_sem] theorem rc_caps_Of_3 {base : Nat} {ρ : Env} {s : St} : rc D base (.reg (some [2, 3]) o_caps_Of_3) ρ s = R_caps_Of_3 base s (get ρ 2) := rc_reg_O.trans (by kernel_rfl)
@[go_sem] noncomputable def R_caps_Of_4 (base : Nat) (s : St) (v2 v4 : V) : Option (Ex × Env × St) :=
  obind (ldv s 40 v4) fun x0 =>
  obind (stv base s 40 x0 v2) fun s1 =>
  some (.normal, [(2, v2), (3, (.bool true))], s1)
@[go_sem] theorem rc_caps_Of_4 {base : Nat} {ρ : Env} {s : St} : rc D base (.reg (some [2, 3]) o_caps_Of_4) ρ s = R_caps_Of_4 base s (get ρ 2) (get ρ 4) := rc_reg_O.trans (by kernel_rfl)

@[go_sem] noncomputable def R_entry_Names_0 (_base : Nat) (s : St) (v0 v1 v2 : V) : Option (Ex × Env × St) :=
  if V.ok v0 && mayNew false v0 then let x0 : V := .ptr (St.fresh s false) [] (V.tag v0); let s0 : St := St.new s false v0
  some (.normal, [(1, v1), (2, v2), (3, x0)], s0)
  else none
@[go_sem] theorem rc_entry_Names_0 {base : Nat} {ρ : Env} {s : St} : rc D base (.reg (some [1, 2, 3]) o_entry_Names_0) ρ s = R_entry_Names_0 base s (get ρ 0) (get ρ 1) (get ρ 2) := rc_reg_O.trans (by kernel_rfl)
@[go_sem] noncomputable def R_entry_Names_1 (base : Nat) (s : St) (v1 v2 v3 : V) : Option (Ex × Env × St) :=
  obind (rf D f_caps_Of [v2] s) fun x0 =>
  obind (extv 0 x0.1) fun x1 =>
  obind (extv 1 x0.1) fun x2 =>
  let x3 : V := .ptr (St.fresh x0.2 false) [] 40; let s3 : St := St.new x0.2 false (.agg 40 [(.int .i64 0), (.int .i64 0), (.int .i64 0), (.int .i64 0), (.int .i64 0)])
  obind (stv base s3 40 x1 x3) fun s4 =>
  some (.normal, [(1, v1), (3, v3), (7, x3), (8, x2)], s4)
@[go_sem] theorem rc_entry_Names_1 {base : Nat} {ρ : Env} {s : St} : rc D base (.reg (some [1, 3, 7, 8]) o_entry_Names_1) ρ s = R_entry_Names_1 base s (get ρ 1) (get ρ 2) (get ρ 3) := rc_reg_O.trans (by kernel_rfl)
@[go_sem] noncomputable def R_entry_Names_2 (_base : Nat) (s : St) (v1 v3 v7 v8 : V) : Option (Ex × Env × St) :=
  obind (vun .not v8) fun x0 =>
  some (.normal, [(1, v1), (3, v3), (7, v7), (14, x0)], s)
@[go_sem] theorem rc_entry_Names_2 {base : Nat} {ρ : Env} {s : St} : rc D base (.reg (some [1, 3, 7, 14]) o_entry_Names_2) ρ s = R_entry_Names_2 base s (get ρ 1) (get ρ 3) (get ρ 7) (get ρ 8) := rc_reg_O.trans (by kernel_rfl)
@[go_sem] noncomputable def R_entry_Names_3 (_base : Nat) (s : St) (v1 v3 v7 : V) : Option (Ex × Env × St) :=
  obind (fadv 40 0 10 v7) fun x0 =>
  obind (ldv s 10 x0) fun x1 =>
  obind (vbin .gtr x1 (.int .i64 4)) fun x2 =>
  some (.normal, [(1, v1), (3, v3), (7, v7), (14, x2)], s)
@[go_sem] theorem rc_entry_Names_3 {base : Nat} {ρ : Env} {s : St} : rc D base (.reg (some [1, 3, 7, 14]) o_entry_Names_3) ρ s = R_entry_Names_3 base s (get ρ 1) (get ρ 3) (get ρ 7) := rc_reg_O.trans (by kernel_rfl)
@[go_sem] noncomputable def R_entry_Names_4 (_base : Nat) (s : St) : Option (Ex × Env × St) :=
  some (.normal, [(6, (.int .i64 31))], s)
@[go_sem] theorem rc_entry_Names_4 {base : Nat} {ρ : Env} {s : St} : rc D base (.reg (some [6]) o_entry_Names_4) ρ s = R_entry_Names_4 base s := rc_reg_O.trans (by kernel_rfl)
@[go_sem] noncomputable def R_entry_Names_5 (_base : Nat) (s : St) (v1 v3 v7 : V) : Option (Ex × Env × St) :=
  obind (fadv 40 2 10 v7) fun x0 =>
  obind (ldv s 10 x0) fun x1 =>
  obind (vbin .neq x1 v1) fun x2 =>
  some (.normal, [(3, v3), (7, v7), (20, x2)], s)
@[go_sem] theorem rc_entry_Names_5 {base : Nat} {ρ : Env} {s : St} : rc D base (.reg (some [3, 7, 20]) o_entry_Names_5) ρ s = R_entry_Names_5 base s (get ρ 1) (get ρ 3) (get ρ 7) := rc_reg_O.trans (by kernel_rfl)
@[go_sem] noncomputable def R_entry_Names_6 (_base : Nat) (s : St) : Option (Ex × Env × St) :=
  some (.normal, [(6, (.int .i64 30))], s)
@[go_sem] theorem rc_entry_Names_6 {base : Nat} {ρ : Env} {s : St} : rc D base (.reg (some [6]) o_entry_Names_6) ρ s = R_entry_Names_6 base s := rc_reg_O.trans (by kernel_rfl)
@[go_sem] noncomputable def R_entry_Names_7 (_base : Nat) (s : St) (v3 v7 : V) : Option (Ex × Env × St) :=
  obind (fadv 40 3 10 v7) fun x0 =>
  obind (ldv s 10 x0) fun x1 =>
  obind (fadv 42 1 10 v3) fun x2 =>
  obind (ldv s 10 x2) fun x3 =>
  obind (vbin .neq x1 x3) fun x4 =>
  some (.normal, [(3, v3), (7, v7), (25, x4)], s)
@[go_sem] theorem rc_entry_Names_7 {base : Nat} {ρ : Env} {s : St} : rc D base (.reg (some [3, 7, 25]) o_entry_Names_7) ρ s = R_entry_Names_7 base s (get ρ 3) (get ρ 7) := rc_reg_O.trans (by kernel_rfl)
@[go_sem] noncomputable def R_entry_Names_8 (_base : Nat) (s : St) : Option (Ex × Env × St) :=
  some (.normal, [(6, (.int .i64 33))], s)
@[go_sem] theorem rc_entry_Names_8 {base : Nat} {ρ : Env} {s : St} : rc D base (.reg (some [6]) o_entry_Names_8) ρ s = R_entry_Names_8 base s := rc_reg_O.trans (by kernel_rfl)
@[go_sem] noncomputable def R_entry_Names_9 (_base : Nat) (s : St) (v3 v7 : V) : Option (Ex × Env × St) :=
  obind (fadv 42 0 10 v3) fun x0 =>
  obind (ldv s 10 x0) fun x1 =>
  obind (vbin .eql x1 (.int .i64 0)) fun x2 =>
  some (.normal, [(3, v3), (7, v7), (31, x2)], s)
@[go_sem] theorem rc_entry_Names_9 {base : Nat} {ρ : Env} {s : St} : rc D base (.reg (some [3, 7, 31]) o_entry_Names_9) ρ s = R_entry_Names_9 base s (get ρ 3) (get ρ 7) := rc_reg_O.trans (by kernel_rfl)
@[go_sem] noncomputable def R_entry_Names_10 (_base : Nat) (s : St) : Option (Ex × Env × St) :=
  some (.normal, [(6, (.int .i64 30))], s)
@[go_sem] theorem rc_entry_Names_10 {base : Nat} {ρ : Env} {s : St} : rc D base (.reg (some [6]) o_entry_Names_10) ρ s = R_entry_Names_10 base s := rc_reg_O.trans (by kernel_rfl)
@[go_sem] noncomputable def R_entry_Names_11 (_base : Nat) (s : St) (v3 v7 : V) : Option (Ex × Env × St) :=
  obind (fadv 40 0 10 v7) fun x0 =>
  obind (ldv s 10 x0) fun x1 =>
  obind (fadv 42 0 10 v3) fun x2 =>
  obind (ldv s 10 x2) fun x3 =>
  obind (vbin .neq x1 x3) fun x4 =>
  some (.normal, [(35, x4)], s)
@[go_sem] theorem rc_entry_Names_11 {base : Nat} {ρ : Env} {s : St} : rc D base (.reg (some [35]) o_entry_Names_11) ρ s = R_entry_Names_11 base s (get ρ 3) (get ρ 7) := rc_reg_O.trans (by kernel_rfl)
@[go_sem] noncomputable def R_entry_Names_12 (_base : Nat) (s : St) : Option (Ex × Env × St) :=
  some (.normal, [(6, (.int .i64 31))], s)
@[go_sem] theorem rc_entry_Names_12 {base : Nat} {ρ : Env} {s : St} : rc D base (.reg (some [6]) o_entry_Names_12) ρ s = R_entry_Names_12 base s := rc_reg_O.trans (by kernel_rfl)
@[go_sem] noncomputable def R_entry_Names_13 (_base : Nat) (s : St) : Option (Ex × Env × St) :=
  some (.normal, [(6, (.int .i64 0))], s)
@[go_sem] theorem rc_entry_Names_13 {base : Nat} {ρ : Env} {s : St} : rc D base (.reg (some [6]) o_entry_Names_13) ρ s = R_entry_Names_13 base s := rc_reg_O.trans (by kernel_rfl)

@[go_sem] noncomputable def R_steadfastref01_With_0 (_base : Nat) (s : St) (v0 v1 v2 v3 : V) : Option (Ex × Env × St) :=
  some (.normal, [(0, v0), (1, v1), (2, v2), (3, v3)], s)
@[go_sem] theorem rc_steadfastref01_With_0 {base : Nat} {ρ : Env} {s : St} : rc D base (.reg (some [0, 1, 2, 3]) o_steadfastref01_With_0) ρ s = R_steadfastref01_With_0 base s (get ρ 0) (get ρ 1) (get ρ 2) (get ρ 3) := rc_reg_O.trans (by kernel_rfl)
@[go_sem] noncomputable def R_steadfastref01_With_1 (_base : Nat) (s : St) (v0 v1 v2 v3 : V) : Option (Ex × Env × St) :=
  obind (rf D f_steadfastref01_is [v1, v2] s) fun x0 =>
  obind (vun .not x0.1) fun x1 =>
  some (.normal, [(0, v0), (1, v1), (2, v2), (3, v3), (15, x1)], x0.2)
@[go_sem] theorem rc_steadfastref01_With_1 {base : Nat} {ρ : Env} {s : St} : rc D base (.reg (some [0, 1, 2, 3, 15]) o_steadfastref01_With_1) ρ s = R_steadfastref01_With_1 base s (get ρ 0) (get ρ 1) (get ρ 2) (get ρ 3) := rc_reg_O.trans (by kernel_rfl)
@[go_sem] noncomputable def R_steadfastref01_With_2 (_base : Nat) (s : St) : Option (Ex × Env × St) :=
  some (.normal, [(8, (.int .u64 0)), (9, (.int .i64 1))], s)
@[go_sem] theorem rc_steadfastref01_With_2 {base : Nat} {ρ : Env} {s : St} : rc D base (.reg (some [8, 9]) o_steadfastref01_With_2) ρ s = R_steadfastref01_With_2 base s := rc_reg_O.trans (by kernel_rfl)
@[go_sem] noncomputable def R_steadfastref01_With_3 (_base : Nat) (s : St) (v0 v1 v2 v3 : V) : Option (Ex × Env × St) :=
  some (.normal, [(0, v0), (1, v1), (2, v2), (3, v3), (10, v2)], s)
@[go_sem] theorem rc_steadfastref01_With_3 {base : Nat} {ρ : Env} {s : St} : rc D base (.reg (some [0, 1, 2, 3, 10]) o_steadfastref01_With_3) ρ s = R_steadfastref01_With_3 base s (get ρ 0) (get ρ 1) (get ρ 2) (get ρ 3) := rc_reg_O.trans (by kernel_rfl)
@[go_sem] noncomputable def R_steadfastref01_With_4 (_base : Nat) (s : St) (v0 v1 v2 v3 v10 : V) : Option (Ex × Env × St) :=
  obind (vbin .lss v10 (.int .i64 64)) fun x0 =>
  some (.normal, [(0, v0), (1, v1), (2, v2), (3, v3), (10, v10), (18, x0)], s)
@[go_sem] theorem rc_steadfastref01_With_4 {base : Nat} {ρ : Env} {s : St} : rc D base (.reg (some [0, 1, 2, 3, 10, 18]) o_steadfastref01_With_4) ρ s = R_steadfastref01_With_4 base s (get ρ 0) (get ρ 1) (get ρ 2) (get ρ 3) (get ρ 10) := rc_reg_O.trans (by kernel_rfl)
@[go_sem] noncomputable def R_steadfastref01_With_5 (_base : Nat) (s : St) (v0 v1 v2 v3 v10 : V) : Option (Ex × Env × St) :=
  obind (rf D f_steadfastref01_bit [v3, v10] s) fun x0 =>
  obind (vbin .eql x0.1 (.int .u64 1)) fun x1 =>
  some (.normal, [(0, v0), (1, v1), (2, v2), (3, v3), (10, v10), (24, x1)], x0.2)
@[go_sem] theorem rc_steadfastref01_With_5 {base : Nat} {ρ : Env} {s : St} : rc D base (.reg (some [0, 1, 2, 3, 10, 24]) o_steadfastref01_With_5) ρ s = R_steadfastref01_With_5 base s (get ρ 0) (get ρ 1) (get ρ 2) (get ρ 3) (get ρ 10) := rc_reg_O.trans (by kernel_rfl)
@[go_sem] noncomputable def R_steadfastref01_With_6 (_base : Nat) (s : St) : Option (Ex × Env × St) :=
  some (.normal, [(8, (.int .u64 0)), (9, (.int .i64 2))], s)
@[go_sem] theorem rc_steadfastref01_With_6 {base : Nat} {ρ : Env} {s : St} : rc D base (.reg (some [8, 9]) o_steadfastref01_With_6) ρ s = R_steadfastref01_With_6 base s := rc_reg_O.trans (by kernel_rfl)
@[go_sem] noncomputable def R_steadfastref01_With_7 (_base : Nat) (s : St) (v0 v1 v2 v3 v10 : V) : Option (Ex × Env × St) :=
  obind (vbin .add v10 (.int .i64 1)) fun x0 =>
  some (.normal, [(0, v0), (1, v1), (2, v2), (3, v3), (10, x0)], s)
@[go_sem] theorem rc_steadfastref01_With_7 {base : Nat} {ρ : Env} {s : St} : rc D base (.reg (some [0, 1, 2, 3, 10]) o_steadfastref01_With_7) ρ s = R_steadfastref01_With_7 base s (get ρ 0) (get ρ 1) (get ρ 2) (get ρ 3) (get ρ 10) := rc_reg_O.trans (by kernel_rfl)
@[go_sem] noncomputable def R_steadfastref01_With_8 (_base : Nat) (s : St) (v0 v1 v2 v3 : V) : Option (Ex × Env × St) :=
  some (.normal, [(0, v0), (1, v1), (2, v2), (3, v3), (11, (.int .i64 0))], s)
@[go_sem] theorem rc_steadfastref01_With_8 {base : Nat} {ρ : Env} {s : St} : rc D base (.reg (some [0, 1, 2, 3, 11]) o_steadfastref01_With_8) ρ s = R_steadfastref01_With_8 base s (get ρ 0) (get ρ 1) (get ρ 2) (get ρ 3) := rc_reg_O.trans (by kernel_rfl)
@[go_sem] noncomputable def R_steadfastref01_With_9 (_base : Nat) (s : St) (v0 v1 v2 v3 v11 : V) : Option (Ex × Env × St) :=
  obind (vbin .lss v11 v2) fun x0 =>
  some (.normal, [(0, v0), (1, v1), (2, v2), (3, v3), (11, v11), (27, x0)], s)
@[go_sem] theorem rc_steadfastref01_With_9 {base : Nat} {ρ : Env} {s : St} : rc D base (.reg (some [0, 1, 2, 3, 11, 27]) o_steadfastref01_With_9) ρ s = R_steadfastref01_With_9 base s (get ρ 0) (get ρ 1) (get ρ 2) (get ρ 3) (get ρ 11) := rc_reg_O.trans (by kernel_rfl)
@[go_sem] noncomputable def R_steadfastref01_With_10 (_base : Nat) (s : St) (v0 v1 v2 v3 v11 : V) : Option (Ex × Env × St) :=
  obind (rf D f_steadfastref01_bit [v3, v11] s) fun x0 =>
  obind (vbin .add v1 v11) fun x1 =>
  obind (rf D f_steadfastref01_bit [v0, x1] x0.2) fun x2 =>
  obind (vbin .neq x0.1 x2.1) fun x3 =>
  some (.normal, [(0, v0), (1, v1), (2, v2), (3, v3), (11, v11), (38, x3)], x2.2)
@[go_sem] theorem rc_steadfastref01_With_10 {base : Nat} {ρ : Env} {s : St} : rc D base (.reg (some [0, 1, 2, 3, 11, 38]) o_steadfastref01_With_10) ρ s = R_steadfastref01_With_10 base s (get ρ 0) (get ρ 1) (get ρ 2) (get ρ 3) (get ρ 11) := rc_reg_O.trans (by kernel_rfl)
@[go_sem] noncomputable def R_steadfastref01_With_11 (_base : Nat) (s : St) (v0 v1 v2 v3 v11 : V) : Option (Ex × Env × St) :=
  obind (vbin .add v1 v11) fun x0 =>
  obind (vbin .shl (.int .u64 1) x0) fun x1 =>
  obind (vbin .xor v0 x1) fun x2 =>
  some (.normal, [(0, x2), (1, v1), (2, v2), (3, v3), (11, v11)], s)
@[go_sem] theorem rc_steadfastref01_With_11 {base : Nat} {ρ : Env} {s : St} : rc D base (.reg (some [0, 1, 2, 3, 11]) o_steadfastref01_With_11) ρ s = R_steadfastref01_With_11 base s (get ρ 0) (get ρ 1) (get ρ 2) (get ρ 3) (get ρ 11) := rc_reg_O.trans (by kernel_rfl)
@[go_sem] noncomputable def R_steadfastref01_With_12 (_base : Nat) (s : St) (v0 v1 v2 v3 v11 : V) : Option (Ex × Env × St) :=
  obind (vbin .add v11 (.int .i64 1)) fun x0 =>
  some (.normal, [(0, v0), (1, v1), (2, v2), (3, v3), (11, x0)], s)
@[go_sem] theorem rc_steadfastref01_With_12 {base : Nat} {ρ : Env} {s : St} : rc D base (.reg (some [0, 1, 2, 3, 11]) o_steadfastref01_With_12) ρ s = R_steadfastref01_With_12 base s (get ρ 0) (get ρ 1) (get ρ 2) (get ρ 3) (get ρ 11) := rc_reg_O.trans (by kernel_rfl)
@[go_sem] noncomputable def R_steadfastref01_With_13 (_base : Nat) (s : St) (v0 : V) : Option (Ex × Env × St) :=
  some (.normal, [(8, v0), (9, (.int .i64 0))], s)
@[go_sem] theorem rc_steadfastref01_With_13 {base : Nat} {ρ : Env} {s : St} : rc D base (.reg (some [8, 9]) o_steadfastref01_With_13) ρ s = R_steadfastref01_With_13 base s (get ρ 0) := rc_reg_O.trans (by kernel_rfl)

@[go_sem] noncomputable def R_caps_may_0 (_base : Nat) (s : St) (v0 : V) : Option (Ex × Env × St) :=
  if V.ok v0 && mayNew false v0 then let x0 : V := .ptr (St.fresh s false) [] (V.tag v0); let s0 : St := St.new s false v0
  some (.normal, [(1, x0)], s0)
  else none
@[go_sem] theorem rc_caps_may_0 {base : Nat} {ρ : Env} {s : St} : rc D base (.reg (some [1]) o_caps_may_0) ρ s = R_caps_may_0 base s (get ρ 0) := rc_reg_O.trans (by kernel_rfl)
@[go_sem] noncomputable def R_caps_may_1 (_base : Nat) (s : St) (v1 : V) : Option (Ex × Env × St) :=
  obind (fadv 40 0 10 v1) fun x0 =>
  obind (ldv s 10 x0) fun x1 =>
  obind (vbin .eql x1 (.int .i64 5)) fun x2 =>
  oguard x2 false (
    obind (fadv 40 0 10 v1) fun x3 =>
    obind (ldv s 10 x3) fun x4 =>
    obind (vbin .eql x4 (.int .i64 6)) fun x5 =>
    some (.normal, [(1, v1), (3, x5)], s)) (
    some (.normal, [(1, v1), (3, (.bool true))], s)) (
    none)
@[go_sem] theorem rc_caps_may_1 {base : Nat} {ρ : Env} {s : St} : rc D base (.reg (some [1, 3]) o_caps_may_1) ρ s = R_caps_may_1 base s (get ρ 1) := rc_reg_O.trans (by kernel_rfl)
@[go_sem] noncomputable def R_caps_may_2 (_base : Nat) (s : St) (v1 v3 : V) : Option (Ex × Env × St) :=
  obind (fadv 40 0 10 v1) fun x0 =>
  obind (ldv s 10 x0) fun x1 =>
  obind (rf D f_caps_within [x1, (.int .i64 1), (.int .i64 6)] s) fun x2 =>
  oguard x2.1 true (
    obind (fadv 40 1 10 v1) fun x3 =>
    obind (ldv x2.2 10 x3) fun x4 =>
    obind (rf D f_caps_within [x4, (.int .i64 0), (.int .i64 15)] x2.2) fun x5 =>
    oguard x5.1 true (
      obind (fadv 40 2 10 v1) fun x6 =>
      obind (ldv x5.2 10 x6) fun x7 =>
      obind (rf D f_caps_within [x7, (.int .i64 0), (.int .i64 48)] x5.2) fun x8 =>
      oguard x8.1 true (
        obind (fadv 40 3 10 v1) fun x9 =>
        obind (ldv x8.2 10 x9) fun x10 =>
        obind (rf D f_caps_within [x10, (.int .i64 0), (.int .i64 16777215)] x8.2) fun x11 =>
        oguard x11.1 true (
          obind (fadv 40 4 10 v1) fun x12 =>
          obind (ldv x11.2 10 x12) fun x13 =>
          obind (rf D f_caps_within [x13, (.int .i64 0), (.int .i64 65535)] x11.2) fun x14 =>
          oguard x14.1 true (
            obind (vun .not v3) fun x15 =>
            oguard x15 false (
              obind (fadv 40 2 10 v1) fun x16 =>
              obind (ldv x14.2 10 x16) fun x17 =>
              obind (vbin .eql x17 (.int .i64 0)) fun x18 =>
              oguard x18 true (
                obind (fadv 40 3 10 v1) fun x19 =>
                obind (ldv x14.2 10 x19) fun x20 =>
                obind (vbin .eql x20 (.int .i64 0)) fun x21 =>
                some (.normal, [(2, x21)], x14.2)) (
                some (.normal, [(2, (.bool false))], x14.2)) (
                none)) (
              some (.normal, [(2, (.bool true))], x14.2)) (
              none)) (
            some (.normal, [(2, (.bool false))], x14.2)) (
            none)) (
          some (.normal, [(2, (.bool false))], x11.2)) (
          none)) (
        some (.normal, [(2, (.bool false))], x8.2)) (
        none)) (
      some (.normal, [(2, (.bool false))], x5.2)) (
      none)) (
    some (.normal, [(2, (.bool false))], x2.2)) (
    none)
@[go_sem] theorem rc_caps_may_2 {base : Nat} {ρ : Env} {s : St} : rc D base (.reg (some [2]) o_caps_may_2) ρ s = R_caps_may_2 base s (get ρ 1) (get ρ 3) := rc_reg_O.trans (by kernel_rfl)

@[go_sem] noncomputable def R_steadfastref01_is_0 (_base : Nat) (s : St) (v0 v1 : V) : Option (Ex × Env × St) :=
  some (.normal, [(0, v0), (1, v1)], s)
@[go_sem] theorem rc_steadfastref01_is_0 {base : Nat} {ρ : Env} {s : St} : rc D base (.reg (some [0, 1]) o_steadfastref01_is_0) ρ s = R_steadfastref01_is_0 base s (get ρ 0) (get ρ 1) := rc_reg_O.trans (by kernel_rfl)
@[go_sem] noncomputable def R_steadfastref01_is_1 (_base : Nat) (s : St) (v0 v1 : V) : Option (Ex × Env × St) :=
  obind (vbin .geq v0 (.int .i64 0)) fun x0 =>
  oguard x0 true (
    obind (vbin .leq v0 (.int .i64 63)) fun x1 =>
    oguard x1 true (
      obind (vbin .geq v1 (.int .i64 1)) fun x2 =>
      oguard x2 true (
        obind (vbin .leq v1 (.int .i64 64)) fun x3 =>
        oguard x3 true (
          obind (vbin .add v0 v1) fun x4 =>
          obind (vbin .leq x4 (.int .i64 64)) fun x5 =>
          some (.normal, [(4, x5)], s)) (
          some (.normal, [(4, (.bool false))], s)) (
          none)) (
        some (.normal, [(4, (.bool false))], s)) (
        none)) (
      some (.normal, [(4, (.bool false))], s)) (
      none)) (
    some (.normal, [(4, (.bool false))], s)) (
    none)
@[go_sem] theorem rc_steadfastref01_is_1 {base : Nat} {ρ : Env} {s : St} : rc D base (.reg (some [4]) o_steadfastref01_is_1) ρ s = R_steadfastref01_is_1 base s (get ρ 0) (get ρ 1) := rc_reg_O.trans (by kernel_rfl)

@[go_sem] noncomputable def R_steadfastref01_bit_0 (_base : Nat) (s : St) (v0 v1 : V) : Option (Ex × Env × St) :=
  some (.normal, [(0, v0), (1, v1)], s)
@[go_sem] theorem rc_steadfastref01_bit_0 {base : Nat} {ρ : Env} {s : St} : rc D base (.reg (some [0, 1]) o_steadfastref01_bit_0) ρ s = R_steadfastref01_bit_0 base s (get ρ 0) (get ρ 1) := rc_reg_O.trans (by kernel_rfl)
@[go_sem] noncomputable def R_steadfastref01_bit_1 (_base : Nat) (s : St) (v0 v1 : V) : Option (Ex × Env × St) :=
  obind (vbin .shr v0 v1) fun x0 =>
  obind (vbin .and x0 (.int .u64 1)) fun x1 =>
  some (.normal, [(4, x1)], s)
@[go_sem] theorem rc_steadfastref01_bit_1 {base : Nat} {ρ : Env} {s : St} : rc D base (.reg (some [4]) o_steadfastref01_bit_1) ρ s = R_steadfastref01_bit_1 base s (get ρ 0) (get ρ 1) := rc_reg_O.trans (by kernel_rfl)

@[go_sem] noncomputable def R_caps_within_0 (_base : Nat) (s : St) (v0 v1 v2 : V) : Option (Ex × Env × St) :=
  some (.normal, [(0, v0), (1, v1), (2, v2)], s)
@[go_sem] theorem rc_caps_within_0 {base : Nat} {ρ : Env} {s : St} : rc D base (.reg (some [0, 1, 2]) o_caps_within_0) ρ s = R_caps_within_0 base s (get ρ 0) (get ρ 1) (get ρ 2) := rc_reg_O.trans (by kernel_rfl)
@[go_sem] noncomputable def R_caps_within_1 (_base : Nat) (s : St) (v0 v1 v2 : V) : Option (Ex × Env × St) :=
  obind (vbin .geq v0 v1) fun x0 =>
  oguard x0 true (
    obind (vbin .leq v0 v2) fun x1 =>
    some (.normal, [(6, x1)], s)) (
    some (.normal, [(6, (.bool false))], s)) (
    none)
@[go_sem] theorem rc_caps_within_1 {base : Nat} {ρ : Env} {s : St} : rc D base (.reg (some [6]) o_caps_within_1) ρ s = R_caps_within_1 base s (get ρ 0) (get ρ 1) (get ρ 2) := rc_reg_O.trans (by kernel_rfl)


end Go.Proofs.Ytfdaihhnlohckaa
