/-
  YtfdaihhnlohckaaCode: the code of the functions that this seat's laws reach, in the form of Ab1 (printed by a program out of the translation; held against it in YtfdaihhnlohckaaChk).
-/
import Derived.Test.YtfdaihhnlohckaaAb3
import Derived.KernelRfl
set_option maxRecDepth 100000
namespace Go.Proofs.Ytfdaihhnlohckaa
open Go.Ab
/-! The functions' numbers. -/
def f_steadfastlaw19_QueueNexts : Nat := 3
def f_steadfastlaw19_QueueTurns : Nat := 4
def f_steadfastlaw19_QueueCores : Nat := 5
def f_steadfastlaw19_shown : Nat := 10
def f_queue_Next : Nat := 11
def f_steadfastlaw19_few : Nat := 12
def f_steadfastref19_Next : Nat := 13
def f_queue_Mine : Nat := 14
def f_steadfastref19_Mine : Nat := 15
def f_queue_Next_1 : Nat := 28
def o_steadfastlaw19_QueueNexts_0 : List Ab.Op := [
  ⟨some 4, none, .box false (.t 1)⟩,
  ⟨some 6, none, .mv (.k (.bool false))⟩]
def o_steadfastlaw19_QueueNexts_1 : List Ab.Op := [
  ⟨some 12, none, .call (.k (.fn f_steadfastlaw19_shown [])) []⟩,
  ⟨some 7, none, .mv (.t 12)⟩]
def o_steadfastlaw19_QueueNexts_2 : List Ab.Op := [
  ⟨some 14, none, .mv (.t 0)⟩,
  ⟨some 15, none, .pcall (.k (.fn f_steadfastlaw19_few [])) [(.t 14)]⟩,
  ⟨some 16, none, .iad 22 2 10 (.t 4) (.k (.int .i64 0))⟩,
  ⟨some 17, none, .ld 10 (.t 16)⟩,
  ⟨some 18, none, .iad 22 2 10 (.t 4) (.k (.int .i64 1))⟩,
  ⟨some 19, none, .ld 10 (.t 18)⟩,
  ⟨some 20, none, .mv (.t 2)⟩,
  ⟨some 21, none, .pcall (.k (.fn f_queue_Next [])) [(.t 15), (.t 17), (.t 19), (.t 20)]⟩,
  ⟨some 13, none, .mv (.t 21)⟩,
  ⟨some 22, none, .ext (.t 13) 0⟩,
  ⟨some 23, none, .ext (.t 13) 1⟩,
  ⟨some 8, none, .mv (.t 22)⟩,
  ⟨some 9, none, .mv (.t 23)⟩]
def o_steadfastlaw19_QueueNexts_3 : List Ab.Op := [
  ⟨some 25, none, .mv (.t 0)⟩,
  ⟨some 26, none, .pcall (.k (.fn f_steadfastlaw19_few [])) [(.t 25)]⟩,
  ⟨some 27, none, .iad 22 2 10 (.t 4) (.k (.int .i64 0))⟩,
  ⟨some 28, none, .ld 10 (.t 27)⟩,
  ⟨some 29, none, .iad 22 2 10 (.t 4) (.k (.int .i64 1))⟩,
  ⟨some 30, none, .ld 10 (.t 29)⟩,
  ⟨some 31, none, .mv (.t 2)⟩,
  ⟨some 32, none, .pcall (.k (.fn f_steadfastref19_Next [])) [(.t 26), (.t 28), (.t 30), (.t 31)]⟩,
  ⟨some 24, none, .mv (.t 32)⟩,
  ⟨some 33, none, .ext (.t 24) 0⟩,
  ⟨some 34, none, .ext (.t 24) 1⟩,
  ⟨some 10, none, .mv (.t 33)⟩,
  ⟨some 11, none, .mv (.t 34)⟩]
def o_steadfastlaw19_QueueNexts_4 : List Ab.Op := [
  ⟨some 35, none, .mv (.t 7)⟩,
  ⟨some 36, none, .mv (.t 35)⟩,
  ⟨some 37, some (36, true), .mv (.t 8)⟩,
  ⟨some 38, some (36, true), .mv (.t 10)⟩,
  ⟨some 39, some (36, true), .bin .eql (.t 37) (.t 38)⟩,
  ⟨some 40, none, .pick (.t 36) (.t 39) (.k (.bool false))⟩,
  ⟨some 41, none, .mv (.t 40)⟩,
  ⟨some 42, some (41, true), .mv (.t 9)⟩,
  ⟨some 43, some (41, true), .mv (.t 11)⟩,
  ⟨some 44, some (41, true), .bin .eql (.t 42) (.t 43)⟩,
  ⟨some 45, none, .pick (.t 41) (.t 44) (.k (.bool false))⟩,
  ⟨some 46, none, .mv (.t 45)⟩,
  ⟨some 47, some (46, true), .mv (.t 2)⟩,
  ⟨some 48, some (46, true), .iad 22 2 10 (.t 4) (.k (.int .i64 0))⟩,
  ⟨some 49, some (46, true), .ld 10 (.t 48)⟩,
  ⟨some 50, some (46, true), .iad 22 2 10 (.t 4) (.k (.int .i64 1))⟩,
  ⟨some 51, some (46, true), .ld 10 (.t 50)⟩,
  ⟨some 52, some (46, true), .pcall (.k (.fn f_queue_Mine [])) [(.t 47), (.t 49), (.t 51)]⟩,
  ⟨some 53, some (46, true), .mv (.t 2)⟩,
  ⟨some 54, some (46, true), .iad 22 2 10 (.t 4) (.k (.int .i64 0))⟩,
  ⟨some 55, some (46, true), .ld 10 (.t 54)⟩,
  ⟨some 56, some (46, true), .iad 22 2 10 (.t 4) (.k (.int .i64 1))⟩,
  ⟨some 57, some (46, true), .ld 10 (.t 56)⟩,
  ⟨some 58, some (46, true), .pcall (.k (.fn f_steadfastref19_Mine [])) [(.t 53), (.t 55), (.t 57)]⟩,
  ⟨some 59, some (46, true), .eq false 0 (.t 52) (.t 58)⟩,
  ⟨some 60, none, .pick (.t 46) (.t 59) (.k (.bool false))⟩,
  ⟨some 6, none, .mv (.t 60)⟩]
/-- steadfast/steadfastlaw19.QueueNexts -/
@[go_sem] def fc_steadfastlaw19_QueueNexts : Fc := ⟨3,
  .seq ((.reg (some [0, 2, 4]) o_steadfastlaw19_QueueNexts_0)) (
  .seq ((.reg (some [0, 2, 4, 7]) o_steadfastlaw19_QueueNexts_1)) (
  .seq ((.regd (some [0, 2, 4, 7, 8, 9]) o_steadfastlaw19_QueueNexts_2)) (
  .seq ((.regd (some [2, 4, 7, 8, 9, 10, 11]) o_steadfastlaw19_QueueNexts_3)) (
  .seq ((.regd (some [6]) o_steadfastlaw19_QueueNexts_4)) (
  .ret))))),
  [.t 6]⟩
def o_steadfastlaw19_QueueTurns_0 : List Ab.Op := [
  ⟨some 4, none, .box false (.t 1)⟩,
  ⟨some 6, none, .mv (.k (.bool false))⟩]
def o_steadfastlaw19_QueueTurns_1 : List Ab.Op := [
  ⟨some 18, none, .call (.k (.fn f_steadfastlaw19_shown [])) []⟩,
  ⟨some 7, none, .mv (.t 18)⟩]
def o_steadfastlaw19_QueueTurns_2 : List Ab.Op := [
  ⟨some 19, none, .mv (.t 0)⟩,
  ⟨some 20, none, .call (.k (.fn f_steadfastlaw19_few [])) [(.t 19)]⟩,
  ⟨some 0, none, .mv (.t 20)⟩]
def o_steadfastlaw19_QueueTurns_3 : List Ab.Op := [
  ⟨some 21, none, .iad 22 2 10 (.t 4) (.k (.int .i64 1))⟩,
  ⟨some 22, none, .ld 10 (.t 21)⟩,
  ⟨some 23, none, .bin .rem (.t 22) (.k (.int .i64 8))⟩,
  ⟨some 8, none, .mv (.t 23)⟩]
def o_steadfastlaw19_QueueTurns_4 : List Ab.Op := [
  ⟨some 24, none, .mv (.t 8)⟩,
  ⟨some 25, none, .bin .lss (.t 24) (.k (.int .i64 0))⟩]
def o_steadfastlaw19_QueueTurns_5 : List Ab.Op := [
  ⟨some 26, none, .mv (.t 8)⟩,
  ⟨some 27, none, .un .neg (.t 26)⟩,
  ⟨some 8, none, .mv (.t 27)⟩]
def o_steadfastlaw19_QueueTurns_6 : List Ab.Op := [
  ⟨some 28, none, .mv (.t 8)⟩,
  ⟨some 29, none, .bin .add (.t 28) (.k (.int .i64 1))⟩,
  ⟨some 8, none, .mv (.t 29)⟩]
def o_steadfastlaw19_QueueTurns_7 : List Ab.Op := [
  ⟨some 30, none, .iad 22 2 10 (.t 4) (.k (.int .i64 0))⟩,
  ⟨some 31, none, .ld 10 (.t 30)⟩,
  ⟨some 32, none, .mv (.t 8)⟩,
  ⟨some 33, none, .bin .rem (.t 31) (.t 32)⟩,
  ⟨some 9, none, .mv (.t 33)⟩]
def o_steadfastlaw19_QueueTurns_8 : List Ab.Op := [
  ⟨some 34, none, .mv (.t 9)⟩,
  ⟨some 35, none, .bin .lss (.t 34) (.k (.int .i64 0))⟩]
def o_steadfastlaw19_QueueTurns_9 : List Ab.Op := [
  ⟨some 36, none, .mv (.t 9)⟩,
  ⟨some 37, none, .un .neg (.t 36)⟩,
  ⟨some 9, none, .mv (.t 37)⟩]
def o_steadfastlaw19_QueueTurns_10 : List Ab.Op := [
  ⟨some 10, none, .mv (.k (.int .i64 0))⟩]
def o_steadfastlaw19_QueueTurns_11 : List Ab.Op := [
  ⟨some 11, none, .mv (.k (.int .i64 0))⟩]
def o_steadfastlaw19_QueueTurns_12 : List Ab.Op := [
  ⟨some 38, none, .mv (.t 11)⟩,
  ⟨some 39, none, .mv (.t 0)⟩,
  ⟨some 40, none, .len false (.t 39)⟩,
  ⟨some 41, none, .bin .lss (.t 38) (.t 40)⟩]
def o_steadfastlaw19_QueueTurns_13 : List Ab.Op := [
  ⟨some 44, none, .mv (.t 0)⟩,
  ⟨some 45, none, .mv (.t 11)⟩,
  ⟨some 46, none, .sad 0 (.t 44) (.t 45)⟩,
  ⟨some 47, none, .ld 0 (.t 46)⟩,
  ⟨some 48, none, .mv (.t 47)⟩,
  ⟨some 49, some (48, true), .mv (.t 11)⟩,
  ⟨some 50, some (48, true), .mv (.t 9)⟩,
  ⟨some 51, some (48, true), .mv (.t 8)⟩,
  ⟨some 52, some (48, true), .call (.k (.fn f_queue_Mine [])) [(.t 49), (.t 50), (.t 51)]⟩,
  ⟨some 53, none, .pick (.t 48) (.t 52) (.k (.bool false))⟩]
def o_steadfastlaw19_QueueTurns_14 : List Ab.Op := [
  ⟨some 54, none, .mv (.t 10)⟩,
  ⟨some 55, none, .bin .add (.t 54) (.k (.int .i64 1))⟩,
  ⟨some 10, none, .mv (.t 55)⟩]
def o_steadfastlaw19_QueueTurns_15 : List Ab.Op := [
  ⟨some 42, none, .mv (.t 11)⟩,
  ⟨some 43, none, .bin .add (.t 42) (.k (.int .i64 1))⟩,
  ⟨some 11, none, .mv (.t 43)⟩]
def o_steadfastlaw19_QueueTurns_16 : List Ab.Op := [
  ⟨some 56, none, .mv (.t 0)⟩,
  ⟨some 57, none, .len false (.t 56)⟩,
  ⟨some 58, none, .mksl false 20 0 (.bool false) (.t 57) (.t 57)⟩,
  ⟨some 12, none, .mv (.t 58)⟩]
def o_steadfastlaw19_QueueTurns_17 : List Ab.Op := [
  ⟨some 13, none, .mv (.k (.int .i64 0))⟩]
def o_steadfastlaw19_QueueTurns_18 : List Ab.Op := [
  ⟨some 59, none, .mv (.t 13)⟩,
  ⟨some 60, none, .mv (.t 10)⟩,
  ⟨some 61, none, .bin .lss (.t 59) (.t 60)⟩]
def o_steadfastlaw19_QueueTurns_19 : List Ab.Op := [
  ⟨some 65, none, .mv (.t 0)⟩,
  ⟨some 66, none, .mv (.t 9)⟩,
  ⟨some 67, none, .mv (.t 8)⟩,
  ⟨some 68, none, .mv (.t 2)⟩,
  ⟨some 69, none, .call (.k (.fn f_queue_Next [])) [(.t 65), (.t 66), (.t 67), (.t 68)]⟩,
  ⟨some 64, none, .mv (.t 69)⟩,
  ⟨some 70, none, .ext (.t 64) 0⟩,
  ⟨some 71, none, .ext (.t 64) 1⟩,
  ⟨some 14, none, .mv (.t 70)⟩,
  ⟨some 15, none, .mv (.t 71)⟩]
def o_steadfastlaw19_QueueTurns_20 : List Ab.Op := [
  ⟨some 72, none, .mv (.t 15)⟩,
  ⟨some 73, none, .bin .neq (.t 72) (.k (.int .i64 0))⟩,
  ⟨some 74, none, .mv (.t 73)⟩,
  ⟨some 75, some (74, false), .mv (.t 14)⟩,
  ⟨some 76, some (74, false), .bin .lss (.t 75) (.k (.int .i64 0))⟩,
  ⟨some 77, none, .pick (.t 74) (.k (.bool true)) (.t 76)⟩,
  ⟨some 78, none, .mv (.t 77)⟩,
  ⟨some 79, some (78, false), .mv (.t 14)⟩,
  ⟨some 80, some (78, false), .mv (.t 0)⟩,
  ⟨some 81, some (78, false), .len false (.t 80)⟩,
  ⟨some 82, some (78, false), .bin .geq (.t 79) (.t 81)⟩,
  ⟨some 83, none, .pick (.t 78) (.k (.bool true)) (.t 82)⟩,
  ⟨some 84, none, .mv (.t 83)⟩,
  ⟨some 85, some (84, false), .mv (.t 0)⟩,
  ⟨some 86, some (84, false), .mv (.t 14)⟩,
  ⟨some 87, some (84, false), .sad 0 (.t 85) (.t 86)⟩,
  ⟨some 88, some (84, false), .ld 0 (.t 87)⟩,
  ⟨some 89, some (84, false), .un .not (.t 88)⟩,
  ⟨some 90, none, .pick (.t 84) (.k (.bool true)) (.t 89)⟩,
  ⟨some 91, none, .mv (.t 90)⟩,
  ⟨some 92, some (91, false), .mv (.t 12)⟩,
  ⟨some 93, some (91, false), .mv (.t 14)⟩,
  ⟨some 94, some (91, false), .sad 0 (.t 92) (.t 93)⟩,
  ⟨some 95, some (91, false), .ld 0 (.t 94)⟩,
  ⟨some 96, none, .pick (.t 91) (.k (.bool true)) (.t 95)⟩,
  ⟨some 97, none, .mv (.t 96)⟩,
  ⟨some 98, some (97, false), .mv (.t 14)⟩,
  ⟨some 99, some (97, false), .mv (.t 8)⟩,
  ⟨some 100, some (97, false), .bin .rem (.t 98) (.t 99)⟩,
  ⟨some 101, some (97, false), .mv (.t 9)⟩,
  ⟨some 102, some (97, false), .bin .neq (.t 100) (.t 101)⟩,
  ⟨some 103, none, .pick (.t 97) (.k (.bool true)) (.t 102)⟩]
def o_steadfastlaw19_QueueTurns_21 : List Ab.Op := [
  ⟨some 6, none, .mv (.k (.bool false))⟩]
def o_steadfastlaw19_QueueTurns_22 : List Ab.Op := [
  ⟨some 104, none, .mv (.t 12)⟩,
  ⟨some 105, none, .mv (.t 14)⟩,
  ⟨some 106, none, .sad 0 (.t 104) (.t 105)⟩,
  ⟨none, none, .st 0 (.t 106) (.k (.bool true))⟩]
def o_steadfastlaw19_QueueTurns_23 : List Ab.Op := [
  ⟨some 107, none, .mv (.t 14)⟩,
  ⟨some 2, none, .mv (.t 107)⟩]
def o_steadfastlaw19_QueueTurns_24 : List Ab.Op := [
  ⟨some 62, none, .mv (.t 13)⟩,
  ⟨some 63, none, .bin .add (.t 62) (.k (.int .i64 1))⟩,
  ⟨some 13, none, .mv (.t 63)⟩]
def o_steadfastlaw19_QueueTurns_25 : List Ab.Op := [
  ⟨some 109, none, .mv (.t 0)⟩,
  ⟨some 110, none, .mv (.t 9)⟩,
  ⟨some 111, none, .mv (.t 8)⟩,
  ⟨some 112, none, .mv (.t 2)⟩,
  ⟨some 113, none, .call (.k (.fn f_queue_Next [])) [(.t 109), (.t 110), (.t 111), (.t 112)]⟩,
  ⟨some 108, none, .mv (.t 113)⟩,
  ⟨some 114, none, .ext (.t 108) 0⟩,
  ⟨some 115, none, .ext (.t 108) 1⟩,
  ⟨some 16, none, .mv (.t 114)⟩,
  ⟨some 17, none, .mv (.t 115)⟩]
def o_steadfastlaw19_QueueTurns_26 : List Ab.Op := [
  ⟨some 116, none, .mv (.t 7)⟩,
  ⟨some 117, none, .mv (.t 116)⟩,
  ⟨some 118, some (117, true), .mv (.t 17)⟩,
  ⟨some 119, some (117, true), .bin .eql (.t 118) (.k (.int .i64 50))⟩,
  ⟨some 120, some (117, true), .mv (.t 10)⟩,
  ⟨some 121, some (117, true), .bin .eql (.t 120) (.k (.int .i64 0))⟩,
  ⟨some 122, some (117, true), .eq false 0 (.t 119) (.t 121)⟩,
  ⟨some 123, none, .pick (.t 117) (.t 122) (.k (.bool false))⟩,
  ⟨some 6, none, .mv (.t 123)⟩]
def b_steadfastlaw19_QueueTurns_0 : C :=
    .seq (.seq ((.reg (some [0, 2, 7, 8, 9, 10, 11, 41]) o_steadfastlaw19_QueueTurns_12)) (
    .cond (.t 41) (
      .skip) (
      .exit 0))) (
    .seq (.block 1 (
      .seq ((.reg (some [0, 2, 7, 8, 9, 10, 11, 53]) o_steadfastlaw19_QueueTurns_13)) (
      .cond (.t 53) (
        (.reg (some [0, 2, 7, 8, 9, 10, 11]) o_steadfastlaw19_QueueTurns_14)) (
        .skip)))) (
    (.reg (some [0, 2, 7, 8, 9, 10, 11]) o_steadfastlaw19_QueueTurns_15)))
def b_steadfastlaw19_QueueTurns_1 : C :=
    .seq (.seq ((.reg (some [0, 2, 7, 8, 9, 10, 12, 13, 61]) o_steadfastlaw19_QueueTurns_18)) (
    .cond (.t 61) (
      .skip) (
      .exit 2))) (
    .seq (.block 3 (
      .seq ((.reg (some [0, 7, 8, 9, 10, 12, 13, 14, 15]) o_steadfastlaw19_QueueTurns_19)) (
      .seq (.seq ((.reg (some [0, 7, 8, 9, 10, 12, 13, 14, 103]) o_steadfastlaw19_QueueTurns_20)) (
      .cond (.t 103) (
        .seq ((.reg (some [6]) o_steadfastlaw19_QueueTurns_21)) (
        .ret)) (
        .skip))) (
      .seq ((.reg (some [0, 7, 8, 9, 10, 12, 13, 14]) o_steadfastlaw19_QueueTurns_22)) (
      (.reg (some [0, 2, 7, 8, 9, 10, 12, 13]) o_steadfastlaw19_QueueTurns_23)))))) (
    (.reg (some [0, 2, 7, 8, 9, 10, 12, 13]) o_steadfastlaw19_QueueTurns_24)))
/-- steadfast/steadfastlaw19.QueueTurns -/
@[go_sem] def fc_steadfastlaw19_QueueTurns : Fc := ⟨3,
  .seq ((.reg (some [0, 2, 4]) o_steadfastlaw19_QueueTurns_0)) (
  .seq ((.reg (some [0, 2, 4, 7]) o_steadfastlaw19_QueueTurns_1)) (
  .seq ((.reg (some [0, 2, 4, 7]) o_steadfastlaw19_QueueTurns_2)) (
  .seq ((.reg (some [0, 2, 4, 7, 8]) o_steadfastlaw19_QueueTurns_3)) (
  .seq (.seq ((.reg (some [0, 2, 4, 7, 8, 25]) o_steadfastlaw19_QueueTurns_4)) (
  .cond (.t 25) (
    (.reg (some [0, 2, 4, 7, 8]) o_steadfastlaw19_QueueTurns_5)) (
    .skip))) (
  .seq ((.reg (some [0, 2, 4, 7, 8]) o_steadfastlaw19_QueueTurns_6)) (
  .seq ((.reg (some [0, 2, 7, 8, 9]) o_steadfastlaw19_QueueTurns_7)) (
  .seq (.seq ((.reg (some [0, 2, 7, 8, 9, 35]) o_steadfastlaw19_QueueTurns_8)) (
  .cond (.t 35) (
    (.reg (some [0, 2, 7, 8, 9]) o_steadfastlaw19_QueueTurns_9)) (
    .skip))) (
  .seq ((.reg (some [0, 2, 7, 8, 9, 10]) o_steadfastlaw19_QueueTurns_10)) (
  .seq (.seq ((.reg (some [0, 2, 7, 8, 9, 10, 11]) o_steadfastlaw19_QueueTurns_11)) (
  .block 0 (
    .loop [0, 2, 7, 8, 9, 10, 11] b_steadfastlaw19_QueueTurns_0))) (
  .seq ((.reg (some [0, 2, 7, 8, 9, 10, 12]) o_steadfastlaw19_QueueTurns_16)) (
  .seq (.seq ((.reg (some [0, 2, 7, 8, 9, 10, 12, 13]) o_steadfastlaw19_QueueTurns_17)) (
  .block 2 (
    .loop [0, 2, 7, 8, 9, 10, 12, 13] b_steadfastlaw19_QueueTurns_1))) (
  .seq ((.reg (some [7, 10, 17]) o_steadfastlaw19_QueueTurns_25)) (
  .seq ((.reg (some [6]) o_steadfastlaw19_QueueTurns_26)) (
  .ret)))))))))))))),
  [.t 6]⟩
def o_steadfastlaw19_QueueCores_0 : List Ab.Op := [
  ⟨some 6, none, .mv (.k (.bool false))⟩]
def o_steadfastlaw19_QueueCores_1 : List Ab.Op := [
  ⟨some 16, none, .call (.k (.fn f_steadfastlaw19_shown [])) []⟩,
  ⟨some 7, none, .mv (.t 16)⟩]
def o_steadfastlaw19_QueueCores_2 : List Ab.Op := [
  ⟨some 17, none, .mv (.t 0)⟩,
  ⟨some 18, none, .call (.k (.fn f_steadfastlaw19_few [])) [(.t 17)]⟩,
  ⟨some 0, none, .mv (.t 18)⟩]
def o_steadfastlaw19_QueueCores_3 : List Ab.Op := [
  ⟨some 19, none, .mv (.t 1)⟩,
  ⟨some 20, none, .bin .rem (.t 19) (.k (.int .i64 8))⟩,
  ⟨some 8, none, .mv (.t 20)⟩]
def o_steadfastlaw19_QueueCores_4 : List Ab.Op := [
  ⟨some 21, none, .mv (.t 8)⟩,
  ⟨some 22, none, .bin .lss (.t 21) (.k (.int .i64 0))⟩]
def o_steadfastlaw19_QueueCores_5 : List Ab.Op := [
  ⟨some 23, none, .mv (.t 8)⟩,
  ⟨some 24, none, .un .neg (.t 23)⟩,
  ⟨some 8, none, .mv (.t 24)⟩]
def o_steadfastlaw19_QueueCores_6 : List Ab.Op := [
  ⟨some 25, none, .mv (.t 8)⟩,
  ⟨some 26, none, .bin .add (.t 25) (.k (.int .i64 1))⟩,
  ⟨some 8, none, .mv (.t 26)⟩]
def o_steadfastlaw19_QueueCores_7 : List Ab.Op := [
  ⟨some 27, none, .mv (.t 0)⟩,
  ⟨some 28, none, .len false (.t 27)⟩,
  ⟨some 29, none, .mksl false 20 0 (.bool false) (.t 28) (.t 28)⟩,
  ⟨some 9, none, .mv (.t 29)⟩]
def o_steadfastlaw19_QueueCores_8 : List Ab.Op := [
  ⟨some 10, none, .mv (.k (.int .i64 0))⟩]
def o_steadfastlaw19_QueueCores_9 : List Ab.Op := [
  ⟨some 30, none, .mv (.t 10)⟩,
  ⟨some 31, none, .mv (.t 8)⟩,
  ⟨some 32, none, .bin .lss (.t 30) (.t 31)⟩]
def o_steadfastlaw19_QueueCores_10 : List Ab.Op := [
  ⟨some 36, none, .mv (.t 0)⟩,
  ⟨some 37, none, .mv (.t 10)⟩,
  ⟨some 38, none, .mv (.t 8)⟩,
  ⟨some 39, none, .mv (.t 2)⟩,
  ⟨some 40, none, .call (.k (.fn f_queue_Next [])) [(.t 36), (.t 37), (.t 38), (.t 39)]⟩,
  ⟨some 35, none, .mv (.t 40)⟩,
  ⟨some 41, none, .ext (.t 35) 0⟩,
  ⟨some 42, none, .ext (.t 35) 1⟩,
  ⟨some 11, none, .mv (.t 41)⟩,
  ⟨some 12, none, .mv (.t 42)⟩]
def o_steadfastlaw19_QueueCores_11 : List Ab.Op := [
  ⟨some 43, none, .mv (.t 12)⟩,
  ⟨some 44, none, .bin .neq (.t 43) (.k (.int .i64 0))⟩]
def o_steadfastlaw19_QueueCores_12 : List Ab.Op := [
  ⟨some 45, none, .mv (.t 11)⟩,
  ⟨some 46, none, .bin .lss (.t 45) (.k (.int .i64 0))⟩,
  ⟨some 47, none, .mv (.t 46)⟩,
  ⟨some 48, some (47, false), .mv (.t 11)⟩,
  ⟨some 49, some (47, false), .mv (.t 0)⟩,
  ⟨some 50, some (47, false), .len false (.t 49)⟩,
  ⟨some 51, some (47, false), .bin .geq (.t 48) (.t 50)⟩,
  ⟨some 52, none, .pick (.t 47) (.k (.bool true)) (.t 51)⟩,
  ⟨some 53, none, .mv (.t 52)⟩,
  ⟨some 54, some (53, false), .mv (.t 9)⟩,
  ⟨some 55, some (53, false), .mv (.t 11)⟩,
  ⟨some 56, some (53, false), .sad 0 (.t 54) (.t 55)⟩,
  ⟨some 57, some (53, false), .ld 0 (.t 56)⟩,
  ⟨some 58, none, .pick (.t 53) (.k (.bool true)) (.t 57)⟩]
def o_steadfastlaw19_QueueCores_13 : List Ab.Op := [
  ⟨some 6, none, .mv (.k (.bool false))⟩]
def o_steadfastlaw19_QueueCores_14 : List Ab.Op := [
  ⟨some 59, none, .mv (.t 9)⟩,
  ⟨some 60, none, .mv (.t 11)⟩,
  ⟨some 61, none, .sad 0 (.t 59) (.t 60)⟩,
  ⟨none, none, .st 0 (.t 61) (.k (.bool true))⟩]
def o_steadfastlaw19_QueueCores_15 : List Ab.Op := [
  ⟨some 33, none, .mv (.t 10)⟩,
  ⟨some 34, none, .bin .add (.t 33) (.k (.int .i64 1))⟩,
  ⟨some 10, none, .mv (.t 34)⟩]
def o_steadfastlaw19_QueueCores_16 : List Ab.Op := [
  ⟨some 13, none, .mv (.k (.int .i64 0))⟩]
def o_steadfastlaw19_QueueCores_17 : List Ab.Op := [
  ⟨some 62, none, .mv (.t 13)⟩,
  ⟨some 63, none, .mv (.t 0)⟩,
  ⟨some 64, none, .len false (.t 63)⟩,
  ⟨some 65, none, .bin .lss (.t 62) (.t 64)⟩]
def o_steadfastlaw19_QueueCores_18 : List Ab.Op := [
  ⟨some 14, none, .mv (.k (.int .i64 0))⟩]
def o_steadfastlaw19_QueueCores_19 : List Ab.Op := [
  ⟨some 15, none, .mv (.k (.int .i64 0))⟩]
def o_steadfastlaw19_QueueCores_20 : List Ab.Op := [
  ⟨some 68, none, .mv (.t 15)⟩,
  ⟨some 69, none, .mv (.t 8)⟩,
  ⟨some 70, none, .bin .lss (.t 68) (.t 69)⟩]
def o_steadfastlaw19_QueueCores_21 : List Ab.Op := [
  ⟨some 73, none, .mv (.t 13)⟩,
  ⟨some 74, none, .mv (.t 15)⟩,
  ⟨some 75, none, .mv (.t 8)⟩,
  ⟨some 76, none, .call (.k (.fn f_queue_Mine [])) [(.t 73), (.t 74), (.t 75)]⟩]
def o_steadfastlaw19_QueueCores_22 : List Ab.Op := [
  ⟨some 77, none, .mv (.t 14)⟩,
  ⟨some 78, none, .bin .add (.t 77) (.k (.int .i64 1))⟩,
  ⟨some 14, none, .mv (.t 78)⟩]
def o_steadfastlaw19_QueueCores_23 : List Ab.Op := [
  ⟨some 71, none, .mv (.t 15)⟩,
  ⟨some 72, none, .bin .add (.t 71) (.k (.int .i64 1))⟩,
  ⟨some 15, none, .mv (.t 72)⟩]
def o_steadfastlaw19_QueueCores_24 : List Ab.Op := [
  ⟨some 79, none, .mv (.t 14)⟩,
  ⟨some 80, none, .bin .neq (.t 79) (.k (.int .i64 1))⟩]
def o_steadfastlaw19_QueueCores_25 : List Ab.Op := [
  ⟨some 6, none, .mv (.k (.bool false))⟩]
def o_steadfastlaw19_QueueCores_26 : List Ab.Op := [
  ⟨some 66, none, .mv (.t 13)⟩,
  ⟨some 67, none, .bin .add (.t 66) (.k (.int .i64 1))⟩,
  ⟨some 13, none, .mv (.t 67)⟩]
def o_steadfastlaw19_QueueCores_27 : List Ab.Op := [
  ⟨some 81, none, .mv (.t 7)⟩,
  ⟨some 6, none, .mv (.t 81)⟩]
def b_steadfastlaw19_QueueCores_0 : C :=
    .seq (.seq ((.reg (some [0, 2, 7, 8, 9, 10, 32]) o_steadfastlaw19_QueueCores_9)) (
    .cond (.t 32) (
      .skip) (
      .exit 0))) (
    .seq (.block 1 (
      .seq ((.reg (some [0, 2, 7, 8, 9, 10, 11, 12]) o_steadfastlaw19_QueueCores_10)) (
      .seq (.seq ((.reg (some [0, 2, 7, 8, 9, 10, 11, 44]) o_steadfastlaw19_QueueCores_11)) (
      .cond (.t 44) (
        .exit 1) (
        .skip))) (
      .seq (.seq ((.reg (some [0, 2, 7, 8, 9, 10, 11, 58]) o_steadfastlaw19_QueueCores_12)) (
      .cond (.t 58) (
        .seq ((.reg (some [6]) o_steadfastlaw19_QueueCores_13)) (
        .ret)) (
        .skip))) (
      (.reg (some [0, 2, 7, 8, 9, 10]) o_steadfastlaw19_QueueCores_14)))))) (
    (.reg (some [0, 2, 7, 8, 9, 10]) o_steadfastlaw19_QueueCores_15)))
def b_steadfastlaw19_QueueCores_2 : C :=
    .seq (.seq ((.reg (some [0, 7, 8, 13, 14, 15, 70]) o_steadfastlaw19_QueueCores_20)) (
    .cond (.t 70) (
      .skip) (
      .exit 4))) (
    .seq (.block 5 (
      .seq ((.reg (some [0, 7, 8, 13, 14, 15, 76]) o_steadfastlaw19_QueueCores_21)) (
      .cond (.t 76) (
        (.reg (some [0, 7, 8, 13, 14, 15]) o_steadfastlaw19_QueueCores_22)) (
        .skip)))) (
    (.reg (some [0, 7, 8, 13, 14, 15]) o_steadfastlaw19_QueueCores_23)))
def b_steadfastlaw19_QueueCores_1 : C :=
    .seq (.seq ((.reg (some [0, 7, 8, 13, 65]) o_steadfastlaw19_QueueCores_17)) (
    .cond (.t 65) (
      .skip) (
      .exit 2))) (
    .seq (.block 3 (
      .seq ((.reg (some [0, 7, 8, 13, 14]) o_steadfastlaw19_QueueCores_18)) (
      .seq (.seq ((.reg (some [0, 7, 8, 13, 14, 15]) o_steadfastlaw19_QueueCores_19)) (
      .block 4 (
        .loop [0, 7, 8, 13, 14, 15] b_steadfastlaw19_QueueCores_2))) (
      .seq ((.reg (some [0, 7, 8, 13, 80]) o_steadfastlaw19_QueueCores_24)) (
      .cond (.t 80) (
        .seq ((.reg (some [6]) o_steadfastlaw19_QueueCores_25)) (
        .ret)) (
        .skip)))))) (
    (.reg (some [0, 7, 8, 13]) o_steadfastlaw19_QueueCores_26)))
/-- steadfast/steadfastlaw19.QueueCores -/
@[go_sem] def fc_steadfastlaw19_QueueCores : Fc := ⟨3,
  .seq ((.reg (some [0, 1, 2]) o_steadfastlaw19_QueueCores_0)) (
  .seq ((.reg (some [0, 1, 2, 7]) o_steadfastlaw19_QueueCores_1)) (
  .seq ((.reg (some [0, 1, 2, 7]) o_steadfastlaw19_QueueCores_2)) (
  .seq ((.reg (some [0, 2, 7, 8]) o_steadfastlaw19_QueueCores_3)) (
  .seq (.seq ((.reg (some [0, 2, 7, 8, 22]) o_steadfastlaw19_QueueCores_4)) (
  .cond (.t 22) (
    (.reg (some [0, 2, 7, 8]) o_steadfastlaw19_QueueCores_5)) (
    .skip))) (
  .seq ((.reg (some [0, 2, 7, 8]) o_steadfastlaw19_QueueCores_6)) (
  .seq ((.reg (some [0, 2, 7, 8, 9]) o_steadfastlaw19_QueueCores_7)) (
  .seq (.seq ((.reg (some [0, 2, 7, 8, 9, 10]) o_steadfastlaw19_QueueCores_8)) (
  .block 0 (
    .loop [0, 2, 7, 8, 9, 10] b_steadfastlaw19_QueueCores_0))) (
  .seq (.seq ((.reg (some [0, 7, 8, 13]) o_steadfastlaw19_QueueCores_16)) (
  .block 2 (
    .loop [0, 7, 8, 13] b_steadfastlaw19_QueueCores_1))) (
  .seq ((.reg (some [6]) o_steadfastlaw19_QueueCores_27)) (
  .ret)))))))))),
  [.t 6]⟩
def o_steadfastlaw19_shown_0 : List Ab.Op := [
  ⟨some 0, none, .mv (.k (.bool false))⟩]
def o_steadfastlaw19_shown_1 : List Ab.Op := [
  ⟨some 12, none, .bsl false 20 0 (.bool false) 3 [(0, (.k (.bool true))), (1, (.k (.bool true))), (2, (.k (.bool true)))]⟩,
  ⟨some 13, none, .call (.k (.fn f_queue_Next [])) [(.t 12), (.k (.int .i64 0)), (.k (.int .i64 1)), (.k (.int .i64 0))]⟩,
  ⟨some 11, none, .mv (.t 13)⟩,
  ⟨some 14, none, .ext (.t 11) 0⟩,
  ⟨some 15, none, .ext (.t 11) 1⟩,
  ⟨some 1, none, .mv (.t 14)⟩,
  ⟨some 2, none, .mv (.t 15)⟩]
def o_steadfastlaw19_shown_2 : List Ab.Op := [
  ⟨some 17, none, .bsl false 20 0 (.bool false) 3 [(0, (.k (.bool true))), (1, (.k (.bool true))), (2, (.k (.bool true)))]⟩,
  ⟨some 18, none, .call (.k (.fn f_queue_Next [])) [(.t 17), (.k (.int .i64 0)), (.k (.int .i64 1)), (.k (.int .i64 2))]⟩,
  ⟨some 16, none, .mv (.t 18)⟩,
  ⟨some 19, none, .ext (.t 16) 0⟩,
  ⟨some 20, none, .ext (.t 16) 1⟩,
  ⟨some 3, none, .mv (.t 19)⟩,
  ⟨some 4, none, .mv (.t 20)⟩]
def o_steadfastlaw19_shown_3 : List Ab.Op := [
  ⟨some 22, none, .bsl false 20 0 (.bool false) 2 [(0, (.k (.bool true))), (1, (.k (.bool true)))]⟩,
  ⟨some 23, none, .call (.k (.fn f_queue_Next [])) [(.t 22), (.k (.int .i64 1)), (.k (.int .i64 2)), (.k (.int .i64 1))]⟩,
  ⟨some 21, none, .mv (.t 23)⟩,
  ⟨some 24, none, .ext (.t 21) 0⟩,
  ⟨some 25, none, .ext (.t 21) 1⟩,
  ⟨some 5, none, .mv (.t 24)⟩,
  ⟨some 6, none, .mv (.t 25)⟩]
def o_steadfastlaw19_shown_4 : List Ab.Op := [
  ⟨some 27, none, .bsl false 20 0 (.bool false) 1 [(0, (.k (.bool true)))]⟩,
  ⟨some 28, none, .call (.k (.fn f_queue_Next [])) [(.t 27), (.k (.int .i64 1)), (.k (.int .i64 2)), (.k (.int .i64 0))]⟩,
  ⟨some 26, none, .mv (.t 28)⟩,
  ⟨some 29, none, .ext (.t 26) 0⟩,
  ⟨some 30, none, .ext (.t 26) 1⟩,
  ⟨some 7, none, .mv (.t 29)⟩,
  ⟨some 8, none, .mv (.t 30)⟩]
def o_steadfastlaw19_shown_5 : List Ab.Op := [
  ⟨some 32, none, .bsl false 20 0 (.bool false) 1 [(0, (.k (.bool true)))]⟩,
  ⟨some 33, none, .call (.k (.fn f_queue_Next [])) [(.t 32), (.k (.int .i64 2)), (.k (.int .i64 2)), (.k (.int .i64 0))]⟩,
  ⟨some 31, none, .mv (.t 33)⟩,
  ⟨some 34, none, .ext (.t 31) 0⟩,
  ⟨some 35, none, .ext (.t 31) 1⟩,
  ⟨some 9, none, .mv (.t 34)⟩,
  ⟨some 10, none, .mv (.t 35)⟩]
def o_steadfastlaw19_shown_6 : List Ab.Op := [
  ⟨some 36, none, .mv (.t 1)⟩,
  ⟨some 37, none, .bin .eql (.t 36) (.k (.int .i64 1))⟩,
  ⟨some 38, none, .mv (.t 37)⟩,
  ⟨some 39, some (38, true), .mv (.t 2)⟩,
  ⟨some 40, some (38, true), .bin .eql (.t 39) (.k (.int .i64 0))⟩,
  ⟨some 41, none, .pick (.t 38) (.t 40) (.k (.bool false))⟩,
  ⟨some 42, none, .mv (.t 41)⟩,
  ⟨some 43, some (42, true), .mv (.t 3)⟩,
  ⟨some 44, some (42, true), .bin .eql (.t 43) (.k (.int .i64 0))⟩,
  ⟨some 45, none, .pick (.t 42) (.t 44) (.k (.bool false))⟩,
  ⟨some 46, none, .mv (.t 45)⟩,
  ⟨some 47, some (46, true), .mv (.t 4)⟩,
  ⟨some 48, some (46, true), .bin .eql (.t 47) (.k (.int .i64 0))⟩,
  ⟨some 49, none, .pick (.t 46) (.t 48) (.k (.bool false))⟩,
  ⟨some 50, none, .mv (.t 49)⟩,
  ⟨some 51, some (50, true), .mv (.t 5)⟩,
  ⟨some 52, some (50, true), .bin .eql (.t 51) (.k (.int .i64 1))⟩,
  ⟨some 53, none, .pick (.t 50) (.t 52) (.k (.bool false))⟩,
  ⟨some 54, none, .mv (.t 53)⟩,
  ⟨some 55, some (54, true), .mv (.t 6)⟩,
  ⟨some 56, some (54, true), .bin .eql (.t 55) (.k (.int .i64 0))⟩,
  ⟨some 57, none, .pick (.t 54) (.t 56) (.k (.bool false))⟩,
  ⟨some 58, none, .mv (.t 57)⟩,
  ⟨some 59, some (58, true), .mv (.t 8)⟩,
  ⟨some 60, some (58, true), .bin .eql (.t 59) (.k (.int .i64 50))⟩,
  ⟨some 61, none, .pick (.t 58) (.t 60) (.k (.bool false))⟩,
  ⟨some 62, none, .mv (.t 61)⟩,
  ⟨some 63, some (62, true), .mv (.t 10)⟩,
  ⟨some 64, some (62, true), .bin .eql (.t 63) (.k (.int .i64 1))⟩,
  ⟨some 65, none, .pick (.t 62) (.t 64) (.k (.bool false))⟩,
  ⟨some 0, none, .mv (.t 65)⟩]
/-- steadfast/steadfastlaw19.shown -/
@[go_sem] def fc_steadfastlaw19_shown : Fc := ⟨0,
  .seq ((.reg (some []) o_steadfastlaw19_shown_0)) (
  .seq ((.reg (some [1, 2]) o_steadfastlaw19_shown_1)) (
  .seq ((.reg (some [1, 2, 3, 4]) o_steadfastlaw19_shown_2)) (
  .seq ((.reg (some [1, 2, 3, 4, 5, 6]) o_steadfastlaw19_shown_3)) (
  .seq ((.reg (some [1, 2, 3, 4, 5, 6, 8]) o_steadfastlaw19_shown_4)) (
  .seq ((.reg (some [1, 2, 3, 4, 5, 6, 8, 10]) o_steadfastlaw19_shown_5)) (
  .seq ((.reg (some [0]) o_steadfastlaw19_shown_6)) (
  .ret))))))),
  [.t 0]⟩
def o_queue_Next_0 : List Ab.Op := [
  ⟨some 4, none, .box false (.t 0)⟩,
  ⟨some 5, none, .box false (.t 1)⟩,
  ⟨some 6, none, .box false (.t 2)⟩,
  ⟨some 8, none, .mv (.k (.int .i64 0))⟩,
  ⟨some 9, none, .mv (.k (.int .i64 0))⟩]
def o_queue_Next_1 : List Ab.Op := [
  ⟨some 15, none, .ld 10 (.t 6)⟩,
  ⟨some 16, none, .bin .lss (.t 15) (.k (.int .i64 1))⟩,
  ⟨some 17, none, .mv (.t 16)⟩,
  ⟨some 18, some (17, false), .ld 10 (.t 6)⟩,
  ⟨some 19, some (17, false), .bin .gtr (.t 18) (.k (.int .i64 8))⟩,
  ⟨some 20, none, .pick (.t 17) (.k (.bool true)) (.t 19)⟩,
  ⟨some 21, none, .mv (.t 20)⟩,
  ⟨some 22, some (21, false), .ld 10 (.t 5)⟩,
  ⟨some 23, some (21, false), .bin .lss (.t 22) (.k (.int .i64 0))⟩,
  ⟨some 24, none, .pick (.t 21) (.k (.bool true)) (.t 23)⟩,
  ⟨some 25, none, .mv (.t 24)⟩,
  ⟨some 26, some (25, false), .ld 10 (.t 5)⟩,
  ⟨some 27, some (25, false), .ld 10 (.t 6)⟩,
  ⟨some 28, some (25, false), .bin .geq (.t 26) (.t 27)⟩,
  ⟨some 29, none, .pick (.t 25) (.k (.bool true)) (.t 28)⟩]
def o_queue_Next_2 : List Ab.Op := [
  ⟨some 8, none, .mv (.k (.int .i64 0))⟩,
  ⟨some 9, none, .mv (.k (.int .i64 1))⟩]
def o_queue_Next_3 : List Ab.Op := [
  ⟨some 30, none, .mkfn f_queue_Next_1 [(.t 4), (.t 5), (.t 6)]⟩,
  ⟨some 10, none, .mv (.t 30)⟩]
def o_queue_Next_4 : List Ab.Op := [
  ⟨some 31, none, .mv (.t 3)⟩,
  ⟨some 32, none, .bin .geq (.t 31) (.k (.int .i64 0))⟩,
  ⟨some 33, none, .mv (.t 32)⟩,
  ⟨some 34, some (33, true), .mv (.t 3)⟩,
  ⟨some 35, some (33, true), .ld 1 (.t 4)⟩,
  ⟨some 36, some (33, true), .len false (.t 35)⟩,
  ⟨some 37, some (33, true), .bin .lss (.t 34) (.t 36)⟩,
  ⟨some 38, none, .pick (.t 33) (.t 37) (.k (.bool false))⟩]
def o_queue_Next_5 : List Ab.Op := [
  ⟨some 40, none, .mv (.t 10)⟩,
  ⟨some 41, none, .mv (.t 3)⟩,
  ⟨some 42, none, .bin .add (.t 41) (.k (.int .i64 1))⟩,
  ⟨some 43, none, .call (.t 40) [(.t 42)]⟩,
  ⟨some 39, none, .mv (.t 43)⟩,
  ⟨some 44, none, .ext (.t 39) 0⟩,
  ⟨some 45, none, .ext (.t 39) 1⟩,
  ⟨some 11, none, .mv (.t 44)⟩,
  ⟨some 12, none, .mv (.t 45)⟩]
def o_queue_Next_6 : List Ab.Op := [
  ⟨some 46, none, .mv (.t 12)⟩]
def o_queue_Next_7 : List Ab.Op := [
  ⟨some 47, none, .mv (.t 11)⟩,
  ⟨some 8, none, .mv (.t 47)⟩,
  ⟨some 9, none, .mv (.k (.int .i64 0))⟩]
def o_queue_Next_8 : List Ab.Op := [
  ⟨some 49, none, .mv (.t 10)⟩,
  ⟨some 50, none, .call (.t 49) [(.k (.int .i64 0))]⟩,
  ⟨some 48, none, .mv (.t 50)⟩,
  ⟨some 51, none, .ext (.t 48) 0⟩,
  ⟨some 52, none, .ext (.t 48) 1⟩,
  ⟨some 13, none, .mv (.t 51)⟩,
  ⟨some 14, none, .mv (.t 52)⟩]
def o_queue_Next_9 : List Ab.Op := [
  ⟨some 53, none, .mv (.t 14)⟩]
def o_queue_Next_10 : List Ab.Op := [
  ⟨some 54, none, .mv (.t 13)⟩,
  ⟨some 8, none, .mv (.t 54)⟩,
  ⟨some 9, none, .mv (.k (.int .i64 0))⟩]
def o_queue_Next_11 : List Ab.Op := [
  ⟨some 8, none, .mv (.k (.int .i64 0))⟩,
  ⟨some 9, none, .mv (.k (.int .i64 50))⟩]
/-- steadfast/queue.Next -/
@[go_sem] def fc_queue_Next : Fc := ⟨4,
  .seq ((.reg (some [3, 4, 5, 6]) o_queue_Next_0)) (
  .seq (.seq ((.reg (some [3, 4, 5, 6, 29]) o_queue_Next_1)) (
  .cond (.t 29) (
    .seq ((.reg (some [8, 9]) o_queue_Next_2)) (
    .ret)) (
    .skip))) (
  .seq ((.reg (some [3, 4, 10]) o_queue_Next_3)) (
  .seq (.seq ((.reg (some [3, 10, 38]) o_queue_Next_4)) (
  .cond (.t 38) (
    .seq ((.reg (some [10, 11, 12]) o_queue_Next_5)) (
    .seq ((.reg (some [10, 11, 46]) o_queue_Next_6)) (
    .cond (.t 46) (
      .seq ((.reg (some [8, 9]) o_queue_Next_7)) (
      .ret)) (
      .skip)))) (
    .skip))) (
  .seq (.seq ((.reg (some [13, 14]) o_queue_Next_8)) (
  .seq ((.reg (some [13, 53]) o_queue_Next_9)) (
  .cond (.t 53) (
    .seq ((.reg (some [8, 9]) o_queue_Next_10)) (
    .ret)) (
    .skip)))) (
  .seq ((.reg (some [8, 9]) o_queue_Next_11)) (
  .ret)))))),
  [.t 8, .t 9]⟩
def o_steadfastlaw19_few_0 : List Ab.Op := [
  ⟨some 2, none, .mv (.k .nils)⟩]
def o_steadfastlaw19_few_1 : List Ab.Op := [
  ⟨some 3, none, .mv (.t 0)⟩,
  ⟨some 4, none, .len false (.t 3)⟩,
  ⟨some 5, none, .bin .gtr (.t 4) (.k (.int .i64 100))⟩]
def o_steadfastlaw19_few_2 : List Ab.Op := [
  ⟨some 6, none, .mv (.t 0)⟩,
  ⟨some 7, none, .slc 0 (.t 6) none (some (.k (.int .i64 100))) none⟩,
  ⟨some 2, none, .mv (.t 7)⟩]
def o_steadfastlaw19_few_3 : List Ab.Op := [
  ⟨some 8, none, .mv (.t 0)⟩,
  ⟨some 2, none, .mv (.t 8)⟩]
/-- steadfast/steadfastlaw19.few -/
@[go_sem] def fc_steadfastlaw19_few : Fc := ⟨1,
  .seq ((.reg (some [0]) o_steadfastlaw19_few_0)) (
  .seq (.seq ((.reg (some [0, 5]) o_steadfastlaw19_few_1)) (
  .cond (.t 5) (
    .seq ((.reg (some [2]) o_steadfastlaw19_few_2)) (
    .ret)) (
    .skip))) (
  .seq ((.reg (some [2]) o_steadfastlaw19_few_3)) (
  .ret))),
  [.t 2]⟩
def o_steadfastref19_Next_0 : List Ab.Op := [
  ⟨some 8, none, .mv (.k (.int .i64 0))⟩,
  ⟨some 9, none, .mv (.k (.int .i64 0))⟩]
def o_steadfastref19_Next_1 : List Ab.Op := [
  ⟨some 12, none, .mv (.t 2)⟩,
  ⟨some 13, none, .bin .lss (.t 12) (.k (.int .i64 1))⟩,
  ⟨some 14, none, .mv (.t 13)⟩,
  ⟨some 15, some (14, false), .mv (.t 2)⟩,
  ⟨some 16, some (14, false), .bin .gtr (.t 15) (.k (.int .i64 8))⟩,
  ⟨some 17, none, .pick (.t 14) (.k (.bool true)) (.t 16)⟩,
  ⟨some 18, none, .mv (.t 17)⟩,
  ⟨some 19, some (18, false), .mv (.t 1)⟩,
  ⟨some 20, some (18, false), .bin .lss (.t 19) (.k (.int .i64 0))⟩,
  ⟨some 21, none, .pick (.t 18) (.k (.bool true)) (.t 20)⟩,
  ⟨some 22, none, .mv (.t 21)⟩,
  ⟨some 23, some (22, false), .mv (.t 1)⟩,
  ⟨some 24, some (22, false), .mv (.t 2)⟩,
  ⟨some 25, some (22, false), .bin .geq (.t 23) (.t 24)⟩,
  ⟨some 26, none, .pick (.t 22) (.k (.bool true)) (.t 25)⟩]
def o_steadfastref19_Next_2 : List Ab.Op := [
  ⟨some 8, none, .mv (.k (.int .i64 0))⟩,
  ⟨some 9, none, .mv (.k (.int .i64 1))⟩]
def o_steadfastref19_Next_3 : List Ab.Op := [
  ⟨some 10, none, .mv (.k (.int .i64 (-1)))⟩]
def o_steadfastref19_Next_4 : List Ab.Op := [
  ⟨some 11, none, .mv (.k (.int .i64 0))⟩]
def o_steadfastref19_Next_5 : List Ab.Op := [
  ⟨some 27, none, .mv (.t 11)⟩,
  ⟨some 28, none, .mv (.t 0)⟩,
  ⟨some 29, none, .len false (.t 28)⟩,
  ⟨some 30, none, .bin .lss (.t 27) (.t 29)⟩]
def o_steadfastref19_Next_6 : List Ab.Op := [
  ⟨some 33, none, .mv (.t 0)⟩,
  ⟨some 34, none, .mv (.t 11)⟩,
  ⟨some 35, none, .sad 0 (.t 33) (.t 34)⟩,
  ⟨some 36, none, .ld 0 (.t 35)⟩,
  ⟨some 37, none, .un .not (.t 36)⟩,
  ⟨some 38, none, .mv (.t 37)⟩,
  ⟨some 39, some (38, false), .mv (.t 11)⟩,
  ⟨some 40, some (38, false), .mv (.t 1)⟩,
  ⟨some 41, some (38, false), .mv (.t 2)⟩,
  ⟨some 42, some (38, false), .call (.k (.fn f_steadfastref19_Mine [])) [(.t 39), (.t 40), (.t 41)]⟩,
  ⟨some 43, some (38, false), .un .not (.t 42)⟩,
  ⟨some 44, none, .pick (.t 38) (.k (.bool true)) (.t 43)⟩]
def o_steadfastref19_Next_7 : List Ab.Op := [
  ⟨some 45, none, .mv (.t 11)⟩,
  ⟨some 46, none, .mv (.t 3)⟩,
  ⟨some 47, none, .bin .gtr (.t 45) (.t 46)⟩]
def o_steadfastref19_Next_8 : List Ab.Op := [
  ⟨some 48, none, .mv (.t 11)⟩,
  ⟨some 8, none, .mv (.t 48)⟩,
  ⟨some 9, none, .mv (.k (.int .i64 0))⟩]
def o_steadfastref19_Next_9 : List Ab.Op := [
  ⟨some 49, none, .mv (.t 10)⟩,
  ⟨some 50, none, .bin .lss (.t 49) (.k (.int .i64 0))⟩]
def o_steadfastref19_Next_10 : List Ab.Op := [
  ⟨some 51, none, .mv (.t 11)⟩,
  ⟨some 10, none, .mv (.t 51)⟩]
def o_steadfastref19_Next_11 : List Ab.Op := [
  ⟨some 31, none, .mv (.t 11)⟩,
  ⟨some 32, none, .bin .add (.t 31) (.k (.int .i64 1))⟩,
  ⟨some 11, none, .mv (.t 32)⟩]
def o_steadfastref19_Next_12 : List Ab.Op := [
  ⟨some 52, none, .mv (.t 10)⟩,
  ⟨some 53, none, .bin .lss (.t 52) (.k (.int .i64 0))⟩]
def o_steadfastref19_Next_13 : List Ab.Op := [
  ⟨some 8, none, .mv (.k (.int .i64 0))⟩,
  ⟨some 9, none, .mv (.k (.int .i64 50))⟩]
def o_steadfastref19_Next_14 : List Ab.Op := [
  ⟨some 54, none, .mv (.t 10)⟩,
  ⟨some 8, none, .mv (.t 54)⟩,
  ⟨some 9, none, .mv (.k (.int .i64 0))⟩]
def b_steadfastref19_Next_0 : C :=
    .seq (.seq ((.reg (some [0, 1, 2, 3, 10, 11, 30]) o_steadfastref19_Next_5)) (
    .cond (.t 30) (
      .skip) (
      .exit 0))) (
    .seq (.block 1 (
      .seq (.seq ((.reg (some [0, 1, 2, 3, 10, 11, 44]) o_steadfastref19_Next_6)) (
      .cond (.t 44) (
        .exit 1) (
        .skip))) (
      .seq (.seq ((.reg (some [0, 1, 2, 3, 10, 11, 47]) o_steadfastref19_Next_7)) (
      .cond (.t 47) (
        .seq ((.reg (some [8, 9]) o_steadfastref19_Next_8)) (
        .ret)) (
        .skip))) (
      .seq ((.reg (some [0, 1, 2, 3, 10, 11, 50]) o_steadfastref19_Next_9)) (
      .cond (.t 50) (
        (.reg (some [0, 1, 2, 3, 10, 11]) o_steadfastref19_Next_10)) (
        .skip)))))) (
    (.reg (some [0, 1, 2, 3, 10, 11]) o_steadfastref19_Next_11)))
/-- steadfast/steadfastref19.Next -/
@[go_sem] def fc_steadfastref19_Next : Fc := ⟨4,
  .seq ((.reg (some [0, 1, 2, 3]) o_steadfastref19_Next_0)) (
  .seq (.seq ((.reg (some [0, 1, 2, 3, 26]) o_steadfastref19_Next_1)) (
  .cond (.t 26) (
    .seq ((.reg (some [8, 9]) o_steadfastref19_Next_2)) (
    .ret)) (
    .skip))) (
  .seq ((.reg (some [0, 1, 2, 3, 10]) o_steadfastref19_Next_3)) (
  .seq (.seq ((.reg (some [0, 1, 2, 3, 10, 11]) o_steadfastref19_Next_4)) (
  .block 0 (
    .loop [0, 1, 2, 3, 10, 11] b_steadfastref19_Next_0))) (
  .seq (.seq ((.reg (some [10, 53]) o_steadfastref19_Next_12)) (
  .cond (.t 53) (
    .seq ((.reg (some [8, 9]) o_steadfastref19_Next_13)) (
    .ret)) (
    .skip))) (
  .seq ((.reg (some [8, 9]) o_steadfastref19_Next_14)) (
  .ret)))))),
  [.t 8, .t 9]⟩
def o_queue_Mine_0 : List Ab.Op := [
  ⟨some 6, none, .mv (.k (.bool false))⟩]
def o_queue_Mine_1 : List Ab.Op := [
  ⟨some 7, none, .mv (.t 2)⟩,
  ⟨some 8, none, .bin .geq (.t 7) (.k (.int .i64 1))⟩,
  ⟨some 9, none, .mv (.t 8)⟩,
  ⟨some 10, some (9, true), .mv (.t 0)⟩,
  ⟨some 11, some (9, true), .bin .geq (.t 10) (.k (.int .i64 0))⟩,
  ⟨some 12, none, .pick (.t 9) (.t 11) (.k (.bool false))⟩,
  ⟨some 13, none, .mv (.t 12)⟩,
  ⟨some 14, some (13, true), .mv (.t 0)⟩,
  ⟨some 15, some (13, true), .mv (.t 2)⟩,
  ⟨some 16, some (13, true), .bin .rem (.t 14) (.t 15)⟩,
  ⟨some 17, some (13, true), .mv (.t 1)⟩,
  ⟨some 18, some (13, true), .bin .eql (.t 16) (.t 17)⟩,
  ⟨some 19, none, .pick (.t 13) (.t 18) (.k (.bool false))⟩,
  ⟨some 6, none, .mv (.t 19)⟩]
/-- steadfast/queue.Mine -/
@[go_sem] def fc_queue_Mine : Fc := ⟨3,
  .seq ((.reg (some [0, 1, 2]) o_queue_Mine_0)) (
  .seq ((.reg (some [6]) o_queue_Mine_1)) (
  .ret)),
  [.t 6]⟩
def o_steadfastref19_Mine_0 : List Ab.Op := [
  ⟨some 6, none, .mv (.k (.bool false))⟩]
def o_steadfastref19_Mine_1 : List Ab.Op := [
  ⟨some 7, none, .mv (.t 2)⟩,
  ⟨some 8, none, .bin .geq (.t 7) (.k (.int .i64 1))⟩,
  ⟨some 9, none, .mv (.t 8)⟩,
  ⟨some 10, some (9, true), .mv (.t 0)⟩,
  ⟨some 11, some (9, true), .bin .geq (.t 10) (.k (.int .i64 0))⟩,
  ⟨some 12, none, .pick (.t 9) (.t 11) (.k (.bool false))⟩,
  ⟨some 13, none, .mv (.t 12)⟩,
  ⟨some 14, some (13, true), .mv (.t 0)⟩,
  ⟨some 15, some (13, true), .mv (.t 2)⟩,
  ⟨some 16, some (13, true), .bin .rem (.t 14) (.t 15)⟩,
  ⟨some 17, some (13, true), .mv (.t 1)⟩,
  ⟨some 18, some (13, true), .bin .eql (.t 16) (.t 17)⟩,
  ⟨some 19, none, .pick (.t 13) (.t 18) (.k (.bool false))⟩,
  ⟨some 6, none, .mv (.t 19)⟩]
/-- steadfast/steadfastref19.Mine -/
@[go_sem] def fc_steadfastref19_Mine : Fc := ⟨3,
  .seq ((.reg (some [0, 1, 2]) o_steadfastref19_Mine_0)) (
  .seq ((.reg (some [6]) o_steadfastref19_Mine_1)) (
  .ret)),
  [.t 6]⟩
def o_queue_Next_1_0 : List Ab.Op := [
  ⟨some 5, none, .mv (.k (.int .i64 0))⟩,
  ⟨some 6, none, .mv (.k (.bool false))⟩]
def o_queue_Next_1_1 : List Ab.Op := [
  ⟨some 8, none, .mv (.t 0)⟩,
  ⟨some 7, none, .mv (.t 8)⟩]
def o_queue_Next_1_2 : List Ab.Op := [
  ⟨some 9, none, .mv (.t 7)⟩,
  ⟨some 10, none, .ld 1 (.t 1)⟩,
  ⟨some 11, none, .len false (.t 10)⟩,
  ⟨some 12, none, .bin .lss (.t 9) (.t 11)⟩]
def o_queue_Next_1_3 : List Ab.Op := [
  ⟨some 15, none, .ld 1 (.t 1)⟩,
  ⟨some 16, none, .mv (.t 7)⟩,
  ⟨some 17, none, .sad 0 (.t 15) (.t 16)⟩,
  ⟨some 18, none, .ld 0 (.t 17)⟩,
  ⟨some 19, none, .mv (.t 18)⟩,
  ⟨some 20, some (19, true), .mv (.t 7)⟩,
  ⟨some 21, some (19, true), .ld 10 (.t 2)⟩,
  ⟨some 22, some (19, true), .ld 10 (.t 3)⟩,
  ⟨some 23, some (19, true), .call (.k (.fn f_queue_Mine [])) [(.t 20), (.t 21), (.t 22)]⟩,
  ⟨some 24, none, .pick (.t 19) (.t 23) (.k (.bool false))⟩]
def o_queue_Next_1_4 : List Ab.Op := [
  ⟨some 25, none, .mv (.t 7)⟩,
  ⟨some 5, none, .mv (.t 25)⟩,
  ⟨some 6, none, .mv (.k (.bool true))⟩]
def o_queue_Next_1_5 : List Ab.Op := [
  ⟨some 13, none, .mv (.t 7)⟩,
  ⟨some 14, none, .bin .add (.t 13) (.k (.int .i64 1))⟩,
  ⟨some 7, none, .mv (.t 14)⟩]
def o_queue_Next_1_6 : List Ab.Op := [
  ⟨some 5, none, .mv (.k (.int .i64 0))⟩,
  ⟨some 6, none, .mv (.k (.bool false))⟩]
def b_queue_Next_1_0 : C :=
    .seq (.seq ((.reg (some [1, 2, 3, 7, 12]) o_queue_Next_1_2)) (
    .cond (.t 12) (
      .skip) (
      .exit 0))) (
    .seq (.block 1 (
      .seq ((.reg (some [1, 2, 3, 7, 24]) o_queue_Next_1_3)) (
      .cond (.t 24) (
        .seq ((.reg (some [5, 6]) o_queue_Next_1_4)) (
        .ret)) (
        .skip)))) (
    (.reg (some [1, 2, 3, 7]) o_queue_Next_1_5)))
/-- steadfast/queue.Next$1 -/
@[go_sem] def fc_queue_Next_1 : Fc := ⟨4,
  .seq ((.reg (some [0, 1, 2, 3]) o_queue_Next_1_0)) (
  .seq (.seq ((.reg (some [1, 2, 3, 7]) o_queue_Next_1_1)) (
  .block 0 (
    .loop [1, 2, 3, 7] b_queue_Next_1_0))) (
  .seq ((.reg (some [5, 6]) o_queue_Next_1_6)) (
  .ret))),
  [.t 5, .t 6]⟩
def D : Nat → Option Fc
  | 3 => some fc_steadfastlaw19_QueueNexts
  | 4 => some fc_steadfastlaw19_QueueTurns
  | 5 => some fc_steadfastlaw19_QueueCores
  | 10 => some fc_steadfastlaw19_shown
  | 11 => some fc_queue_Next
  | 12 => some fc_steadfastlaw19_few
  | 13 => some fc_steadfastref19_Next
  | 14 => some fc_queue_Mine
  | 15 => some fc_steadfastref19_Mine
  | 28 => some fc_queue_Next_1
  | _ => none
theorem D_steadfastlaw19_QueueNexts : D f_steadfastlaw19_QueueNexts = some fc_steadfastlaw19_QueueNexts := rfl
theorem D_steadfastlaw19_QueueTurns : D f_steadfastlaw19_QueueTurns = some fc_steadfastlaw19_QueueTurns := rfl
theorem D_steadfastlaw19_QueueCores : D f_steadfastlaw19_QueueCores = some fc_steadfastlaw19_QueueCores := rfl
theorem D_steadfastlaw19_shown : D f_steadfastlaw19_shown = some fc_steadfastlaw19_shown := rfl
theorem D_queue_Next : D f_queue_Next = some fc_queue_Next := rfl
theorem D_steadfastlaw19_few : D f_steadfastlaw19_few = some fc_steadfastlaw19_few := rfl
theorem D_steadfastref19_Next : D f_steadfastref19_Next = some fc_steadfastref19_Next := rfl
theorem D_queue_Mine : D f_queue_Mine = some fc_queue_Mine := rfl
theorem D_steadfastref19_Mine : D f_steadfastref19_Mine = some fc_steadfastref19_Mine := rfl
theorem D_queue_Next_1 : D f_queue_Next_1 = some fc_queue_Next_1 := rfl
@[go_sem] noncomputable def R_steadfastlaw19_QueueNexts_0 (_base : Nat) (s : St) (v0 v1 v2 : V) : Option (Ex × Env × St) :=
  if V.ok v1 && mayNew false v1 then let x0 : V := .ptr (St.fresh s false) [] (V.tag v1); let s0 : St := St.new s false v1
  some (.normal, [(0, v0), (2, v2), (4, x0)], s0)
  else none
@[go_sem] theorem rc_steadfastlaw19_QueueNexts_0 {base : Nat} {ρ : Env} {s : St} : rc D base (.reg (some [0, 2, 4]) o_steadfastlaw19_QueueNexts_0) ρ s = R_steadfastlaw19_QueueNexts_0 base s (get ρ 0) (get ρ 1) (get ρ 2) := rc_reg_O.trans (by kernel_rfl)
@[go_sem] noncomputable def R_steadfastlaw19_QueueNexts_1 (_base : Nat) (s : St) (v0 v2 v4 : V) : Option (Ex × Env × St) :=
  obind (rf D f_steadfastlaw19_shown [] s) fun x0 =>
  some (.normal, [(0, v0), (2, v2), (4, v4), (7, x0.1)], x0.2)
@[go_sem] theorem rc_steadfastlaw19_QueueNexts_1 {base : Nat} {ρ : Env} {s : St} : rc D base (.reg (some [0, 2, 4, 7]) o_steadfastlaw19_QueueNexts_1) ρ s = R_steadfastlaw19_QueueNexts_1 base s (get ρ 0) (get ρ 2) (get ρ 4) := rc_reg_O.trans (by kernel_rfl)
@[go_sem] noncomputable def R_steadfastlaw19_QueueNexts_2 (_base : Nat) (s : St) (v0 v2 v4 v7 : V) : Option (Ex × Env × St) :=
  obind (rf D f_steadfastlaw19_few [v0] s) fun x0 => if x0.2 = s then
  obind (iadv 22 2 10 v4 (.int .i64 0)) fun x1 =>
  obind (ldv s 10 x1) fun x2 =>
  obind (iadv 22 2 10 v4 (.int .i64 1)) fun x3 =>
  obind (ldv s 10 x3) fun x4 =>
  obind (rf D f_queue_Next [x0.1, x2, x4, v2] s) fun x5 => if x5.2 = s then
  obind (extv 0 x5.1) fun x6 =>
  obind (extv 1 x5.1) fun x7 =>
  some (.normal, [(0, v0), (2, v2), (4, v4), (7, v7), (8, x6), (9, x7)], s)
  else none
  else none
@[go_sem] theorem rc_steadfastlaw19_QueueNexts_2 {base : Nat} {ρ : Env} {s : St} : rc D base (.regd (some [0, 2, 4, 7, 8, 9]) o_steadfastlaw19_QueueNexts_2) ρ s = R_steadfastlaw19_QueueNexts_2 base s (get ρ 0) (get ρ 2) (get ρ 4) (get ρ 7) := rc_regd_O.trans (by kernel_rfl)
@[go_sem] noncomputable def R_steadfastlaw19_QueueNexts_3 (_base : Nat) (s : St) (v0 v2 v4 v7 v8 v9 : V) : Option (Ex × Env × St) :=
  obind (rf D f_steadfastlaw19_few [v0] s) fun x0 => if x0.2 = s then
  obind (iadv 22 2 10 v4 (.int .i64 0)) fun x1 =>
  obind (ldv s 10 x1) fun x2 =>
  obind (iadv 22 2 10 v4 (.int .i64 1)) fun x3 =>
  obind (ldv s 10 x3) fun x4 =>
  obind (rf D f_steadfastref19_Next [x0.1, x2, x4, v2] s) fun x5 => if x5.2 = s then
  obind (extv 0 x5.1) fun x6 =>
  obind (extv 1 x5.1) fun x7 =>
  some (.normal, [(2, v2), (4, v4), (7, v7), (8, v8), (9, v9), (10, x6), (11, x7)], s)
  else none
  else none
@[go_sem] theorem rc_steadfastlaw19_QueueNexts_3 {base : Nat} {ρ : Env} {s : St} : rc D base (.regd (some [2, 4, 7, 8, 9, 10, 11]) o_steadfastlaw19_QueueNexts_3) ρ s = R_steadfastlaw19_QueueNexts_3 base s (get ρ 0) (get ρ 2) (get ρ 4) (get ρ 7) (get ρ 8) (get ρ 9) := rc_regd_O.trans (by kernel_rfl)
@[go_sem] noncomputable def R_steadfastlaw19_QueueNexts_4 (_base : Nat) (s : St) (v2 v4 v7 v8 v9 v10 v11 : V) : Option (Ex × Env × St) :=
  oguard v7 true (
    obind (vbin .eql v8 v10) fun x0 =>
    oguard x0 true (
      obind (vbin .eql v9 v11) fun x1 =>
      oguard x1 true (
        obind (iadv 22 2 10 v4 (.int .i64 0)) fun x2 =>
        obind (ldv s 10 x2) fun x3 =>
        obind (iadv 22 2 10 v4 (.int .i64 1)) fun x4 =>
        obind (ldv s 10 x4) fun x5 =>
        obind (rf D f_queue_Mine [v2, x3, x5] s) fun x6 => if x6.2 = s then
        obind (iadv 22 2 10 v4 (.int .i64 0)) fun x7 =>
        obind (ldv s 10 x7) fun x8 =>
        obind (iadv 22 2 10 v4 (.int .i64 1)) fun x9 =>
        obind (ldv s 10 x9) fun x10 =>
        obind (rf D f_steadfastref19_Mine [v2, x8, x10] s) fun x11 => if x11.2 = s then
        obind (eqv false 0 x6.1 x11.1) fun x12 =>
        some (.normal, [(6, x12)], s)
        else none
        else none) (
        some (.normal, [(6, (.bool false))], s)) (
        none)) (
      some (.normal, [(6, (.bool false))], s)) (
      none)) (
    some (.normal, [(6, (.bool false))], s)) (
    none)
@[go_sem] theorem rc_steadfastlaw19_QueueNexts_4 {base : Nat} {ρ : Env} {s : St} : rc D base (.regd (some [6]) o_steadfastlaw19_QueueNexts_4) ρ s = R_steadfastlaw19_QueueNexts_4 base s (get ρ 2) (get ρ 4) (get ρ 7) (get ρ 8) (get ρ 9) (get ρ 10) (get ρ 11) := rc_regd_O.trans (by kernel_rfl)

@[go_sem] noncomputable def R_steadfastlaw19_QueueTurns_0 (_base : Nat) (s : St) (v0 v1 v2 : V) : Option (Ex × Env × St) :=
  if V.ok v1 && mayNew false v1 then let x0 : V := .ptr (St.fresh s false) [] (V.tag v1); let s0 : St := St.new s false v1
  some (.normal, [(0, v0), (2, v2), (4, x0)], s0)
  else none
@[go_sem] theorem rc_steadfastlaw19_QueueTurns_0 {base : Nat} {ρ : Env} {s : St} : rc D base (.reg (some [0, 2, 4]) o_steadfastlaw19_QueueTurns_0) ρ s = R_steadfastlaw19_QueueTurns_0 base s (get ρ 0) (get ρ 1) (get ρ 2) := rc_reg_O.trans (by kernel_rfl)
@[go_sem] noncomputable def R_steadfastlaw19_QueueTurns_1 (_base : Nat) (s : St) (v0 v2 v4 : V) : Option (Ex × Env × St) :=
  obind (rf D f_steadfastlaw19_shown [] s) fun x0 =>
  some (.normal, [(0, v0), (2, v2), (4, v4), (7, x0.1)], x0.2)
@[go_sem] theorem rc_steadfastlaw19_QueueTurns_1 {base : Nat} {ρ : Env} {s : St} : rc D base (.reg (some [0, 2, 4, 7]) o_steadfastlaw19_QueueTurns_1) ρ s = R_steadfastlaw19_QueueTurns_1 base s (get ρ 0) (get ρ 2) (get ρ 4) := rc_reg_O.trans (by kernel_rfl)
@[go_sem] noncomputable def R_steadfastlaw19_QueueTurns_2 (_base : Nat) (s : St) (v0 v2 v4 v7 : V) : Option (Ex × Env × St) :=
  obind (rf D f_steadfastlaw19_few [v0] s) fun x0 =>
  some (.normal, [(0, x0.1), (2, v2), (4, v4), (7, v7)], x0.2)
@[go_sem] theorem rc_steadfastlaw19_QueueTurns_2 {base : Nat} {ρ : Env} {s : St} : rc D base (.reg (some [0, 2, 4, 7]) o_steadfastlaw19_QueueTurns_2) ρ s = R_steadfastlaw19_QueueTurns_2 base s (get ρ 0) (get ρ 2) (get ρ 4) (get ρ 7) := rc_reg_O.trans (by kernel_rfl)
@[go_sem] noncomputable def R_steadfastlaw19_QueueTurns_3 (_base : Nat) (s : St) (v0 v2 v4 v7 : V) : Option (Ex × Env × St) :=
  obind (iadv 22 2 10 v4 (.int .i64 1)) fun x0 =>
  obind (ldv s 10 x0) fun x1 =>
  obind (vbin .rem x1 (.int .i64 8)) fun x2 =>
  some (.normal, [(0, v0), (2, v2), (4, v4), (7, v7), (8, x2)], s)
@[go_sem] theorem rc_steadfastlaw19_QueueTurns_3 {base : Nat} {ρ : Env} {s : St} : rc D base (.reg (some [0, 2, 4, 7, 8]) o_steadfastlaw19_QueueTurns_3) ρ s = R_steadfastlaw19_QueueTurns_3 base s (get ρ 0) (get ρ 2) (get ρ 4) (get ρ 7) := rc_reg_O.trans (by kernel_rfl)
@[go_sem] noncomputable def R_steadfastlaw19_QueueTurns_4 (_base : Nat) (s : St) (v0 v2 v4 v7 v8 : V) : Option (Ex × Env × St) :=
  obind (vbin .lss v8 (.int .i64 0)) fun x0 =>
  some (.normal, [(0, v0), (2, v2), (4, v4), (7, v7), (8, v8), (25, x0)], s)
@[go_sem] theorem rc_steadfastlaw19_QueueTurns_4 {base : Nat} {ρ : Env} {s : St} : rc D base (.reg (some [0, 2, 4, 7, 8, 25]) o_steadfastlaw19_QueueTurns_4) ρ s = R_steadfastlaw19_QueueTurns_4 base s (get ρ 0) (get ρ 2) (get ρ 4) (get ρ 7) (get ρ 8) := rc_reg_O.trans (by kernel_rfl)
@[go_sem] noncomputable def R_steadfastlaw19_QueueTurns_5 (_base : Nat) (s : St) (v0 v2 v4 v7 v8 : V) : Option (Ex × Env × St) :=
  obind (vun .neg v8) fun x0 =>
  some (.normal, [(0, v0), (2, v2), (4, v4), (7, v7), (8, x0)], s)
@[go_sem] theorem rc_steadfastlaw19_QueueTurns_5 {base : Nat} {ρ : Env} {s : St} : rc D base (.reg (some [0, 2, 4, 7, 8]) o_steadfastlaw19_QueueTurns_5) ρ s = R_steadfastlaw19_QueueTurns_5 base s (get ρ 0) (get ρ 2) (get ρ 4) (get ρ 7) (get ρ 8) := rc_reg_O.trans (by kernel_rfl)
@[go_sem] noncomputable def R_steadfastlaw19_QueueTurns_6 (_base : Nat) (s : St) (v0 v2 v4 v7 v8 : V) : Option (Ex × Env × St) :=
  obind (vbin .add v8 (.int .i64 1)) fun x0 =>
  some (.normal, [(0, v0), (2, v2), (4, v4), (7, v7), (8, x0)], s)
@[go_sem] theorem rc_steadfastlaw19_QueueTurns_6 {base : Nat} {ρ : Env} {s : St} : rc D base (.reg (some [0, 2, 4, 7, 8]) o_steadfastlaw19_QueueTurns_6) ρ s = R_steadfastlaw19_QueueTurns_6 base s (get ρ 0) (get ρ 2) (get ρ 4) (get ρ 7) (get ρ 8) := rc_reg_O.trans (by kernel_rfl)
@[go_sem] noncomputable def R_steadfastlaw19_QueueTurns_7 (_base : Nat) (s : St) (v0 v2 v4 v7 v8 : V) : Option (Ex × Env × St) :=
  obind (iadv 22 2 10 v4 (.int .i64 0)) fun x0 =>
  obind (ldv s 10 x0) fun x1 =>
  obind (vbin .rem x1 v8) fun x2 =>
  some (.normal, [(0, v0), (2, v2), (7, v7), (8, v8), (9, x2)], s)
@[go_sem] theorem rc_steadfastlaw19_QueueTurns_7 {base : Nat} {ρ : Env} {s : St} : rc D base (.reg (some [0, 2, 7, 8, 9]) o_steadfastlaw19_QueueTurns_7) ρ s = R_steadfastlaw19_QueueTurns_7 base s (get ρ 0) (get ρ 2) (get ρ 4) (get ρ 7) (get ρ 8) := rc_reg_O.trans (by kernel_rfl)
@[go_sem] noncomputable def R_steadfastlaw19_QueueTurns_8 (_base : Nat) (s : St) (v0 v2 v7 v8 v9 : V) : Option (Ex × Env × St) :=
  obind (vbin .lss v9 (.int .i64 0)) fun x0 =>
  some (.normal, [(0, v0), (2, v2), (7, v7), (8, v8), (9, v9), (35, x0)], s)
@[go_sem] theorem rc_steadfastlaw19_QueueTurns_8 {base : Nat} {ρ : Env} {s : St} : rc D base (.reg (some [0, 2, 7, 8, 9, 35]) o_steadfastlaw19_QueueTurns_8) ρ s = R_steadfastlaw19_QueueTurns_8 base s (get ρ 0) (get ρ 2) (get ρ 7) (get ρ 8) (get ρ 9) := rc_reg_O.trans (by kernel_rfl)
@[go_sem] noncomputable def R_steadfastlaw19_QueueTurns_9 (_base : Nat) (s : St) (v0 v2 v7 v8 v9 : V) : Option (Ex × Env × St) :=
  obind (vun .neg v9) fun x0 =>
  some (.normal, [(0, v0), (2, v2), (7, v7), (8, v8), (9, x0)], s)
@[go_sem] theorem rc_steadfastlaw19_QueueTurns_9 {base : Nat} {ρ : Env} {s : St} : rc D base (.reg (some [0, 2, 7, 8, 9]) o_steadfastlaw19_QueueTurns_9) ρ s = R_steadfastlaw19_QueueTurns_9 base s (get ρ 0) (get ρ 2) (get ρ 7) (get ρ 8) (get ρ 9) := rc_reg_O.trans (by kernel_rfl)
@[go_sem] noncomputable def R_steadfastlaw19_QueueTurns_10 (_base : Nat) (s : St) (v0 v2 v7 v8 v9 : V) : Option (Ex × Env × St) :=
  some (.normal, [(0, v0), (2, v2), (7, v7), (8, v8), (9, v9), (10, (.int .i64 0))], s)
@[go_sem] theorem rc_steadfastlaw19_QueueTurns_10 {base : Nat} {ρ : Env} {s : St} : rc D base (.reg (some [0, 2, 7, 8, 9, 10]) o_steadfastlaw19_QueueTurns_10) ρ s = R_steadfastlaw19_QueueTurns_10 base s (get ρ 0) (get ρ 2) (get ρ 7) (get ρ 8) (get ρ 9) := rc_reg_O.trans (by kernel_rfl)
@[go_sem] noncomputable def R_steadfastlaw19_QueueTurns_11 (_base : Nat) (s : St) (v0 v2 v7 v8 v9 v10 : V) : Option (Ex × Env × St) :=
  some (.normal, [(0, v0), (2, v2), (7, v7), (8, v8), (9, v9), (10, v10), (11, (.int .i64 0))], s)
@[go_sem] theorem rc_steadfastlaw19_QueueTurns_11 {base : Nat} {ρ : Env} {s : St} : rc D base (.reg (some [0, 2, 7, 8, 9, 10, 11]) o_steadfastlaw19_QueueTurns_11) ρ s = R_steadfastlaw19_QueueTurns_11 base s (get ρ 0) (get ρ 2) (get ρ 7) (get ρ 8) (get ρ 9) (get ρ 10) := rc_reg_O.trans (by kernel_rfl)
@[go_sem] noncomputable def R_steadfastlaw19_QueueTurns_12 (_base : Nat) (s : St) (v0 v2 v7 v8 v9 v10 v11 : V) : Option (Ex × Env × St) :=
  obind (V.slen false v0) fun x0 =>
  obind (vbin .lss v11 (.int .i64 x0)) fun x1 =>
  some (.normal, [(0, v0), (2, v2), (7, v7), (8, v8), (9, v9), (10, v10), (11, v11), (41, x1)], s)
@[go_sem] theorem rc_steadfastlaw19_QueueTurns_12 {base : Nat} {ρ : Env} {s : St} : rc D base (.reg (some [0, 2, 7, 8, 9, 10, 11, 41]) o_steadfastlaw19_QueueTurns_12) ρ s = R_steadfastlaw19_QueueTurns_12 base s (get ρ 0) (get ρ 2) (get ρ 7) (get ρ 8) (get ρ 9) (get ρ 10) (get ρ 11) := rc_reg_O.trans (by kernel_rfl)
@[go_sem] noncomputable def R_steadfastlaw19_QueueTurns_13 (_base : Nat) (s : St) (v0 v2 v7 v8 v9 v10 v11 : V) : Option (Ex × Env × St) :=
  obind (sadv 0 v0 v11) fun x0 =>
  obind (ldv s 0 x0) fun x1 =>
  oguard x1 true (
    obind (rf D f_queue_Mine [v11, v9, v8] s) fun x2 =>
    some (.normal, [(0, v0), (2, v2), (7, v7), (8, v8), (9, v9), (10, v10), (11, v11), (53, x2.1)], x2.2)) (
    some (.normal, [(0, v0), (2, v2), (7, v7), (8, v8), (9, v9), (10, v10), (11, v11), (53, (.bool false))], s)) (
    none)
@[go_sem] theorem rc_steadfastlaw19_QueueTurns_13 {base : Nat} {ρ : Env} {s : St} : rc D base (.reg (some [0, 2, 7, 8, 9, 10, 11, 53]) o_steadfastlaw19_QueueTurns_13) ρ s = R_steadfastlaw19_QueueTurns_13 base s (get ρ 0) (get ρ 2) (get ρ 7) (get ρ 8) (get ρ 9) (get ρ 10) (get ρ 11) := rc_reg_O.trans (by kernel_rfl)
@[go_sem] noncomputable def R_steadfastlaw19_QueueTurns_14 (_base : Nat) (s : St) (v0 v2 v7 v8 v9 v10 v11 : V) : Option (Ex × Env × St) :=
  obind (vbin .add v10 (.int .i64 1)) fun x0 =>
  some (.normal, [(0, v0), (2, v2), (7, v7), (8, v8), (9, v9), (10, x0), (11, v11)], s)
@[go_sem] theorem rc_steadfastlaw19_QueueTurns_14 {base : Nat} {ρ : Env} {s : St} : rc D base (.reg (some [0, 2, 7, 8, 9, 10, 11]) o_steadfastlaw19_QueueTurns_14) ρ s = R_steadfastlaw19_QueueTurns_14 base s (get ρ 0) (get ρ 2) (get ρ 7) (get ρ 8) (get ρ 9) (get ρ 10) (get ρ 11) := rc_reg_O.trans (by kernel_rfl)
@[go_sem] noncomputable def R_steadfastlaw19_QueueTurns_15 (_base : Nat) (s : St) (v0 v2 v7 v8 v9 v10 v11 : V) : Option (Ex × Env × St) :=
  obind (vbin .add v11 (.int .i64 1)) fun x0 =>
  some (.normal, [(0, v0), (2, v2), (7, v7), (8, v8), (9, v9), (10, v10), (11, x0)], s)
@[go_sem] theorem rc_steadfastlaw19_QueueTurns_15 {base : Nat} {ρ : Env} {s : St} : rc D base (.reg (some [0, 2, 7, 8, 9, 10, 11]) o_steadfastlaw19_QueueTurns_15) ρ s = R_steadfastlaw19_QueueTurns_15 base s (get ρ 0) (get ρ 2) (get ρ 7) (get ρ 8) (get ρ 9) (get ρ 10) (get ρ 11) := rc_reg_O.trans (by kernel_rfl)
@[go_sem] noncomputable def R_steadfastlaw19_QueueTurns_16 (_base : Nat) (s : St) (v0 v2 v7 v8 v9 v10 : V) : Option (Ex × Env × St) :=
  obind (V.slen false v0) fun x0 =>
  obind (mkslv false 20 0 (.bool false) s (.int .i64 x0) (.int .i64 x0)) fun x1 =>
  some (.normal, [(0, v0), (2, v2), (7, v7), (8, v8), (9, v9), (10, v10), (12, x1.1)], x1.2)
@[go_sem] theorem rc_steadfastlaw19_QueueTurns_16 {base : Nat} {ρ : Env} {s : St} : rc D base (.reg (some [0, 2, 7, 8, 9, 10, 12]) o_steadfastlaw19_QueueTurns_16) ρ s = R_steadfastlaw19_QueueTurns_16 base s (get ρ 0) (get ρ 2) (get ρ 7) (get ρ 8) (get ρ 9) (get ρ 10) := rc_reg_O.trans (by kernel_rfl)
@[go_sem] noncomputable def R_steadfastlaw19_QueueTurns_17 (_base : Nat) (s : St) (v0 v2 v7 v8 v9 v10 v12 : V) : Option (Ex × Env × St) :=
  some (.normal, [(0, v0), (2, v2), (7, v7), (8, v8), (9, v9), (10, v10), (12, v12), (13, (.int .i64 0))], s)
@[go_sem] theorem rc_steadfastlaw19_QueueTurns_17 {base : Nat} {ρ : Env} {s : St} : rc D base (.reg (some [0, 2, 7, 8, 9, 10, 12, 13]) o_steadfastlaw19_QueueTurns_17) ρ s = R_steadfastlaw19_QueueTurns_17 base s (get ρ 0) (get ρ 2) (get ρ 7) (get ρ 8) (get ρ 9) (get ρ 10) (get ρ 12) := rc_reg_O.trans (by kernel_rfl)
@[go_sem] noncomputable def R_steadfastlaw19_QueueTurns_18 (_base : Nat) (s : St) (v0 v2 v7 v8 v9 v10 v12 v13 : V) : Option (Ex × Env × St) :=
  obind (vbin .lss v13 v10) fun x0 =>
  some (.normal, [(0, v0), (2, v2), (7, v7), (8, v8), (9, v9), (10, v10), (12, v12), (13, v13), (61, x0)], s)
@[go_sem] theorem rc_steadfastlaw19_QueueTurns_18 {base : Nat} {ρ : Env} {s : St} : rc D base (.reg (some [0, 2, 7, 8, 9, 10, 12, 13, 61]) o_steadfastlaw19_QueueTurns_18) ρ s = R_steadfastlaw19_QueueTurns_18 base s (get ρ 0) (get ρ 2) (get ρ 7) (get ρ 8) (get ρ 9) (get ρ 10) (get ρ 12) (get ρ 13) := rc_reg_O.trans (by kernel_rfl)
@[go_sem] noncomputable def R_steadfastlaw19_QueueTurns_19 (_base : Nat) (s : St) (v0 v2 v7 v8 v9 v10 v12 v13 : V) : Option (Ex × Env × St) :=
  obind (rf D f_queue_Next [v0, v9, v8, v2] s) fun x0 =>
  obind (extv 0 x0.1) fun x1 =>
  obind (extv 1 x0.1) fun x2 =>
  some (.normal, [(0, v0), (7, v7), (8, v8), (9, v9), (10, v10), (12, v12), (13, v13), (14, x1), (15, x2)], x0.2)
@[go_sem] theorem rc_steadfastlaw19_QueueTurns_19 {base : Nat} {ρ : Env} {s : St} : rc D base (.reg (some [0, 7, 8, 9, 10, 12, 13, 14, 15]) o_steadfastlaw19_QueueTurns_19) ρ s = R_steadfastlaw19_QueueTurns_19 base s (get ρ 0) (get ρ 2) (get ρ 7) (get ρ 8) (get ρ 9) (get ρ 10) (get ρ 12) (get ρ 13) := rc_reg_O.trans (by kernel_rfl)
@[go_sem] noncomputable def R_steadfastlaw19_QueueTurns_20 (_base : Nat) (s : St) (v0 v7 v8 v9 v10 v12 v13 v14 v15 : V) : Option (Ex × Env × St) :=
  obind (vbin .neq v15 (.int .i64 0)) fun x0 =>
  oguard x0 false (
    obind (vbin .lss v14 (.int .i64 0)) fun x1 =>
    oguard x1 false (
      obind (V.slen false v0) fun x2 =>
      obind (vbin .geq v14 (.int .i64 x2)) fun x3 =>
      oguard x3 false (
        obind (sadv 0 v0 v14) fun x4 =>
        obind (ldv s 0 x4) fun x5 =>
        obind (vun .not x5) fun x6 =>
        oguard x6 false (
          obind (sadv 0 v12 v14) fun x7 =>
          obind (ldv s 0 x7) fun x8 =>
          oguard x8 false (
            obind (vbin .rem v14 v8) fun x9 =>
            obind (vbin .neq x9 v9) fun x10 =>
            some (.normal, [(0, v0), (7, v7), (8, v8), (9, v9), (10, v10), (12, v12), (13, v13), (14, v14), (103, x10)], s)) (
            some (.normal, [(0, v0), (7, v7), (8, v8), (9, v9), (10, v10), (12, v12), (13, v13), (14, v14), (103, (.bool true))], s)) (
            none)) (
          some (.normal, [(0, v0), (7, v7), (8, v8), (9, v9), (10, v10), (12, v12), (13, v13), (14, v14), (103, (.bool true))], s)) (
          none)) (
        some (.normal, [(0, v0), (7, v7), (8, v8), (9, v9), (10, v10), (12, v12), (13, v13), (14, v14), (103, (.bool true))], s)) (
        none)) (
      some (.normal, [(0, v0), (7, v7), (8, v8), (9, v9), (10, v10), (12, v12), (13, v13), (14, v14), (103, (.bool true))], s)) (
      none)) (
    some (.normal, [(0, v0), (7, v7), (8, v8), (9, v9), (10, v10), (12, v12), (13, v13), (14, v14), (103, (.bool true))], s)) (
    none)
@[go_sem] theorem rc_steadfastlaw19_QueueTurns_20 {base : Nat} {ρ : Env} {s : St} : rc D base (.reg (some [0, 7, 8, 9, 10, 12, 13, 14, 103]) o_steadfastlaw19_QueueTurns_20) ρ s = R_steadfastlaw19_QueueTurns_20 base s (get ρ 0) (get ρ 7) (get ρ 8) (get ρ 9) (get ρ 10) (get ρ 12) (get ρ 13) (get ρ 14) (get ρ 15) := rc_reg_O.trans (by kernel_rfl)
@[go_sem] noncomputable def R_steadfastlaw19_QueueTurns_21 (_base : Nat) (s : St) : Option (Ex × Env × St) :=
  some (.normal, [(6, (.bool false))], s)
@[go_sem] theorem rc_steadfastlaw19_QueueTurns_21 {base : Nat} {ρ : Env} {s : St} : rc D base (.reg (some [6]) o_steadfastlaw19_QueueTurns_21) ρ s = R_steadfastlaw19_QueueTurns_21 base s := rc_reg_O.trans (by kernel_rfl)
@[go_sem] noncomputable def R_steadfastlaw19_QueueTurns_22 (base : Nat) (s : St) (v0 v7 v8 v9 v10 v12 v13 v14 : V) : Option (Ex × Env × St) :=
  obind (sadv 0 v12 v14) fun x0 =>
  obind (stv base s 0 (.bool true) x0) fun s1 =>
  some (.normal, [(0, v0), (7, v7), (8, v8), (9, v9), (10, v10), (12, v12), (13, v13), (14, v14)], s1)
@[go_sem] theorem rc_steadfastlaw19_QueueTurns_22 {base : Nat} {ρ : Env} {s : St} : rc D base (.reg (some [0, 7, 8, 9, 10, 12, 13, 14]) o_steadfastlaw19_QueueTurns_22) ρ s = R_steadfastlaw19_QueueTurns_22 base s (get ρ 0) (get ρ 7) (get ρ 8) (get ρ 9) (get ρ 10) (get ρ 12) (get ρ 13) (get ρ 14) := rc_reg_O.trans (by kernel_rfl)
@[go_sem] noncomputable def R_steadfastlaw19_QueueTurns_23 (_base : Nat) (s : St) (v0 v7 v8 v9 v10 v12 v13 v14 : V) : Option (Ex × Env × St) :=
  some (.normal, [(0, v0), (2, v14), (7, v7), (8, v8), (9, v9), (10, v10), (12, v12), (13, v13)], s)
@[go_sem] theorem rc_steadfastlaw19_QueueTurns_23 {base : Nat} {ρ : Env} {s : St} : rc D base (.reg (some [0, 2, 7, 8, 9, 10, 12, 13]) o_steadfastlaw19_QueueTurns_23) ρ s = R_steadfastlaw19_QueueTurns_23 base s (get ρ 0) (get ρ 7) (get ρ 8) (get ρ 9) (get ρ 10) (get ρ 12) (get ρ 13) (get ρ 14) := rc_reg_O.trans (by kernel_rfl)
@[go_sem] noncomputable def R_steadfastlaw19_QueueTurns_24 (_base : Nat) (s : St) (v0 v2 v7 v8 v9 v10 v12 v13 : V) : Option (Ex × Env × St) :=
  obind (vbin .add v13 (.int .i64 1)) fun x0 =>
  some (.normal, [(0, v0), (2, v2), (7, v7), (8, v8), (9, v9), (10, v10), (12, v12), (13, x0)], s)
@[go_sem] theorem rc_steadfastlaw19_QueueTurns_24 {base : Nat} {ρ : Env} {s : St} : rc D base (.reg (some [0, 2, 7, 8, 9, 10, 12, 13]) o_steadfastlaw19_QueueTurns_24) ρ s = R_steadfastlaw19_QueueTurns_24 base s (get ρ 0) (get ρ 2) (get ρ 7) (get ρ 8) (get ρ 9) (get ρ 10) (get ρ 12) (get ρ 13) := rc_reg_O.trans (by kernel_rfl)
@[go_sem] noncomputable def R_steadfastlaw19_QueueTurns_25 (_base : Nat) (s : St) (v0 v2 v7 v8 v9 v10 : V) : Option (Ex × Env × St) :=
  obind (rf D f_queue_Next [v0, v9, v8, v2] s) fun x0 =>
  obind (extv 0 x0.1) fun _x1 =>
  obind (extv 1 x0.1) fun x2 =>
  some (.normal, [(7, v7), (10, v10), (17, x2)], x0.2)
@[go_sem] theorem rc_steadfastlaw19_QueueTurns_25 {base : Nat} {ρ : Env} {s : St} : rc D base (.reg (some [7, 10, 17]) o_steadfastlaw19_QueueTurns_25) ρ s = R_steadfastlaw19_QueueTurns_25 base s (get ρ 0) (get ρ 2) (get ρ 7) (get ρ 8) (get ρ 9) (get ρ 10) := rc_reg_O.trans (by kernel_rfl)
@[go_sem] noncomputable def R_steadfastlaw19_QueueTurns_26 (_base : Nat) (s : St) (v7 v10 v17 : V) : Option (Ex × Env × St) :=
  oguard v7 true (
    obind (vbin .eql v17 (.int .i64 50)) fun x0 =>
    obind (vbin .eql v10 (.int .i64 0)) fun x1 =>
    obind (eqv false 0 x0 x1) fun x2 =>
    some (.normal, [(6, x2)], s)) (
    some (.normal, [(6, (.bool false))], s)) (
    none)
@[go_sem] theorem rc_steadfastlaw19_QueueTurns_26 {base : Nat} {ρ : Env} {s : St} : rc D base (.reg (some [6]) o_steadfastlaw19_QueueTurns_26) ρ s = R_steadfastlaw19_QueueTurns_26 base s (get ρ 7) (get ρ 10) (get ρ 17) := rc_reg_O.trans (by kernel_rfl)

@[go_sem] noncomputable def R_steadfastlaw19_QueueCores_0 (_base : Nat) (s : St) (v0 v1 v2 : V) : Option (Ex × Env × St) :=
  some (.normal, [(0, v0), (1, v1), (2, v2)], s)
@[go_sem] theorem rc_steadfastlaw19_QueueCores_0 {base : Nat} {ρ : Env} {s : St} : rc D base (.reg (some [0, 1, 2]) o_steadfastlaw19_QueueCores_0) ρ s = R_steadfastlaw19_QueueCores_0 base s (get ρ 0) (get ρ 1) (get ρ 2) := rc_reg_O.trans (by kernel_rfl)
@[go_sem] noncomputable def R_steadfastlaw19_QueueCores_1 (_base : Nat) (s : St) (v0 v1 v2 : V) : Option (Ex × Env × St) :=
  obind (rf D f_steadfastlaw19_shown [] s) fun x0 =>
  some (.normal, [(0, v0), (1, v1), (2, v2), (7, x0.1)], x0.2)
@[go_sem] theorem rc_steadfastlaw19_QueueCores_1 {base : Nat} {ρ : Env} {s : St} : rc D base (.reg (some [0, 1, 2, 7]) o_steadfastlaw19_QueueCores_1) ρ s = R_steadfastlaw19_QueueCores_1 base s (get ρ 0) (get ρ 1) (get ρ 2) := rc_reg_O.trans (by kernel_rfl)
@[go_sem] noncomputable def R_steadfastlaw19_QueueCores_2 (_base : Nat) (s : St) (v0 v1 v2 v7 : V) : Option (Ex × Env × St) :=
  obind (rf D f_steadfastlaw19_few [v0] s) fun x0 =>
  some (.normal, [(0, x0.1), (1, v1), (2, v2), (7, v7)], x0.2)
@[go_sem] theorem rc_steadfastlaw19_QueueCores_2 {base : Nat} {ρ : Env} {s : St} : rc D base (.reg (some [0, 1, 2, 7]) o_steadfastlaw19_QueueCores_2) ρ s = R_steadfastlaw19_QueueCores_2 base s (get ρ 0) (get ρ 1) (get ρ 2) (get ρ 7) := rc_reg_O.trans (by kernel_rfl)
@[go_sem] noncomputable def R_steadfastlaw19_QueueCores_3 (_base : Nat) (s : St) (v0 v1 v2 v7 : V) : Option (Ex × Env × St) :=
  obind (vbin .rem v1 (.int .i64 8)) fun x0 =>
  some (.normal, [(0, v0), (2, v2), (7, v7), (8, x0)], s)
@[go_sem] theorem rc_steadfastlaw19_QueueCores_3 {base : Nat} {ρ : Env} {s : St} : rc D base (.reg (some [0, 2, 7, 8]) o_steadfastlaw19_QueueCores_3) ρ s = R_steadfastlaw19_QueueCores_3 base s (get ρ 0) (get ρ 1) (get ρ 2) (get ρ 7) := rc_reg_O.trans (by kernel_rfl)
@[go_sem] noncomputable def R_steadfastlaw19_QueueCores_4 (_base : Nat) (s : St) (v0 v2 v7 v8 : V) : Option (Ex × Env × St) :=
  obind (vbin .lss v8 (.int .i64 0)) fun x0 =>
  some (.normal, [(0, v0), (2, v2), (7, v7), (8, v8), (22, x0)], s)
@[go_sem] theorem rc_steadfastlaw19_QueueCores_4 {base : Nat} {ρ : Env} {s : St} : rc D base (.reg (some [0, 2, 7, 8, 22]) o_steadfastlaw19_QueueCores_4) ρ s = R_steadfastlaw19_QueueCores_4 base s (get ρ 0) (get ρ 2) (get ρ 7) (get ρ 8) := rc_reg_O.trans (by kernel_rfl)
@[go_sem] noncomputable def R_steadfastlaw19_QueueCores_5 (_base : Nat) (s : St) (v0 v2 v7 v8 : V) : Option (Ex × Env × St) :=
  obind (vun .neg v8) fun x0 =>
  some (.normal, [(0, v0), (2, v2), (7, v7), (8, x0)], s)
@[go_sem] theorem rc_steadfastlaw19_QueueCores_5 {base : Nat} {ρ : Env} {s : St} : rc D base (.reg (some [0, 2, 7, 8]) o_steadfastlaw19_QueueCores_5) ρ s = R_steadfastlaw19_QueueCores_5 base s (get ρ 0) (get ρ 2) (get ρ 7) (get ρ 8) := rc_reg_O.trans (by kernel_rfl)
@[go_sem] noncomputable def R_steadfastlaw19_QueueCores_6 (_base : Nat) (s : St) (v0 v2 v7 v8 : V) : Option (Ex × Env × St) :=
  obind (vbin .add v8 (.int .i64 1)) fun x0 =>
  some (.normal, [(0, v0), (2, v2), (7, v7), (8, x0)], s)
@[go_sem] theorem rc_steadfastlaw19_QueueCores_6 {base : Nat} {ρ : Env} {s : St} : rc D base (.reg (some [0, 2, 7, 8]) o_steadfastlaw19_QueueCores_6) ρ s = R_steadfastlaw19_QueueCores_6 base s (get ρ 0) (get ρ 2) (get ρ 7) (get ρ 8) := rc_reg_O.trans (by kernel_rfl)
@[go_sem] noncomputable def R_steadfastlaw19_QueueCores_7 (_base : Nat) (s : St) (v0 v2 v7 v8 : V) : Option (Ex × Env × St) :=
  obind (V.slen false v0) fun x0 =>
  obind (mkslv false 20 0 (.bool false) s (.int .i64 x0) (.int .i64 x0)) fun x1 =>
  some (.normal, [(0, v0), (2, v2), (7, v7), (8, v8), (9, x1.1)], x1.2)
@[go_sem] theorem rc_steadfastlaw19_QueueCores_7 {base : Nat} {ρ : Env} {s : St} : rc D base (.reg (some [0, 2, 7, 8, 9]) o_steadfastlaw19_QueueCores_7) ρ s = R_steadfastlaw19_QueueCores_7 base s (get ρ 0) (get ρ 2) (get ρ 7) (get ρ 8) := rc_reg_O.trans (by kernel_rfl)
@[go_sem] noncomputable def R_steadfastlaw19_QueueCores_8 (_base : Nat) (s : St) (v0 v2 v7 v8 v9 : V) : Option (Ex × Env × St) :=
  some (.normal, [(0, v0), (2, v2), (7, v7), (8, v8), (9, v9), (10, (.int .i64 0))], s)
@[go_sem] theorem rc_steadfastlaw19_QueueCores_8 {base : Nat} {ρ : Env} {s : St} : rc D base (.reg (some [0, 2, 7, 8, 9, 10]) o_steadfastlaw19_QueueCores_8) ρ s = R_steadfastlaw19_QueueCores_8 base s (get ρ 0) (get ρ 2) (get ρ 7) (get ρ 8) (get ρ 9) := rc_reg_O.trans (by kernel_rfl)
@[go_sem] noncomputable def R_steadfastlaw19_QueueCores_9 (_base : Nat) (s : St) (v0 v2 v7 v8 v9 v10 : V) : Option (Ex × Env × St) :=
  obind (vbin .lss v10 v8) fun x0 =>
  some (.normal, [(0, v0), (2, v2), (7, v7), (8, v8), (9, v9), (10, v10), (32, x0)], s)
@[go_sem] theorem rc_steadfastlaw19_QueueCores_9 {base : Nat} {ρ : Env} {s : St} : rc D base (.reg (some [0, 2, 7, 8, 9, 10, 32]) o_steadfastlaw19_QueueCores_9) ρ s = R_steadfastlaw19_QueueCores_9 base s (get ρ 0) (get ρ 2) (get ρ 7) (get ρ 8) (get ρ 9) (get ρ 10) := rc_reg_O.trans (by kernel_rfl)
@[go_sem] noncomputable def R_steadfastlaw19_QueueCores_10 (_base : Nat) (s : St) (v0 v2 v7 v8 v9 v10 : V) : Option (Ex × Env × St) :=
  obind (rf D f_queue_Next [v0, v10, v8, v2] s) fun x0 =>
  obind (extv 0 x0.1) fun x1 =>
  obind (extv 1 x0.1) fun x2 =>
  some (.normal, [(0, v0), (2, v2), (7, v7), (8, v8), (9, v9), (10, v10), (11, x1), (12, x2)], x0.2)
@[go_sem] theorem rc_steadfastlaw19_QueueCores_10 {base : Nat} {ρ : Env} {s : St} : rc D base (.reg (some [0, 2, 7, 8, 9, 10, 11, 12]) o_steadfastlaw19_QueueCores_10) ρ s = R_steadfastlaw19_QueueCores_10 base s (get ρ 0) (get ρ 2) (get ρ 7) (get ρ 8) (get ρ 9) (get ρ 10) := rc_reg_O.trans (by kernel_rfl)
@[go_sem] noncomputable def R_steadfastlaw19_QueueCores_11 (_base : Nat) (s : St) (v0 v2 v7 v8 v9 v10 v11 v12 : V) : Option (Ex × Env × St) :=
  obind (vbin .neq v12 (.int .i64 0)) fun x0 =>
  some (.normal, [(0, v0), (2, v2), (7, v7), (8, v8), (9, v9), (10, v10), (11, v11), (44, x0)], s)
@[go_sem] theorem rc_steadfastlaw19_QueueCores_11 {base : Nat} {ρ : Env} {s : St} : rc D base (.reg (some [0, 2, 7, 8, 9, 10, 11, 44]) o_steadfastlaw19_QueueCores_11) ρ s = R_steadfastlaw19_QueueCores_11 base s (get ρ 0) (get ρ 2) (get ρ 7) (get ρ 8) (get ρ 9) (get ρ 10) (get ρ 11) (get ρ 12) := rc_reg_O.trans (by kernel_rfl)
@[go_sem] noncomputable def R_steadfastlaw19_QueueCores_12 (_base : Nat) (s : St) (v0 v2 v7 v8 v9 v10 v11 : V) : Option (Ex × Env × St) :=
  obind (vbin .lss v11 (.int .i64 0)) fun x0 =>
  oguard x0 false (
    obind (V.slen false v0) fun x1 =>
    obind (vbin .geq v11 (.int .i64 x1)) fun x2 =>
    oguard x2 false (
      obind (sadv 0 v9 v11) fun x3 =>
      obind (ldv s 0 x3) fun x4 =>
      some (.normal, [(0, v0), (2, v2), (7, v7), (8, v8), (9, v9), (10, v10), (11, v11), (58, x4)], s)) (
      some (.normal, [(0, v0), (2, v2), (7, v7), (8, v8), (9, v9), (10, v10), (11, v11), (58, (.bool true))], s)) (
      none)) (
    some (.normal, [(0, v0), (2, v2), (7, v7), (8, v8), (9, v9), (10, v10), (11, v11), (58, (.bool true))], s)) (
    none)
@[go_sem] theorem rc_steadfastlaw19_QueueCores_12 {base : Nat} {ρ : Env} {s : St} : rc D base (.reg (some [0, 2, 7, 8, 9, 10, 11, 58]) o_steadfastlaw19_QueueCores_12) ρ s = R_steadfastlaw19_QueueCores_12 base s (get ρ 0) (get ρ 2) (get ρ 7) (get ρ 8) (get ρ 9) (get ρ 10) (get ρ 11) := rc_reg_O.trans (by kernel_rfl)
@[go_sem] noncomputable def R_steadfastlaw19_QueueCores_13 (_base : Nat) (s : St) : Option (Ex × Env × St) :=
  some (.normal, [(6, (.bool false))], s)
@[go_sem] theorem rc_steadfastlaw19_QueueCores_13 {base : Nat} {ρ : Env} {s : St} : rc D base (.reg (some [6]) o_steadfastlaw19_QueueCores_13) ρ s = R_steadfastlaw19_QueueCores_13 base s := rc_reg_O.trans (by kernel_rfl)
@[go_sem] noncomputable def R_steadfastlaw19_QueueCores_14 (base : Nat) (s : St) (v0 v2 v7 v8 v9 v10 v11 : V) : Option (Ex × Env × St) :=
  obind (sadv 0 v9 v11) fun x0 =>
  obind (stv base s 0 (.bool true) x0) fun s1 =>
  some (.normal, [(0, v0), (2, v2), (7, v7), (8, v8), (9, v9), (10, v10)], s1)
@[go_sem] theorem rc_steadfastlaw19_QueueCores_14 {base : Nat} {ρ : Env} {s : St} : rc D base (.reg (some [0, 2, 7, 8, 9, 10]) o_steadfastlaw19_QueueCores_14) ρ s = R_steadfastlaw19_QueueCores_14 base s (get ρ 0) (get ρ 2) (get ρ 7) (get ρ 8) (get ρ 9) (get ρ 10) (get ρ 11) := rc_reg_O.trans (by kernel_rfl)
@[go_sem] noncomputable def R_steadfastlaw19_QueueCores_15 (_base : Nat) (s : St) (v0 v2 v7 v8 v9 v10 : V) : Option (Ex × Env × St) :=
  obind (vbin .add v10 (.int .i64 1)) fun x0 =>
  some (.normal, [(0, v0), (2, v2), (7, v7), (8, v8), (9, v9), (10, x0)], s)
@[go_sem] theorem rc_steadfastlaw19_QueueCores_15 {base : Nat} {ρ : Env} {s : St} : rc D base (.reg (some [0, 2, 7, 8, 9, 10]) o_steadfastlaw19_QueueCores_15) ρ s = R_steadfastlaw19_QueueCores_15 base s (get ρ 0) (get ρ 2) (get ρ 7) (get ρ 8) (get ρ 9) (get ρ 10) := rc_reg_O.trans (by kernel_rfl)
@[go_sem] noncomputable def R_steadfastlaw19_QueueCores_16 (_base : Nat) (s : St) (v0 v7 v8 : V) : Option (Ex × Env × St) :=
  some (.normal, [(0, v0), (7, v7), (8, v8), (13, (.int .i64 0))], s)
@[go_sem] theorem rc_steadfastlaw19_QueueCores_16 {base : Nat} {ρ : Env} {s : St} : rc D base (.reg (some [0, 7, 8, 13]) o_steadfastlaw19_QueueCores_16) ρ s = R_steadfastlaw19_QueueCores_16 base s (get ρ 0) (get ρ 7) (get ρ 8) := rc_reg_O.trans (by kernel_rfl)
@[go_sem] noncomputable def R_steadfastlaw19_QueueCores_17 (_base : Nat) (s : St) (v0 v7 v8 v13 : V) : Option (Ex × Env × St) :=
  obind (V.slen false v0) fun x0 =>
  obind (vbin .lss v13 (.int .i64 x0)) fun x1 =>
  some (.normal, [(0, v0), (7, v7), (8, v8), (13, v13), (65, x1)], s)
@[go_sem] theorem rc_steadfastlaw19_QueueCores_17 {base : Nat} {ρ : Env} {s : St} : rc D base (.reg (some [0, 7, 8, 13, 65]) o_steadfastlaw19_QueueCores_17) ρ s = R_steadfastlaw19_QueueCores_17 base s (get ρ 0) (get ρ 7) (get ρ 8) (get ρ 13) := rc_reg_O.trans (by kernel_rfl)
@[go_sem] noncomputable def R_steadfastlaw19_QueueCores_18 (_base : Nat) (s : St) (v0 v7 v8 v13 : V) : Option (Ex × Env × St) :=
  some (.normal, [(0, v0), (7, v7), (8, v8), (13, v13), (14, (.int .i64 0))], s)
@[go_sem] theorem rc_steadfastlaw19_QueueCores_18 {base : Nat} {ρ : Env} {s : St} : rc D base (.reg (some [0, 7, 8, 13, 14]) o_steadfastlaw19_QueueCores_18) ρ s = R_steadfastlaw19_QueueCores_18 base s (get ρ 0) (get ρ 7) (get ρ 8) (get ρ 13) := rc_reg_O.trans (by kernel_rfl)
@[go_sem] noncomputable def R_steadfastlaw19_QueueCores_19 (_base : Nat) (s : St) (v0 v7 v8 v13 v14 : V) : Option (Ex × Env × St) :=
  some (.normal, [(0, v0), (7, v7), (8, v8), (13, v13), (14, v14), (15, (.int .i64 0))], s)
@[go_sem] theorem rc_steadfastlaw19_QueueCores_19 {base : Nat} {ρ : Env} {s : St} : rc D base (.reg (some [0, 7, 8, 13, 14, 15]) o_steadfastlaw19_QueueCores_19) ρ s = R_steadfastlaw19_QueueCores_19 base s (get ρ 0) (get ρ 7) (get ρ 8) (get ρ 13) (get ρ 14) := rc_reg_O.trans (by kernel_rfl)
@[go_sem] noncomputable def R_steadfastlaw19_QueueCores_20 (_base : Nat) (s : St) (v0 v7 v8 v13 v14 v15 : V) : Option (Ex × Env × St) :=
  obind (vbin .lss v15 v8) fun x0 =>
  some (.normal, [(0, v0), (7, v7), (8, v8), (13, v13), (14, v14), (15, v15), (70, x0)], s)
@[go_sem] theorem rc_steadfastlaw19_QueueCores_20 {base : Nat} {ρ : Env} {s : St} : rc D base (.reg (some [0, 7, 8, 13, 14, 15, 70]) o_steadfastlaw19_QueueCores_20) ρ s = R_steadfastlaw19_QueueCores_20 base s (get ρ 0) (get ρ 7) (get ρ 8) (get ρ 13) (get ρ 14) (get ρ 15) := rc_reg_O.trans (by kernel_rfl)
@[go_sem] noncomputable def R_steadfastlaw19_QueueCores_21 (_base : Nat) (s : St) (v0 v7 v8 v13 v14 v15 : V) : Option (Ex × Env × St) :=
  obind (rf D f_queue_Mine [v13, v15, v8] s) fun x0 =>
  some (.normal, [(0, v0), (7, v7), (8, v8), (13, v13), (14, v14), (15, v15), (76, x0.1)], x0.2)
@[go_sem] theorem rc_steadfastlaw19_QueueCores_21 {base : Nat} {ρ : Env} {s : St} : rc D base (.reg (some [0, 7, 8, 13, 14, 15, 76]) o_steadfastlaw19_QueueCores_21) ρ s = R_steadfastlaw19_QueueCores_21 base s (get ρ 0) (get ρ 7) (get ρ 8) (get ρ 13) (get ρ 14) (get ρ 15) := rc_reg_O.trans (by kernel_rfl)
@[go_sem] noncomputable def R_steadfastlaw19_QueueCores_22 (_base : Nat) (s : St) (v0 v7 v8 v13 v14 v15 : V) : Option (Ex × Env × St) :=
  obind (vbin .add v14 (.int .i64 1)) fun x0 =>
  some (.normal, [(0, v0), (7, v7), (8, v8), (13, v13), (14, x0), (15, v15)], s)
@[go_sem] theorem rc_steadfastlaw19_QueueCores_22 {base : Nat} {ρ : Env} {s : St} : rc D base (.reg (some [0, 7, 8, 13, 14, 15]) o_steadfastlaw19_QueueCores_22) ρ s = R_steadfastlaw19_QueueCores_22 base s (get ρ 0) (get ρ 7) (get ρ 8) (get ρ 13) (get ρ 14) (get ρ 15) := rc_reg_O.trans (by kernel_rfl)
@[go_sem] noncomputable def R_steadfastlaw19_QueueCores_23 (_base : Nat) (s : St) (v0 v7 v8 v13 v14 v15 : V) : Option (Ex × Env × St) :=
  obind (vbin .add v15 (.int .i64 1)) fun x0 =>
  some (.normal, [(0, v0), (7, v7), (8, v8), (13, v13), (14, v14), (15, x0)], s)
@[go_sem] theorem rc_steadfastlaw19_QueueCores_23 {base : Nat} {ρ : Env} {s : St} : rc D base (.reg (some [0, 7, 8, 13, 14, 15]) o_steadfastlaw19_QueueCores_23) ρ s = R_steadfastlaw19_QueueCores_23 base s (get ρ 0) (get ρ 7) (get ρ 8) (get ρ 13) (get ρ 14) (get ρ 15) := rc_reg_O.trans (by kernel_rfl)
@[go_sem] noncomputable def R_steadfastlaw19_QueueCores_24 (_base : Nat) (s : St) (v0 v7 v8 v13 v14 : V) : Option (Ex × Env × St) :=
  obind (vbin .neq v14 (.int .i64 1)) fun x0 =>
  some (.normal, [(0, v0), (7, v7), (8, v8), (13, v13), (80, x0)], s)
@[go_sem] theorem rc_steadfastlaw19_QueueCores_24 {base : Nat} {ρ : Env} {s : St} : rc D base (.reg (some [0, 7, 8, 13, 80]) o_steadfastlaw19_QueueCores_24) ρ s = R_steadfastlaw19_QueueCores_24 base s (get ρ 0) (get ρ 7) (get ρ 8) (get ρ 13) (get ρ 14) := rc_reg_O.trans (by kernel_rfl)
@[go_sem] noncomputable def R_steadfastlaw19_QueueCores_25 (_base : Nat) (s : St) : Option (Ex × Env × St) :=
  some (.normal, [(6, (.bool false))], s)
@[go_sem] theorem rc_steadfastlaw19_QueueCores_25 {base : Nat} {ρ : Env} {s : St} : rc D base (.reg (some [6]) o_steadfastlaw19_QueueCores_25) ρ s = R_steadfastlaw19_QueueCores_25 base s := rc_reg_O.trans (by kernel_rfl)
@[go_sem] noncomputable def R_steadfastlaw19_QueueCores_26 (_base : Nat) (s : St) (v0 v7 v8 v13 : V) : Option (Ex × Env × St) :=
  obind (vbin .add v13 (.int .i64 1)) fun x0 =>
  some (.normal, [(0, v0), (7, v7), (8, v8), (13, x0)], s)
@[go_sem] theorem rc_steadfastlaw19_QueueCores_26 {base : Nat} {ρ : Env} {s : St} : rc D base (.reg (some [0, 7, 8, 13]) o_steadfastlaw19_QueueCores_26) ρ s = R_steadfastlaw19_QueueCores_26 base s (get ρ 0) (get ρ 7) (get ρ 8) (get ρ 13) := rc_reg_O.trans (by kernel_rfl)
@[go_sem] noncomputable def R_steadfastlaw19_QueueCores_27 (_base : Nat) (s : St) (v7 : V) : Option (Ex × Env × St) :=
  some (.normal, [(6, v7)], s)
@[go_sem] theorem rc_steadfastlaw19_QueueCores_27 {base : Nat} {ρ : Env} {s : St} : rc D base (.reg (some [6]) o_steadfastlaw19_QueueCores_27) ρ s = R_steadfastlaw19_QueueCores_27 base s (get ρ 7) := rc_reg_O.trans (by kernel_rfl)

@[go_sem] noncomputable def R_steadfastlaw19_shown_0 (_base : Nat) (s : St) : Option (Ex × Env × St) :=
  some (.normal, [], s)
@[go_sem] theorem rc_steadfastlaw19_shown_0 {base : Nat} {ρ : Env} {s : St} : rc D base (.reg (some []) o_steadfastlaw19_shown_0) ρ s = R_steadfastlaw19_shown_0 base s := rc_reg_O.trans (by kernel_rfl)
@[go_sem] noncomputable def R_steadfastlaw19_shown_1 (_base : Nat) (s : St) : Option (Ex × Env × St) :=
  obind (bslv false 20 0 3 (.bool false) s [(0, (.bool true)), (1, (.bool true)), (2, (.bool true))]) fun x0 =>
  obind (rf D f_queue_Next [x0.1, (.int .i64 0), (.int .i64 1), (.int .i64 0)] x0.2) fun x1 =>
  obind (extv 0 x1.1) fun x2 =>
  obind (extv 1 x1.1) fun x3 =>
  some (.normal, [(1, x2), (2, x3)], x1.2)
@[go_sem] theorem rc_steadfastlaw19_shown_1 {base : Nat} {ρ : Env} {s : St} : rc D base (.reg (some [1, 2]) o_steadfastlaw19_shown_1) ρ s = R_steadfastlaw19_shown_1 base s := rc_reg_O.trans (by kernel_rfl)
@[go_sem] noncomputable def R_steadfastlaw19_shown_2 (_base : Nat) (s : St) (v1 v2 : V) : Option (Ex × Env × St) :=
  obind (bslv false 20 0 3 (.bool false) s [(0, (.bool true)), (1, (.bool true)), (2, (.bool true))]) fun x0 =>
  obind (rf D f_queue_Next [x0.1, (.int .i64 0), (.int .i64 1), (.int .i64 2)] x0.2) fun x1 =>
  obind (extv 0 x1.1) fun x2 =>
  obind (extv 1 x1.1) fun x3 =>
  some (.normal, [(1, v1), (2, v2), (3, x2), (4, x3)], x1.2)
@[go_sem] theorem rc_steadfastlaw19_shown_2 {base : Nat} {ρ : Env} {s : St} : rc D base (.reg (some [1, 2, 3, 4]) o_steadfastlaw19_shown_2) ρ s = R_steadfastlaw19_shown_2 base s (get ρ 1) (get ρ 2) := rc_reg_O.trans (by kernel_rfl)
@[go_sem] noncomputable def R_steadfastlaw19_shown_3 (_base : Nat) (s : St) (v1 v2 v3 v4 : V) : Option (Ex × Env × St) :=
  obind (bslv false 20 0 2 (.bool false) s [(0, (.bool true)), (1, (.bool true))]) fun x0 =>
  obind (rf D f_queue_Next [x0.1, (.int .i64 1), (.int .i64 2), (.int .i64 1)] x0.2) fun x1 =>
  obind (extv 0 x1.1) fun x2 =>
  obind (extv 1 x1.1) fun x3 =>
  some (.normal, [(1, v1), (2, v2), (3, v3), (4, v4), (5, x2), (6, x3)], x1.2)
@[go_sem] theorem rc_steadfastlaw19_shown_3 {base : Nat} {ρ : Env} {s : St} : rc D base (.reg (some [1, 2, 3, 4, 5, 6]) o_steadfastlaw19_shown_3) ρ s = R_steadfastlaw19_shown_3 base s (get ρ 1) (get ρ 2) (get ρ 3) (get ρ 4) := rc_reg_O.trans (by kernel_rfl)
@[go_sem] noncomputable def R_steadfastlaw19_shown_4 (_base : Nat) (s : St) (v1 v2 v3 v4 v5 v6 : V) : Option (Ex × Env × St) :=
  obind (bslv false 20 0 1 (.bool false) s [(0, (.bool true))]) fun x0 =>
  obind (rf D f_queue_Next [x0.1, (.int .i64 1), (.int .i64 2), (.int .i64 0)] x0.2) fun x1 =>
  obind (extv 0 x1.1) fun _x2 =>
  obind (extv 1 x1.1) fun x3 =>
  some (.normal, [(1, v1), (2, v2), (3, v3), (4, v4), (5, v5), (6, v6), (8, x3)], x1.2)
@[go_sem] theorem rc_steadfastlaw19_shown_4 {base : Nat} {ρ : Env} {s : St} : rc D base (.reg (some [1, 2, 3, 4, 5, 6, 8]) o_steadfastlaw19_shown_4) ρ s = R_steadfastlaw19_shown_4 base s (get ρ 1) (get ρ 2) (get ρ 3) (get ρ 4) (get ρ 5) (get ρ 6) := rc_reg_O.trans (by kernel_rfl)
@[go_sem] noncomputable def R_steadfastlaw19_shown_5 (_base : Nat) (s : St) (v1 v2 v3 v4 v5 v6 v8 : V) : Option (Ex × Env × St) :=
  obind (bslv false 20 0 1 (.bool false) s [(0, (.bool true))]) fun x0 =>
  obind (rf D f_queue_Next [x0.1, (.int .i64 2), (.int .i64 2), (.int .i64 0)] x0.2) fun x1 =>
  obind (extv 0 x1.1) fun _x2 =>
  obind (extv 1 x1.1) fun x3 =>
  some (.normal, [(1, v1), (2, v2), (3, v3), (4, v4), (5, v5), (6, v6), (8, v8), (10, x3)], x1.2)
@[go_sem] theorem rc_steadfastlaw19_shown_5 {base : Nat} {ρ : Env} {s : St} : rc D base (.reg (some [1, 2, 3, 4, 5, 6, 8, 10]) o_steadfastlaw19_shown_5) ρ s = R_steadfastlaw19_shown_5 base s (get ρ 1) (get ρ 2) (get ρ 3) (get ρ 4) (get ρ 5) (get ρ 6) (get ρ 8) := rc_reg_O.trans (by kernel_rfl)
@[go_sem] noncomputable def R_steadfastlaw19_shown_6 (_base : Nat) (s : St) (v1 v2 v3 v4 v5 v6 v8 v10 : V) : Option (Ex × Env × St) :=
  obind (vbin .eql v1 (.int .i64 1)) fun x0 =>
  oguard x0 true (
    obind (vbin .eql v2 (.int .i64 0)) fun x1 =>
    oguard x1 true (
      obind (vbin .eql v3 (.int .i64 0)) fun x2 =>
      oguard x2 true (
        obind (vbin .eql v4 (.int .i64 0)) fun x3 =>
        oguard x3 true (
          obind (vbin .eql v5 (.int .i64 1)) fun x4 =>
          oguard x4 true (
            obind (vbin .eql v6 (.int .i64 0)) fun x5 =>
            oguard x5 true (
              obind (vbin .eql v8 (.int .i64 50)) fun x6 =>
              oguard x6 true (
                obind (vbin .eql v10 (.int .i64 1)) fun x7 =>
                some (.normal, [(0, x7)], s)) (
                some (.normal, [(0, (.bool false))], s)) (
                none)) (
              some (.normal, [(0, (.bool false))], s)) (
              none)) (
            some (.normal, [(0, (.bool false))], s)) (
            none)) (
          some (.normal, [(0, (.bool false))], s)) (
          none)) (
        some (.normal, [(0, (.bool false))], s)) (
        none)) (
      some (.normal, [(0, (.bool false))], s)) (
      none)) (
    some (.normal, [(0, (.bool false))], s)) (
    none)
@[go_sem] theorem rc_steadfastlaw19_shown_6 {base : Nat} {ρ : Env} {s : St} : rc D base (.reg (some [0]) o_steadfastlaw19_shown_6) ρ s = R_steadfastlaw19_shown_6 base s (get ρ 1) (get ρ 2) (get ρ 3) (get ρ 4) (get ρ 5) (get ρ 6) (get ρ 8) (get ρ 10) := rc_reg_O.trans (by kernel_rfl)

@[go_sem] noncomputable def R_queue_Next_0 (_base : Nat) (s : St) (v0 v1 v2 v3 : V) : Option (Ex × Env × St) :=
  if V.ok v0 && mayNew false v0 then let x0 : V := .ptr (St.fresh s false) [] (V.tag v0); let s0 : St := St.new s false v0
  if V.ok v1 && mayNew false v1 then let x1 : V := .ptr (St.fresh s0 false) [] (V.tag v1); let s1 : St := St.new s0 false v1
  if V.ok v2 && mayNew false v2 then let x2 : V := .ptr (St.fresh s1 false) [] (V.tag v2); let s2 : St := St.new s1 false v2
  some (.normal, [(3, v3), (4, x0), (5, x1), (6, x2)], s2)
  else none
  else none
  else none
@[go_sem] theorem rc_queue_Next_0 {base : Nat} {ρ : Env} {s : St} : rc D base (.reg (some [3, 4, 5, 6]) o_queue_Next_0) ρ s = R_queue_Next_0 base s (get ρ 0) (get ρ 1) (get ρ 2) (get ρ 3) := rc_reg_O.trans (by kernel_rfl)
@[go_sem] noncomputable def R_queue_Next_1 (_base : Nat) (s : St) (v3 v4 v5 v6 : V) : Option (Ex × Env × St) :=
  obind (ldv s 10 v6) fun x0 =>
  obind (vbin .lss x0 (.int .i64 1)) fun x1 =>
  oguard x1 false (
    obind (ldv s 10 v6) fun x2 =>
    obind (vbin .gtr x2 (.int .i64 8)) fun x3 =>
    oguard x3 false (
      obind (ldv s 10 v5) fun x4 =>
      obind (vbin .lss x4 (.int .i64 0)) fun x5 =>
      oguard x5 false (
        obind (ldv s 10 v5) fun x6 =>
        obind (ldv s 10 v6) fun x7 =>
        obind (vbin .geq x6 x7) fun x8 =>
        some (.normal, [(3, v3), (4, v4), (5, v5), (6, v6), (29, x8)], s)) (
        some (.normal, [(3, v3), (4, v4), (5, v5), (6, v6), (29, (.bool true))], s)) (
        none)) (
      some (.normal, [(3, v3), (4, v4), (5, v5), (6, v6), (29, (.bool true))], s)) (
      none)) (
    some (.normal, [(3, v3), (4, v4), (5, v5), (6, v6), (29, (.bool true))], s)) (
    none)
@[go_sem] theorem rc_queue_Next_1 {base : Nat} {ρ : Env} {s : St} : rc D base (.reg (some [3, 4, 5, 6, 29]) o_queue_Next_1) ρ s = R_queue_Next_1 base s (get ρ 3) (get ρ 4) (get ρ 5) (get ρ 6) := rc_reg_O.trans (by kernel_rfl)
@[go_sem] noncomputable def R_queue_Next_2 (_base : Nat) (s : St) : Option (Ex × Env × St) :=
  some (.normal, [(8, (.int .i64 0)), (9, (.int .i64 1))], s)
@[go_sem] theorem rc_queue_Next_2 {base : Nat} {ρ : Env} {s : St} : rc D base (.reg (some [8, 9]) o_queue_Next_2) ρ s = R_queue_Next_2 base s := rc_reg_O.trans (by kernel_rfl)
@[go_sem] noncomputable def R_queue_Next_3 (_base : Nat) (s : St) (v3 v4 v5 v6 : V) : Option (Ex × Env × St) :=
  obind (mkfnv f_queue_Next_1 [v4, v5, v6]) fun x0 =>
  some (.normal, [(3, v3), (4, v4), (10, x0)], s)
@[go_sem] theorem rc_queue_Next_3 {base : Nat} {ρ : Env} {s : St} : rc D base (.reg (some [3, 4, 10]) o_queue_Next_3) ρ s = R_queue_Next_3 base s (get ρ 3) (get ρ 4) (get ρ 5) (get ρ 6) := rc_reg_O.trans (by kernel_rfl)
@[go_sem] noncomputable def R_queue_Next_4 (_base : Nat) (s : St) (v3 v4 v10 : V) : Option (Ex × Env × St) :=
  obind (vbin .geq v3 (.int .i64 0)) fun x0 =>
  oguard x0 true (
    obind (ldv s 1 v4) fun x1 =>
    obind (V.slen false x1) fun x2 =>
    obind (vbin .lss v3 (.int .i64 x2)) fun x3 =>
    some (.normal, [(3, v3), (10, v10), (38, x3)], s)) (
    some (.normal, [(3, v3), (10, v10), (38, (.bool false))], s)) (
    none)
@[go_sem] theorem rc_queue_Next_4 {base : Nat} {ρ : Env} {s : St} : rc D base (.reg (some [3, 10, 38]) o_queue_Next_4) ρ s = R_queue_Next_4 base s (get ρ 3) (get ρ 4) (get ρ 10) := rc_reg_O.trans (by kernel_rfl)
@[go_sem] noncomputable def R_queue_Next_5 (_base : Nat) (s : St) (v3 v10 : V) : Option (Ex × Env × St) :=
  obind (vbin .add v3 (.int .i64 1)) fun x0 =>
  obind (callv D [x0] s v10) fun x1 =>
  obind (extv 0 x1.1) fun x2 =>
  obind (extv 1 x1.1) fun x3 =>
  some (.normal, [(10, v10), (11, x2), (12, x3)], x1.2)
@[go_sem] theorem rc_queue_Next_5 {base : Nat} {ρ : Env} {s : St} : rc D base (.reg (some [10, 11, 12]) o_queue_Next_5) ρ s = R_queue_Next_5 base s (get ρ 3) (get ρ 10) := rc_reg_O.trans (by kernel_rfl)
@[go_sem] noncomputable def R_queue_Next_6 (_base : Nat) (s : St) (v10 v11 v12 : V) : Option (Ex × Env × St) :=
  some (.normal, [(10, v10), (11, v11), (46, v12)], s)
@[go_sem] theorem rc_queue_Next_6 {base : Nat} {ρ : Env} {s : St} : rc D base (.reg (some [10, 11, 46]) o_queue_Next_6) ρ s = R_queue_Next_6 base s (get ρ 10) (get ρ 11) (get ρ 12) := rc_reg_O.trans (by kernel_rfl)
@[go_sem] noncomputable def R_queue_Next_7 (_base : Nat) (s : St) (v11 : V) : Option (Ex × Env × St) :=
  some (.normal, [(8, v11), (9, (.int .i64 0))], s)
@[go_sem] theorem rc_queue_Next_7 {base : Nat} {ρ : Env} {s : St} : rc D base (.reg (some [8, 9]) o_queue_Next_7) ρ s = R_queue_Next_7 base s (get ρ 11) := rc_reg_O.trans (by kernel_rfl)
@[go_sem] noncomputable def R_queue_Next_8 (_base : Nat) (s : St) (v10 : V) : Option (Ex × Env × St) :=
  obind (callv D [(.int .i64 0)] s v10) fun x0 =>
  obind (extv 0 x0.1) fun x1 =>
  obind (extv 1 x0.1) fun x2 =>
  some (.normal, [(13, x1), (14, x2)], x0.2)
@[go_sem] theorem rc_queue_Next_8 {base : Nat} {ρ : Env} {s : St} : rc D base (.reg (some [13, 14]) o_queue_Next_8) ρ s = R_queue_Next_8 base s (get ρ 10) := rc_reg_O.trans (by kernel_rfl)
@[go_sem] noncomputable def R_queue_Next_9 (_base : Nat) (s : St) (v13 v14 : V) : Option (Ex × Env × St) :=
  some (.normal, [(13, v13), (53, v14)], s)
@[go_sem] theorem rc_queue_Next_9 {base : Nat} {ρ : Env} {s : St} : rc D base (.reg (some [13, 53]) o_queue_Next_9) ρ s = R_queue_Next_9 base s (get ρ 13) (get ρ 14) := rc_reg_O.trans (by kernel_rfl)
@[go_sem] noncomputable def R_queue_Next_10 (_base : Nat) (s : St) (v13 : V) : Option (Ex × Env × St) :=
  some (.normal, [(8, v13), (9, (.int .i64 0))], s)
@[go_sem] theorem rc_queue_Next_10 {base : Nat} {ρ : Env} {s : St} : rc D base (.reg (some [8, 9]) o_queue_Next_10) ρ s = R_queue_Next_10 base s (get ρ 13) := rc_reg_O.trans (by kernel_rfl)
@[go_sem] noncomputable def R_queue_Next_11 (_base : Nat) (s : St) : Option (Ex × Env × St) :=
  some (.normal, [(8, (.int .i64 0)), (9, (.int .i64 50))], s)
@[go_sem] theorem rc_queue_Next_11 {base : Nat} {ρ : Env} {s : St} : rc D base (.reg (some [8, 9]) o_queue_Next_11) ρ s = R_queue_Next_11 base s := rc_reg_O.trans (by kernel_rfl)

@[go_sem] noncomputable def R_steadfastlaw19_few_0 (_base : Nat) (s : St) (v0 : V) : Option (Ex × Env × St) :=
  some (.normal, [(0, v0)], s)
@[go_sem] theorem rc_steadfastlaw19_few_0 {base : Nat} {ρ : Env} {s : St} : rc D base (.reg (some [0]) o_steadfastlaw19_few_0) ρ s = R_steadfastlaw19_few_0 base s (get ρ 0) := rc_reg_O.trans (by kernel_rfl)
@[go_sem] noncomputable def R_steadfastlaw19_few_1 (_base : Nat) (s : St) (v0 : V) : Option (Ex × Env × St) :=
  obind (V.slen false v0) fun x0 =>
  obind (vbin .gtr (.int .i64 x0) (.int .i64 100)) fun x1 =>
  some (.normal, [(0, v0), (5, x1)], s)
@[go_sem] theorem rc_steadfastlaw19_few_1 {base : Nat} {ρ : Env} {s : St} : rc D base (.reg (some [0, 5]) o_steadfastlaw19_few_1) ρ s = R_steadfastlaw19_few_1 base s (get ρ 0) := rc_reg_O.trans (by kernel_rfl)
@[go_sem] noncomputable def R_steadfastlaw19_few_2 (_base : Nat) (s : St) (v0 : V) : Option (Ex × Env × St) :=
  obind (slcv 0 none (some (.int .i64 100)) none v0) fun x0 =>
  some (.normal, [(2, x0)], s)
@[go_sem] theorem rc_steadfastlaw19_few_2 {base : Nat} {ρ : Env} {s : St} : rc D base (.reg (some [2]) o_steadfastlaw19_few_2) ρ s = R_steadfastlaw19_few_2 base s (get ρ 0) := rc_reg_O.trans (by kernel_rfl)
@[go_sem] noncomputable def R_steadfastlaw19_few_3 (_base : Nat) (s : St) (v0 : V) : Option (Ex × Env × St) :=
  some (.normal, [(2, v0)], s)
@[go_sem] theorem rc_steadfastlaw19_few_3 {base : Nat} {ρ : Env} {s : St} : rc D base (.reg (some [2]) o_steadfastlaw19_few_3) ρ s = R_steadfastlaw19_few_3 base s (get ρ 0) := rc_reg_O.trans (by kernel_rfl)

@[go_sem] noncomputable def R_steadfastref19_Next_0 (_base : Nat) (s : St) (v0 v1 v2 v3 : V) : Option (Ex × Env × St) :=
  some (.normal, [(0, v0), (1, v1), (2, v2), (3, v3)], s)
@[go_sem] theorem rc_steadfastref19_Next_0 {base : Nat} {ρ : Env} {s : St} : rc D base (.reg (some [0, 1, 2, 3]) o_steadfastref19_Next_0) ρ s = R_steadfastref19_Next_0 base s (get ρ 0) (get ρ 1) (get ρ 2) (get ρ 3) := rc_reg_O.trans (by kernel_rfl)
@[go_sem] noncomputable def R_steadfastref19_Next_1 (_base : Nat) (s : St) (v0 v1 v2 v3 : V) : Option (Ex × Env × St) :=
  obind (vbin .lss v2 (.int .i64 1)) fun x0 =>
  oguard x0 false (
    obind (vbin .gtr v2 (.int .i64 8)) fun x1 =>
    oguard x1 false (
      obind (vbin .lss v1 (.int .i64 0)) fun x2 =>
      oguard x2 false (
        obind (vbin .geq v1 v2) fun x3 =>
        some (.normal, [(0, v0), (1, v1), (2, v2), (3, v3), (26, x3)], s)) (
        some (.normal, [(0, v0), (1, v1), (2, v2), (3, v3), (26, (.bool true))], s)) (
        none)) (
      some (.normal, [(0, v0), (1, v1), (2, v2), (3, v3), (26, (.bool true))], s)) (
      none)) (
    some (.normal, [(0, v0), (1, v1), (2, v2), (3, v3), (26, (.bool true))], s)) (
    none)
@[go_sem] theorem rc_steadfastref19_Next_1 {base : Nat} {ρ : Env} {s : St} : rc D base (.reg (some [0, 1, 2, 3, 26]) o_steadfastref19_Next_1) ρ s = R_steadfastref19_Next_1 base s (get ρ 0) (get ρ 1) (get ρ 2) (get ρ 3) := rc_reg_O.trans (by kernel_rfl)
@[go_sem] noncomputable def R_steadfastref19_Next_2 (_base : Nat) (s : St) : Option (Ex × Env × St) :=
  some (.normal, [(8, (.int .i64 0)), (9, (.int .i64 1))], s)
@[go_sem] theorem rc_steadfastref19_Next_2 {base : Nat} {ρ : Env} {s : St} : rc D base (.reg (some [8, 9]) o_steadfastref19_Next_2) ρ s = R_steadfastref19_Next_2 base s := rc_reg_O.trans (by kernel_rfl)
@[go_sem] noncomputable def R_steadfastref19_Next_3 (_base : Nat) (s : St) (v0 v1 v2 v3 : V) : Option (Ex × Env × St) :=
  some (.normal, [(0, v0), (1, v1), (2, v2), (3, v3), (10, (.int .i64 (-1)))], s)
@[go_sem] theorem rc_steadfastref19_Next_3 {base : Nat} {ρ : Env} {s : St} : rc D base (.reg (some [0, 1, 2, 3, 10]) o_steadfastref19_Next_3) ρ s = R_steadfastref19_Next_3 base s (get ρ 0) (get ρ 1) (get ρ 2) (get ρ 3) := rc_reg_O.trans (by kernel_rfl)
@[go_sem] noncomputable def R_steadfastref19_Next_4 (_base : Nat) (s : St) (v0 v1 v2 v3 v10 : V) : Option (Ex × Env × St) :=
  some (.normal, [(0, v0), (1, v1), (2, v2), (3, v3), (10, v10), (11, (.int .i64 0))], s)
@[go_sem] theorem rc_steadfastref19_Next_4 {base : Nat} {ρ : Env} {s : St} : rc D base (.reg (some [0, 1, 2, 3, 10, 11]) o_steadfastref19_Next_4) ρ s = R_steadfastref19_Next_4 base s (get ρ 0) (get ρ 1) (get ρ 2) (get ρ 3) (get ρ 10) := rc_reg_O.trans (by kernel_rfl)
@[go_sem] noncomputable def R_steadfastref19_Next_5 (_base : Nat) (s : St) (v0 v1 v2 v3 v10 v11 : V) : Option (Ex × Env × St) :=
  obind (V.slen false v0) fun x0 =>
  obind (vbin .lss v11 (.int .i64 x0)) fun x1 =>
  some (.normal, [(0, v0), (1, v1), (2, v2), (3, v3), (10, v10), (11, v11), (30, x1)], s)
@[go_sem] theorem rc_steadfastref19_Next_5 {base : Nat} {ρ : Env} {s : St} : rc D base (.reg (some [0, 1, 2, 3, 10, 11, 30]) o_steadfastref19_Next_5) ρ s = R_steadfastref19_Next_5 base s (get ρ 0) (get ρ 1) (get ρ 2) (get ρ 3) (get ρ 10) (get ρ 11) := rc_reg_O.trans (by kernel_rfl)
@[go_sem] noncomputable def R_steadfastref19_Next_6 (_base : Nat) (s : St) (v0 v1 v2 v3 v10 v11 : V) : Option (Ex × Env × St) :=
  obind (sadv 0 v0 v11) fun x0 =>
  obind (ldv s 0 x0) fun x1 =>
  obind (vun .not x1) fun x2 =>
  oguard x2 false (
    obind (rf D f_steadfastref19_Mine [v11, v1, v2] s) fun x3 =>
    obind (vun .not x3.1) fun x4 =>
    some (.normal, [(0, v0), (1, v1), (2, v2), (3, v3), (10, v10), (11, v11), (44, x4)], x3.2)) (
    some (.normal, [(0, v0), (1, v1), (2, v2), (3, v3), (10, v10), (11, v11), (44, (.bool true))], s)) (
    none)
@[go_sem] theorem rc_steadfastref19_Next_6 {base : Nat} {ρ : Env} {s : St} : rc D base (.reg (some [0, 1, 2, 3, 10, 11, 44]) o_steadfastref19_Next_6) ρ s = R_steadfastref19_Next_6 base s (get ρ 0) (get ρ 1) (get ρ 2) (get ρ 3) (get ρ 10) (get ρ 11) := rc_reg_O.trans (by kernel_rfl)
@[go_sem] noncomputable def R_steadfastref19_Next_7 (_base : Nat) (s : St) (v0 v1 v2 v3 v10 v11 : V) : Option (Ex × Env × St) :=
  obind (vbin .gtr v11 v3) fun x0 =>
  some (.normal, [(0, v0), (1, v1), (2, v2), (3, v3), (10, v10), (11, v11), (47, x0)], s)
@[go_sem] theorem rc_steadfastref19_Next_7 {base : Nat} {ρ : Env} {s : St} : rc D base (.reg (some [0, 1, 2, 3, 10, 11, 47]) o_steadfastref19_Next_7) ρ s = R_steadfastref19_Next_7 base s (get ρ 0) (get ρ 1) (get ρ 2) (get ρ 3) (get ρ 10) (get ρ 11) := rc_reg_O.trans (by kernel_rfl)
@[go_sem] noncomputable def R_steadfastref19_Next_8 (_base : Nat) (s : St) (v11 : V) : Option (Ex × Env × St) :=
  some (.normal, [(8, v11), (9, (.int .i64 0))], s)
@[go_sem] theorem rc_steadfastref19_Next_8 {base : Nat} {ρ : Env} {s : St} : rc D base (.reg (some [8, 9]) o_steadfastref19_Next_8) ρ s = R_steadfastref19_Next_8 base s (get ρ 11) := rc_reg_O.trans (by kernel_rfl)
@[go_sem] noncomputable def R_steadfastref19_Next_9 (_base : Nat) (s : St) (v0 v1 v2 v3 v10 v11 : V) : Option (Ex × Env × St) :=
  obind (vbin .lss v10 (.int .i64 0)) fun x0 =>
  some (.normal, [(0, v0), (1, v1), (2, v2), (3, v3), (10, v10), (11, v11), (50, x0)], s)
@[go_sem] theorem rc_steadfastref19_Next_9 {base : Nat} {ρ : Env} {s : St} : rc D base (.reg (some [0, 1, 2, 3, 10, 11, 50]) o_steadfastref19_Next_9) ρ s = R_steadfastref19_Next_9 base s (get ρ 0) (get ρ 1) (get ρ 2) (get ρ 3) (get ρ 10) (get ρ 11) := rc_reg_O.trans (by kernel_rfl)
@[go_sem] noncomputable def R_steadfastref19_Next_10 (_base : Nat) (s : St) (v0 v1 v2 v3 v11 : V) : Option (Ex × Env × St) :=
  some (.normal, [(0, v0), (1, v1), (2, v2), (3, v3), (10, v11), (11, v11)], s)
@[go_sem] theorem rc_steadfastref19_Next_10 {base : Nat} {ρ : Env} {s : St} : rc D base (.reg (some [0, 1, 2, 3, 10, 11]) o_steadfastref19_Next_10) ρ s = R_steadfastref19_Next_10 base s (get ρ 0) (get ρ 1) (get ρ 2) (get ρ 3) (get ρ 11) := rc_reg_O.trans (by kernel_rfl)
@[go_sem] noncomputable def R_steadfastref19_Next_11 (_base : Nat) (s : St) (v0 v1 v2 v3 v10 v11 : V) : Option (Ex × Env × St) :=
  obind (vbin .add v11 (.int .i64 1)) fun x0 =>
  some (.normal, [(0, v0), (1, v1), (2, v2), (3, v3), (10, v10), (11, x0)], s)
@[go_sem] theorem rc_steadfastref19_Next_11 {base : Nat} {ρ : Env} {s : St} : rc D base (.reg (some [0, 1, 2, 3, 10, 11]) o_steadfastref19_Next_11) ρ s = R_steadfastref19_Next_11 base s (get ρ 0) (get ρ 1) (get ρ 2) (get ρ 3) (get ρ 10) (get ρ 11) := rc_reg_O.trans (by kernel_rfl)
@[go_sem] noncomputable def R_steadfastref19_Next_12 (_base : Nat) (s : St) (v10 : V) : Option (Ex × Env × St) :=
  obind (vbin .lss v10 (.int .i64 0)) fun x0 =>
  some (.normal, [(10, v10), (53, x0)], s)
@[go_sem] theorem rc_steadfastref19_Next_12 {base : Nat} {ρ : Env} {s : St} : rc D base (.reg (some [10, 53]) o_steadfastref19_Next_12) ρ s = R_steadfastref19_Next_12 base s (get ρ 10) := rc_reg_O.trans (by kernel_rfl)
@[go_sem] noncomputable def R_steadfastref19_Next_13 (_base : Nat) (s : St) : Option (Ex × Env × St) :=
  some (.normal, [(8, (.int .i64 0)), (9, (.int .i64 50))], s)
@[go_sem] theorem rc_steadfastref19_Next_13 {base : Nat} {ρ : Env} {s : St} : rc D base (.reg (some [8, 9]) o_steadfastref19_Next_13) ρ s = R_steadfastref19_Next_13 base s := rc_reg_O.trans (by kernel_rfl)
@[go_sem] noncomputable def R_steadfastref19_Next_14 (_base : Nat) (s : St) (v10 : V) : Option (Ex × Env × St) :=
  some (.normal, [(8, v10), (9, (.int .i64 0))], s)
@[go_sem] theorem rc_steadfastref19_Next_14 {base : Nat} {ρ : Env} {s : St} : rc D base (.reg (some [8, 9]) o_steadfastref19_Next_14) ρ s = R_steadfastref19_Next_14 base s (get ρ 10) := rc_reg_O.trans (by kernel_rfl)

@[go_sem] noncomputable def R_queue_Mine_0 (_base : Nat) (s : St) (v0 v1 v2 : V) : Option (Ex × Env × St) :=
  some (.normal, [(0, v0), (1, v1), (2, v2)], s)
@[go_sem] theorem rc_queue_Mine_0 {base : Nat} {ρ : Env} {s : St} : rc D base (.reg (some [0, 1, 2]) o_queue_Mine_0) ρ s = R_queue_Mine_0 base s (get ρ 0) (get ρ 1) (get ρ 2) := rc_reg_O.trans (by kernel_rfl)
@[go_sem] noncomputable def R_queue_Mine_1 (_base : Nat) (s : St) (v0 v1 v2 : V) : Option (Ex × Env × St) :=
  obind (vbin .geq v2 (.int .i64 1)) fun x0 =>
  oguard x0 true (
    obind (vbin .geq v0 (.int .i64 0)) fun x1 =>
    oguard x1 true (
      obind (vbin .rem v0 v2) fun x2 =>
      obind (vbin .eql x2 v1) fun x3 =>
      some (.normal, [(6, x3)], s)) (
      some (.normal, [(6, (.bool false))], s)) (
      none)) (
    some (.normal, [(6, (.bool false))], s)) (
    none)
@[go_sem] theorem rc_queue_Mine_1 {base : Nat} {ρ : Env} {s : St} : rc D base (.reg (some [6]) o_queue_Mine_1) ρ s = R_queue_Mine_1 base s (get ρ 0) (get ρ 1) (get ρ 2) := rc_reg_O.trans (by kernel_rfl)

@[go_sem] noncomputable def R_steadfastref19_Mine_0 (_base : Nat) (s : St) (v0 v1 v2 : V) : Option (Ex × Env × St) :=
  some (.normal, [(0, v0), (1, v1), (2, v2)], s)
@[go_sem] theorem rc_steadfastref19_Mine_0 {base : Nat} {ρ : Env} {s : St} : rc D base (.reg (some [0, 1, 2]) o_steadfastref19_Mine_0) ρ s = R_steadfastref19_Mine_0 base s (get ρ 0) (get ρ 1) (get ρ 2) := rc_reg_O.trans (by kernel_rfl)
@[go_sem] noncomputable def R_steadfastref19_Mine_1 (_base : Nat) (s : St) (v0 v1 v2 : V) : Option (Ex × Env × St) :=
  obind (vbin .geq v2 (.int .i64 1)) fun x0 =>
  oguard x0 true (
    obind (vbin .geq v0 (.int .i64 0)) fun x1 =>
    oguard x1 true (
      obind (vbin .rem v0 v2) fun x2 =>
      obind (vbin .eql x2 v1) fun x3 =>
      some (.normal, [(6, x3)], s)) (
      some (.normal, [(6, (.bool false))], s)) (
      none)) (
    some (.normal, [(6, (.bool false))], s)) (
    none)
@[go_sem] theorem rc_steadfastref19_Mine_1 {base : Nat} {ρ : Env} {s : St} : rc D base (.reg (some [6]) o_steadfastref19_Mine_1) ρ s = R_steadfastref19_Mine_1 base s (get ρ 0) (get ρ 1) (get ρ 2) := rc_reg_O.trans (by kernel_rfl)

@[go_sem] noncomputable def R_queue_Next_1_0 (_base : Nat) (s : St) (v0 v1 v2 v3 : V) : Option (Ex × Env × St) :=
  some (.normal, [(0, v0), (1, v1), (2, v2), (3, v3)], s)
@[go_sem] theorem rc_queue_Next_1_0 {base : Nat} {ρ : Env} {s : St} : rc D base (.reg (some [0, 1, 2, 3]) o_queue_Next_1_0) ρ s = R_queue_Next_1_0 base s (get ρ 0) (get ρ 1) (get ρ 2) (get ρ 3) := rc_reg_O.trans (by kernel_rfl)
@[go_sem] noncomputable def R_queue_Next_1_1 (_base : Nat) (s : St) (v0 v1 v2 v3 : V) : Option (Ex × Env × St) :=
  some (.normal, [(1, v1), (2, v2), (3, v3), (7, v0)], s)
@[go_sem] theorem rc_queue_Next_1_1 {base : Nat} {ρ : Env} {s : St} : rc D base (.reg (some [1, 2, 3, 7]) o_queue_Next_1_1) ρ s = R_queue_Next_1_1 base s (get ρ 0) (get ρ 1) (get ρ 2) (get ρ 3) := rc_reg_O.trans (by kernel_rfl)
@[go_sem] noncomputable def R_queue_Next_1_2 (_base : Nat) (s : St) (v1 v2 v3 v7 : V) : Option (Ex × Env × St) :=
  obind (ldv s 1 v1) fun x0 =>
  obind (V.slen false x0) fun x1 =>
  obind (vbin .lss v7 (.int .i64 x1)) fun x2 =>
  some (.normal, [(1, v1), (2, v2), (3, v3), (7, v7), (12, x2)], s)
@[go_sem] theorem rc_queue_Next_1_2 {base : Nat} {ρ : Env} {s : St} : rc D base (.reg (some [1, 2, 3, 7, 12]) o_queue_Next_1_2) ρ s = R_queue_Next_1_2 base s (get ρ 1) (get ρ 2) (get ρ 3) (get ρ 7) := rc_reg_O.trans (by kernel_rfl)
@[go_sem] noncomputable def R_queue_Next_1_3 (_base : Nat) (s : St) (v1 v2 v3 v7 : V) : Option (Ex × Env × St) :=
  obind (ldv s 1 v1) fun x0 =>
  obind (sadv 0 x0 v7) fun x1 =>
  obind (ldv s 0 x1) fun x2 =>
  oguard x2 true (
    obind (ldv s 10 v2) fun x3 =>
    obind (ldv s 10 v3) fun x4 =>
    obind (rf D f_queue_Mine [v7, x3, x4] s) fun x5 =>
    some (.normal, [(1, v1), (2, v2), (3, v3), (7, v7), (24, x5.1)], x5.2)) (
    some (.normal, [(1, v1), (2, v2), (3, v3), (7, v7), (24, (.bool false))], s)) (
    none)
@[go_sem] theorem rc_queue_Next_1_3 {base : Nat} {ρ : Env} {s : St} : rc D base (.reg (some [1, 2, 3, 7, 24]) o_queue_Next_1_3) ρ s = R_queue_Next_1_3 base s (get ρ 1) (get ρ 2) (get ρ 3) (get ρ 7) := rc_reg_O.trans (by kernel_rfl)
@[go_sem] noncomputable def R_queue_Next_1_4 (_base : Nat) (s : St) (v7 : V) : Option (Ex × Env × St) :=
  some (.normal, [(5, v7), (6, (.bool true))], s)
@[go_sem] theorem rc_queue_Next_1_4 {base : Nat} {ρ : Env} {s : St} : rc D base (.reg (some [5, 6]) o_queue_Next_1_4) ρ s = R_queue_Next_1_4 base s (get ρ 7) := rc_reg_O.trans (by kernel_rfl)
@[go_sem] noncomputable def R_queue_Next_1_5 (_base : Nat) (s : St) (v1 v2 v3 v7 : V) : Option (Ex × Env × St) :=
  obind (vbin .add v7 (.int .i64 1)) fun x0 =>
  some (.normal, [(1, v1), (2, v2), (3, v3), (7, x0)], s)
@[go_sem] theorem rc_queue_Next_1_5 {base : Nat} {ρ : Env} {s : St} : rc D base (.reg (some [1, 2, 3, 7]) o_queue_Next_1_5) ρ s = R_queue_Next_1_5 base s (get ρ 1) (get ρ 2) (get ρ 3) (get ρ 7) := rc_reg_O.trans (by kernel_rfl)
@[go_sem] noncomputable def R_queue_Next_1_6 (_base : Nat) (s : St) : Option (Ex × Env × St) :=
  some (.normal, [(5, (.int .i64 0)), (6, (.bool false))], s)
@[go_sem] theorem rc_queue_Next_1_6 {base : Nat} {ρ : Env} {s : St} : rc D base (.reg (some [5, 6]) o_queue_Next_1_6) ρ s = R_queue_Next_1_6 base s := rc_reg_O.trans (by kernel_rfl)


end Go.Proofs.Ytfdaihhnlohckaa
