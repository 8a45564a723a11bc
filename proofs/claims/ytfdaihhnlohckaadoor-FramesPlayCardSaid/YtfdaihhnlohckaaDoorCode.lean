/-
  YtfdaihhnlohckaaDoorCode: the code of the functions that this seat's laws reach, in the form of Ab1 (printed by a program out of the translation; held against it in YtfdaihhnlohckaaDoorChk).
-/
import Derived.Test.YtfdaihhnlohckaaDoorAb3
import Derived.KernelRfl
set_option maxRecDepth 100000
namespace Go.Proofs.YtfdaihhnlohckaaDoor
open Go.Ab
def glob_0 : V := .ptr (.hp 0) [] 108
@[go_sem] theorem glob_0_eq : glob_0 = .ptr (.hp 0) [] 108 := nd rfl
def tabl_0 : List Int := [0, 1, 56, 2, 57, 49, 28, 3, 61, 58, 42, 50, 38, 29, 17, 4, 62, 47, 59, 36, 45, 43, 51, 22, 53, 39, 33, 30, 24, 18, 12, 5, 63, 55, 48, 27, 60, 41, 37, 16, 46, 35, 44, 21, 52, 32, 23, 11, 54, 26, 40, 15, 34, 20, 31, 10, 25, 14, 19, 9, 13, 8, 7, 6]
def globV_0 : V := .agg 108 (tabl_0.map (.int .u8))
/-- The variables of the program that the laws read. -/
def G : List Blk := [.ro globV_0]
/-! The functions' numbers. -/
def f_steadfastlaw04_FramesOnce : Nat := 3
def f_steadfastlaw04_FramesSettled : Nat := 4
def f_steadfastlaw04_FramesLeft : Nat := 5
def f_steadfastlaw04_FramesFirst : Nat := 6
def f_steadfastlaw04_FramesPlay : Nat := 7
def f_steadfastlaw04_shown : Nat := 8
def f_frames_New : Nat := 9
def f_steadfastlaw04_kind : Nat := 10
def f_frames_Frames_Alloc : Nat := 11
def f_frames_Frames_Left : Nat := 12
def f_frames_Frames_Free : Nat := 13
def f_frames_Frames_Later : Nat := 14
def f_frames_Frames_Settle : Nat := 15
def f_frames_Frames_State : Nat := 16
def f_frames_Frames_Take : Nat := 17
def f_steadfastref04_New : Nat := 18
def f_steadfastref04_Frames_Alloc : Nat := 19
def f_steadfastref04_Frames_Take : Nat := 20
def f_steadfastref04_Frames_Free : Nat := 21
def f_steadfastref04_Frames_Later : Nat := 22
def f_steadfastref04_Frames_Settle : Nat := 23
def f_frames_Frames_Clone : Nat := 24
def f_steadfastref04_Frames_Left : Nat := 25
def f_steadfastref04_Frames_State : Nat := 26
def f_frames_set_turn : Nat := 27
def f_math_bits_TrailingZeros64 : Nat := 28
def f_math_bits_OnesCount64 : Nat := 29
def f_frames_Frames_in : Nat := 30
def f_frames_set_has : Nat := 31
def f_steadfastref04_Frames_turn : Nat := 32
def o_steadfastlaw04_FramesOnce_0 : List Ab.Op := [
  ⟨some 2, none, .mv (.k (.bool false))⟩]
def o_steadfastlaw04_FramesOnce_1 : List Ab.Op := [
  ⟨some 12, none, .call (.k (.fn f_steadfastlaw04_shown [])) []⟩,
  ⟨some 3, none, .mv (.t 12)⟩]
def o_steadfastlaw04_FramesOnce_2 : List Ab.Op := [
  ⟨some 14, none, .call (.k (.fn f_frames_New [])) [(.k (.int .i64 4)), (.k (.int .i64 20))]⟩,
  ⟨some 13, none, .mv (.t 14)⟩,
  ⟨some 15, none, .ext (.t 13) 0⟩,
  ⟨some 16, none, .ext (.t 13) 1⟩,
  ⟨some 4, none, .mv (.t 15)⟩,
  ⟨some 5, none, .mv (.t 16)⟩]
def o_steadfastlaw04_FramesOnce_3 : List Ab.Op := [
  ⟨some 17, none, .mv (.t 3)⟩,
  ⟨some 18, none, .un .not (.t 17)⟩,
  ⟨some 19, none, .mv (.t 18)⟩,
  ⟨some 20, some (19, false), .mv (.t 4)⟩,
  ⟨some 21, some (19, false), .eq false 1 (.t 20) (.k .nilp)⟩,
  ⟨some 22, none, .pick (.t 19) (.k (.bool true)) (.t 21)⟩]
def o_steadfastlaw04_FramesOnce_4 : List Ab.Op := [
  ⟨some 2, none, .mv (.k (.bool false))⟩]
def o_steadfastlaw04_FramesOnce_5 : List Ab.Op := [
  ⟨some 23, none, .mksl false 20 0 (.bool false) (.k (.int .i64 20)) (.k (.int .i64 20))⟩,
  ⟨some 6, none, .mv (.t 23)⟩]
def o_steadfastlaw04_FramesOnce_6 : List Ab.Op := [
  ⟨some 7, none, .mv (.k (.int .i64 0))⟩]
def o_steadfastlaw04_FramesOnce_7 : List Ab.Op := [
  ⟨some 24, none, .mv (.t 7)⟩,
  ⟨some 25, none, .mv (.t 0)⟩,
  ⟨some 26, none, .len false (.t 25)⟩,
  ⟨some 27, none, .bin .lss (.t 24) (.t 26)⟩,
  ⟨some 28, none, .mv (.t 27)⟩,
  ⟨some 29, some (28, true), .mv (.t 7)⟩,
  ⟨some 30, some (28, true), .bin .lss (.t 29) (.k (.int .i64 150))⟩,
  ⟨some 31, none, .pick (.t 28) (.t 30) (.k (.bool false))⟩]
def o_steadfastlaw04_FramesOnce_8 : List Ab.Op := [
  ⟨some 34, none, .mv (.t 0)⟩,
  ⟨some 35, none, .mv (.t 7)⟩,
  ⟨some 36, none, .sad 34 (.t 34) (.t 35)⟩,
  ⟨some 37, none, .fad 34 1 10 (.t 36)⟩,
  ⟨some 38, none, .ld 10 (.t 37)⟩,
  ⟨some 39, none, .call (.k (.fn f_steadfastlaw04_kind [])) [(.t 38), (.k (.int .i64 16))]⟩,
  ⟨some 40, none, .bin .add (.k (.int .i64 4)) (.t 39)⟩,
  ⟨some 8, none, .mv (.t 40)⟩]
def o_steadfastlaw04_FramesOnce_9 : List Ab.Op := [
  ⟨some 41, none, .mv (.t 0)⟩,
  ⟨some 42, none, .mv (.t 7)⟩,
  ⟨some 43, none, .sad 34 (.t 41) (.t 42)⟩,
  ⟨some 44, none, .fad 34 0 10 (.t 43)⟩,
  ⟨some 45, none, .ld 10 (.t 44)⟩,
  ⟨some 46, none, .call (.k (.fn f_steadfastlaw04_kind [])) [(.t 45), (.k (.int .i64 5))]⟩]
def o_steadfastlaw04_FramesOnce_10 : List Ab.Op := [
  ⟨some 48, none, .bin .eql (.t 46) (.k (.int .i64 0))⟩,
  ⟨some 47, none, .mv (.t 48)⟩]
def o_steadfastlaw04_FramesOnce_11 : List Ab.Op := [
  ⟨some 49, none, .bin .eql (.t 46) (.k (.int .i64 1))⟩,
  ⟨some 47, none, .mv (.t 49)⟩]
def o_steadfastlaw04_FramesOnce_12 : List Ab.Op := [
  ⟨some 51, none, .mv (.t 4)⟩,
  ⟨some 52, none, .call (.k (.fn f_frames_Frames_Alloc [])) [(.t 51)]⟩,
  ⟨some 50, none, .mv (.t 52)⟩,
  ⟨some 53, none, .ext (.t 50) 0⟩,
  ⟨some 54, none, .ext (.t 50) 1⟩,
  ⟨some 9, none, .mv (.t 53)⟩,
  ⟨some 10, none, .mv (.t 54)⟩]
def o_steadfastlaw04_FramesOnce_13 : List Ab.Op := [
  ⟨some 55, none, .mv (.t 10)⟩,
  ⟨some 56, none, .bin .neq (.t 55) (.k (.int .i64 0))⟩]
def o_steadfastlaw04_FramesOnce_14 : List Ab.Op := [
  ⟨some 57, none, .mv (.t 4)⟩,
  ⟨some 58, none, .call (.k (.fn f_frames_Frames_Left [])) [(.t 57)]⟩,
  ⟨some 59, none, .bin .neq (.t 58) (.k (.int .i64 0))⟩]
def o_steadfastlaw04_FramesOnce_15 : List Ab.Op := [
  ⟨some 2, none, .mv (.k (.bool false))⟩]
def o_steadfastlaw04_FramesOnce_16 : List Ab.Op := [
  ⟨some 60, none, .mv (.t 9)⟩,
  ⟨some 61, none, .bin .lss (.t 60) (.k (.int .i64 4))⟩,
  ⟨some 62, none, .mv (.t 61)⟩,
  ⟨some 63, some (62, false), .mv (.t 9)⟩,
  ⟨some 64, some (62, false), .bin .gtr (.t 63) (.k (.int .i64 19))⟩,
  ⟨some 65, none, .pick (.t 62) (.k (.bool true)) (.t 64)⟩,
  ⟨some 66, none, .mv (.t 65)⟩,
  ⟨some 67, some (66, false), .mv (.t 6)⟩,
  ⟨some 68, some (66, false), .mv (.t 9)⟩,
  ⟨some 69, some (66, false), .sad 0 (.t 67) (.t 68)⟩,
  ⟨some 70, some (66, false), .ld 0 (.t 69)⟩,
  ⟨some 71, none, .pick (.t 66) (.k (.bool true)) (.t 70)⟩]
def o_steadfastlaw04_FramesOnce_17 : List Ab.Op := [
  ⟨some 2, none, .mv (.k (.bool false))⟩]
def o_steadfastlaw04_FramesOnce_18 : List Ab.Op := [
  ⟨some 72, none, .mv (.t 6)⟩,
  ⟨some 73, none, .mv (.t 9)⟩,
  ⟨some 74, none, .sad 0 (.t 72) (.t 73)⟩,
  ⟨none, none, .st 0 (.t 74) (.k (.bool true))⟩]
def o_steadfastlaw04_FramesOnce_19 : List Ab.Op := [
  ⟨some 76, none, .bin .eql (.t 46) (.k (.int .i64 2))⟩,
  ⟨some 75, none, .mv (.t 76)⟩]
def o_steadfastlaw04_FramesOnce_20 : List Ab.Op := [
  ⟨some 77, none, .mv (.t 4)⟩,
  ⟨some 78, none, .mv (.t 8)⟩,
  ⟨some 79, none, .call (.k (.fn f_frames_Frames_Free [])) [(.t 77), (.t 78)]⟩,
  ⟨some 80, none, .bin .eql (.t 79) (.k (.int .i64 0))⟩]
def o_steadfastlaw04_FramesOnce_21 : List Ab.Op := [
  ⟨some 81, none, .mv (.t 6)⟩,
  ⟨some 82, none, .mv (.t 8)⟩,
  ⟨some 83, none, .sad 0 (.t 81) (.t 82)⟩,
  ⟨some 84, none, .ld 0 (.t 83)⟩,
  ⟨some 85, none, .un .not (.t 84)⟩]
def o_steadfastlaw04_FramesOnce_22 : List Ab.Op := [
  ⟨some 2, none, .mv (.k (.bool false))⟩]
def o_steadfastlaw04_FramesOnce_23 : List Ab.Op := [
  ⟨some 86, none, .mv (.t 6)⟩,
  ⟨some 87, none, .mv (.t 8)⟩,
  ⟨some 88, none, .sad 0 (.t 86) (.t 87)⟩,
  ⟨none, none, .st 0 (.t 88) (.k (.bool false))⟩]
def o_steadfastlaw04_FramesOnce_24 : List Ab.Op := [
  ⟨some 90, none, .bin .eql (.t 46) (.k (.int .i64 3))⟩,
  ⟨some 89, none, .mv (.t 90)⟩]
def o_steadfastlaw04_FramesOnce_25 : List Ab.Op := [
  ⟨some 91, none, .mv (.t 4)⟩,
  ⟨some 92, none, .mv (.t 8)⟩,
  ⟨some 93, none, .call (.k (.fn f_frames_Frames_Later [])) [(.t 91), (.t 92)]⟩]
def o_steadfastlaw04_FramesOnce_26 : List Ab.Op := [
  ⟨some 95, none, .bin .eql (.t 46) (.k (.int .i64 4))⟩,
  ⟨some 94, none, .mv (.t 95)⟩]
def o_steadfastlaw04_FramesOnce_27 : List Ab.Op := [
  ⟨some 96, none, .mv (.t 4)⟩,
  ⟨some 97, none, .call (.k (.fn f_frames_Frames_Settle [])) [(.t 96)]⟩]
def o_steadfastlaw04_FramesOnce_28 : List Ab.Op := [
  ⟨some 11, none, .mv (.k (.int .i64 4))⟩]
def o_steadfastlaw04_FramesOnce_29 : List Ab.Op := [
  ⟨some 98, none, .mv (.t 11)⟩,
  ⟨some 99, none, .bin .lss (.t 98) (.k (.int .i64 20))⟩]
def o_steadfastlaw04_FramesOnce_30 : List Ab.Op := [
  ⟨some 102, none, .mv (.t 4)⟩,
  ⟨some 103, none, .mv (.t 11)⟩,
  ⟨some 104, none, .call (.k (.fn f_frames_Frames_State [])) [(.t 102), (.t 103)]⟩,
  ⟨some 105, none, .bin .eql (.t 104) (.k (.int .i64 0))⟩]
def o_steadfastlaw04_FramesOnce_31 : List Ab.Op := [
  ⟨some 106, none, .mv (.t 6)⟩,
  ⟨some 107, none, .mv (.t 11)⟩,
  ⟨some 108, none, .sad 0 (.t 106) (.t 107)⟩,
  ⟨none, none, .st 0 (.t 108) (.k (.bool false))⟩]
def o_steadfastlaw04_FramesOnce_32 : List Ab.Op := [
  ⟨some 100, none, .mv (.t 11)⟩,
  ⟨some 101, none, .bin .add (.t 100) (.k (.int .i64 1))⟩,
  ⟨some 11, none, .mv (.t 101)⟩]
def o_steadfastlaw04_FramesOnce_33 : List Ab.Op := [
  ⟨some 32, none, .mv (.t 7)⟩,
  ⟨some 33, none, .bin .add (.t 32) (.k (.int .i64 1))⟩,
  ⟨some 7, none, .mv (.t 33)⟩]
def o_steadfastlaw04_FramesOnce_34 : List Ab.Op := [
  ⟨some 2, none, .mv (.k (.bool true))⟩]
def b_steadfastlaw04_FramesOnce_1 : C :=
    .seq (.seq ((.reg (some [0, 4, 6, 7, 11, 99]) o_steadfastlaw04_FramesOnce_29)) (
    .cond (.t 99) (
      .skip) (
      .exit 3))) (
    .seq (.block 4 (
      .seq ((.reg (some [0, 4, 6, 7, 11, 105]) o_steadfastlaw04_FramesOnce_30)) (
      .cond (.t 105) (
        (.reg (some [0, 4, 6, 7, 11]) o_steadfastlaw04_FramesOnce_31)) (
        .skip)))) (
    (.reg (some [0, 4, 6, 7, 11]) o_steadfastlaw04_FramesOnce_32)))
def b_steadfastlaw04_FramesOnce_0 : C :=
    .seq (.seq ((.reg (some [0, 4, 6, 7, 31]) o_steadfastlaw04_FramesOnce_7)) (
    .cond (.t 31) (
      .skip) (
      .exit 0))) (
    .seq (.block 1 (
      .seq ((.reg (some [0, 4, 6, 7, 8]) o_steadfastlaw04_FramesOnce_8)) (
      .seq ((.reg (some [0, 4, 6, 7, 8, 46]) o_steadfastlaw04_FramesOnce_9)) (
      .block 2 (
        .seq (.seq ((.reg (some [0, 4, 6, 7, 8, 46, 47]) o_steadfastlaw04_FramesOnce_10)) (
        .cond (.t 47) (
          .skip) (
          (.reg (some [0, 4, 6, 7, 8, 46, 47]) o_steadfastlaw04_FramesOnce_11)))) (
        .cond (.t 47) (
          .seq ((.reg (some [0, 4, 6, 7, 9, 10]) o_steadfastlaw04_FramesOnce_12)) (
          .seq (.seq ((.reg (some [0, 4, 6, 7, 9, 56]) o_steadfastlaw04_FramesOnce_13)) (
          .cond (.t 56) (
            .seq (.seq ((.reg (some [0, 4, 6, 7, 59]) o_steadfastlaw04_FramesOnce_14)) (
            .cond (.t 59) (
              .seq ((.reg (some [2]) o_steadfastlaw04_FramesOnce_15)) (
              .ret)) (
              .skip))) (
            .exit 1)) (
            .skip))) (
          .seq (.seq ((.reg (some [0, 4, 6, 7, 9, 71]) o_steadfastlaw04_FramesOnce_16)) (
          .cond (.t 71) (
            .seq ((.reg (some [2]) o_steadfastlaw04_FramesOnce_17)) (
            .ret)) (
            .skip))) (
          (.reg (some [0, 4, 6, 7]) o_steadfastlaw04_FramesOnce_18))))) (
          .seq ((.reg (some [0, 4, 6, 7, 8, 46, 75]) o_steadfastlaw04_FramesOnce_19)) (
          .cond (.t 75) (
            .seq ((.reg (some [0, 4, 6, 7, 8, 80]) o_steadfastlaw04_FramesOnce_20)) (
            .cond (.t 80) (
              .seq (.seq ((.reg (some [0, 4, 6, 7, 8, 85]) o_steadfastlaw04_FramesOnce_21)) (
              .cond (.t 85) (
                .seq ((.reg (some [2]) o_steadfastlaw04_FramesOnce_22)) (
                .ret)) (
                .skip))) (
              (.reg (some [0, 4, 6, 7]) o_steadfastlaw04_FramesOnce_23))) (
              .skip))) (
            .seq ((.reg (some [0, 4, 6, 7, 8, 46, 89]) o_steadfastlaw04_FramesOnce_24)) (
            .cond (.t 89) (
              (.reg (some [0, 4, 6, 7]) o_steadfastlaw04_FramesOnce_25)) (
              .seq ((.reg (some [0, 4, 6, 7, 94]) o_steadfastlaw04_FramesOnce_26)) (
              .cond (.t 94) (
                .seq ((.reg (some [0, 4, 6, 7]) o_steadfastlaw04_FramesOnce_27)) (
                .seq ((.reg (some [0, 4, 6, 7, 11]) o_steadfastlaw04_FramesOnce_28)) (
                .block 3 (
                  .loop [0, 4, 6, 7, 11] b_steadfastlaw04_FramesOnce_1)))) (
                .skip))))))))))))) (
    (.reg (some [0, 4, 6, 7]) o_steadfastlaw04_FramesOnce_33)))
/-- steadfast/steadfastlaw04.FramesOnce -/
@[go_sem] def fc_steadfastlaw04_FramesOnce : Fc := ⟨1,
  .seq ((.reg (some [0]) o_steadfastlaw04_FramesOnce_0)) (
  .seq ((.reg (some [0, 3]) o_steadfastlaw04_FramesOnce_1)) (
  .seq ((.reg (some [0, 3, 4]) o_steadfastlaw04_FramesOnce_2)) (
  .seq (.seq ((.reg (some [0, 4, 22]) o_steadfastlaw04_FramesOnce_3)) (
  .cond (.t 22) (
    .seq ((.reg (some [2]) o_steadfastlaw04_FramesOnce_4)) (
    .ret)) (
    .skip))) (
  .seq ((.reg (some [0, 4, 6]) o_steadfastlaw04_FramesOnce_5)) (
  .seq (.seq ((.reg (some [0, 4, 6, 7]) o_steadfastlaw04_FramesOnce_6)) (
  .block 0 (
    .loop [0, 4, 6, 7] b_steadfastlaw04_FramesOnce_0))) (
  .seq ((.reg (some [2]) o_steadfastlaw04_FramesOnce_34)) (
  .ret))))))),
  [.t 2]⟩
def o_steadfastlaw04_FramesSettled_0 : List Ab.Op := [
  ⟨some 2, none, .mv (.k (.bool false))⟩]
def o_steadfastlaw04_FramesSettled_1 : List Ab.Op := [
  ⟨some 12, none, .call (.k (.fn f_steadfastlaw04_shown [])) []⟩,
  ⟨some 3, none, .mv (.t 12)⟩]
def o_steadfastlaw04_FramesSettled_2 : List Ab.Op := [
  ⟨some 14, none, .call (.k (.fn f_frames_New [])) [(.k (.int .i64 0)), (.k (.int .i64 32))]⟩,
  ⟨some 13, none, .mv (.t 14)⟩,
  ⟨some 15, none, .ext (.t 13) 0⟩,
  ⟨some 16, none, .ext (.t 13) 1⟩,
  ⟨some 4, none, .mv (.t 15)⟩,
  ⟨some 5, none, .mv (.t 16)⟩]
def o_steadfastlaw04_FramesSettled_3 : List Ab.Op := [
  ⟨some 17, none, .mv (.t 3)⟩,
  ⟨some 18, none, .un .not (.t 17)⟩,
  ⟨some 19, none, .mv (.t 18)⟩,
  ⟨some 20, some (19, false), .mv (.t 4)⟩,
  ⟨some 21, some (19, false), .eq false 1 (.t 20) (.k .nilp)⟩,
  ⟨some 22, none, .pick (.t 19) (.k (.bool true)) (.t 21)⟩]
def o_steadfastlaw04_FramesSettled_4 : List Ab.Op := [
  ⟨some 2, none, .mv (.k (.bool false))⟩]
def o_steadfastlaw04_FramesSettled_5 : List Ab.Op := [
  ⟨some 6, none, .mv (.k (.int .i64 0))⟩]
def o_steadfastlaw04_FramesSettled_6 : List Ab.Op := [
  ⟨some 23, none, .mv (.t 6)⟩,
  ⟨some 24, none, .bin .lss (.t 23) (.k (.int .i64 32))⟩]
def o_steadfastlaw04_FramesSettled_7 : List Ab.Op := [
  ⟨some 27, none, .mv (.t 4)⟩,
  ⟨some 28, none, .call (.k (.fn f_frames_Frames_Alloc [])) [(.t 27)]⟩]
def o_steadfastlaw04_FramesSettled_8 : List Ab.Op := [
  ⟨some 25, none, .mv (.t 6)⟩,
  ⟨some 26, none, .bin .add (.t 25) (.k (.int .i64 1))⟩,
  ⟨some 6, none, .mv (.t 26)⟩]
def o_steadfastlaw04_FramesSettled_9 : List Ab.Op := [
  ⟨some 7, none, .mv (.k (.int .i64 0))⟩]
def o_steadfastlaw04_FramesSettled_10 : List Ab.Op := [
  ⟨some 8, none, .mv (.k (.int .i64 0))⟩]
def o_steadfastlaw04_FramesSettled_11 : List Ab.Op := [
  ⟨some 29, none, .mv (.t 8)⟩,
  ⟨some 30, none, .bin .lss (.t 29) (.k (.int .i64 32))⟩]
def o_steadfastlaw04_FramesSettled_12 : List Ab.Op := [
  ⟨some 33, none, .mv (.t 0)⟩,
  ⟨some 34, none, .mv (.t 8)⟩,
  ⟨some 35, none, .bin .shr (.t 33) (.t 34)⟩,
  ⟨some 36, none, .bin .and (.t 35) (.k (.int .u64 1))⟩,
  ⟨some 37, none, .bin .eql (.t 36) (.k (.int .u64 1))⟩]
def o_steadfastlaw04_FramesSettled_13 : List Ab.Op := [
  ⟨some 38, none, .mv (.t 7)⟩,
  ⟨some 39, none, .bin .add (.t 38) (.k (.int .i64 1))⟩,
  ⟨some 7, none, .mv (.t 39)⟩]
def o_steadfastlaw04_FramesSettled_14 : List Ab.Op := [
  ⟨some 40, none, .mv (.t 4)⟩,
  ⟨some 41, none, .mv (.t 8)⟩,
  ⟨some 42, none, .call (.k (.fn f_frames_Frames_Later [])) [(.t 40), (.t 41)]⟩,
  ⟨some 43, none, .bin .neq (.t 42) (.k (.int .i64 0))⟩,
  ⟨some 44, none, .mv (.t 43)⟩,
  ⟨some 45, some (44, false), .mv (.t 4)⟩,
  ⟨some 46, some (44, false), .mv (.t 8)⟩,
  ⟨some 47, some (44, false), .call (.k (.fn f_frames_Frames_Later [])) [(.t 45), (.t 46)]⟩,
  ⟨some 48, some (44, false), .bin .neq (.t 47) (.k (.int .i64 3))⟩,
  ⟨some 49, none, .pick (.t 44) (.k (.bool true)) (.t 48)⟩,
  ⟨some 50, none, .mv (.t 49)⟩,
  ⟨some 51, some (50, false), .mv (.t 4)⟩,
  ⟨some 52, some (50, false), .mv (.t 8)⟩,
  ⟨some 53, some (50, false), .call (.k (.fn f_frames_Frames_State [])) [(.t 51), (.t 52)]⟩,
  ⟨some 54, some (50, false), .bin .neq (.t 53) (.k (.int .i64 2))⟩,
  ⟨some 55, none, .pick (.t 50) (.k (.bool true)) (.t 54)⟩]
def o_steadfastlaw04_FramesSettled_15 : List Ab.Op := [
  ⟨some 2, none, .mv (.k (.bool false))⟩]
def o_steadfastlaw04_FramesSettled_16 : List Ab.Op := [
  ⟨some 31, none, .mv (.t 8)⟩,
  ⟨some 32, none, .bin .add (.t 31) (.k (.int .i64 1))⟩,
  ⟨some 8, none, .mv (.t 32)⟩]
def o_steadfastlaw04_FramesSettled_17 : List Ab.Op := [
  ⟨some 57, none, .mv (.t 4)⟩,
  ⟨some 58, none, .call (.k (.fn f_frames_Frames_Alloc [])) [(.t 57)]⟩,
  ⟨some 56, none, .mv (.t 58)⟩,
  ⟨some 59, none, .ext (.t 56) 0⟩,
  ⟨some 60, none, .ext (.t 56) 1⟩,
  ⟨some 9, none, .mv (.t 59)⟩,
  ⟨some 10, none, .mv (.t 60)⟩]
def o_steadfastlaw04_FramesSettled_18 : List Ab.Op := [
  ⟨some 61, none, .mv (.t 4)⟩,
  ⟨some 62, none, .call (.k (.fn f_frames_Frames_Settle [])) [(.t 61)]⟩]
def o_steadfastlaw04_FramesSettled_19 : List Ab.Op := [
  ⟨some 63, none, .mv (.t 10)⟩,
  ⟨some 64, none, .bin .neq (.t 63) (.k (.int .i64 10))⟩,
  ⟨some 65, none, .mv (.t 64)⟩,
  ⟨some 66, some (65, false), .mv (.t 4)⟩,
  ⟨some 67, some (65, false), .call (.k (.fn f_frames_Frames_Left [])) [(.t 66)]⟩,
  ⟨some 68, some (65, false), .mv (.t 7)⟩,
  ⟨some 69, some (65, false), .bin .neq (.t 67) (.t 68)⟩,
  ⟨some 70, none, .pick (.t 65) (.k (.bool true)) (.t 69)⟩]
def o_steadfastlaw04_FramesSettled_20 : List Ab.Op := [
  ⟨some 2, none, .mv (.k (.bool false))⟩]
def o_steadfastlaw04_FramesSettled_21 : List Ab.Op := [
  ⟨some 11, none, .mv (.k (.int .i64 0))⟩]
def o_steadfastlaw04_FramesSettled_22 : List Ab.Op := [
  ⟨some 71, none, .mv (.t 11)⟩,
  ⟨some 72, none, .bin .lss (.t 71) (.k (.int .i64 32))⟩]
def o_steadfastlaw04_FramesSettled_23 : List Ab.Op := [
  ⟨some 75, none, .mv (.t 4)⟩,
  ⟨some 76, none, .mv (.t 11)⟩,
  ⟨some 77, none, .pcall (.k (.fn f_frames_Frames_State [])) [(.t 75), (.t 76)]⟩,
  ⟨some 78, none, .bin .eql (.t 77) (.k (.int .i64 0))⟩,
  ⟨some 79, none, .mv (.t 0)⟩,
  ⟨some 80, none, .mv (.t 11)⟩,
  ⟨some 81, none, .bin .shr (.t 79) (.t 80)⟩,
  ⟨some 82, none, .bin .and (.t 81) (.k (.int .u64 1))⟩,
  ⟨some 83, none, .bin .eql (.t 82) (.k (.int .u64 1))⟩,
  ⟨some 84, none, .eq true 0 (.t 78) (.t 83)⟩]
def o_steadfastlaw04_FramesSettled_24 : List Ab.Op := [
  ⟨some 2, none, .mv (.k (.bool false))⟩]
def o_steadfastlaw04_FramesSettled_25 : List Ab.Op := [
  ⟨some 73, none, .mv (.t 11)⟩,
  ⟨some 74, none, .bin .add (.t 73) (.k (.int .i64 1))⟩,
  ⟨some 11, none, .mv (.t 74)⟩]
def o_steadfastlaw04_FramesSettled_26 : List Ab.Op := [
  ⟨some 2, none, .mv (.k (.bool true))⟩]
def b_steadfastlaw04_FramesSettled_0 : C :=
    .seq (.seq ((.reg (some [0, 4, 6, 24]) o_steadfastlaw04_FramesSettled_6)) (
    .cond (.t 24) (
      .skip) (
      .exit 0))) (
    .seq (.block 1 (
      (.reg (some [0, 4, 6]) o_steadfastlaw04_FramesSettled_7))) (
    (.reg (some [0, 4, 6]) o_steadfastlaw04_FramesSettled_8)))
def b_steadfastlaw04_FramesSettled_1 : C :=
    .seq (.seq ((.reg (some [0, 4, 7, 8, 30]) o_steadfastlaw04_FramesSettled_11)) (
    .cond (.t 30) (
      .skip) (
      .exit 2))) (
    .seq (.block 3 (
      .seq ((.reg (some [0, 4, 7, 8, 37]) o_steadfastlaw04_FramesSettled_12)) (
      .cond (.t 37) (
        .seq ((.reg (some [0, 4, 7, 8]) o_steadfastlaw04_FramesSettled_13)) (
        .seq ((.reg (some [0, 4, 7, 8, 55]) o_steadfastlaw04_FramesSettled_14)) (
        .cond (.t 55) (
          .seq ((.reg (some [2]) o_steadfastlaw04_FramesSettled_15)) (
          .ret)) (
          .skip)))) (
        .skip)))) (
    (.reg (some [0, 4, 7, 8]) o_steadfastlaw04_FramesSettled_16)))
def b_steadfastlaw04_FramesSettled_2 : C :=
    .seq (.seq ((.reg (some [0, 4, 11, 72]) o_steadfastlaw04_FramesSettled_22)) (
    .cond (.t 72) (
      .skip) (
      .exit 4))) (
    .seq (.block 5 (
      .seq ((.regd (some [0, 4, 11, 84]) o_steadfastlaw04_FramesSettled_23)) (
      .cond (.t 84) (
        .seq ((.reg (some [2]) o_steadfastlaw04_FramesSettled_24)) (
        .ret)) (
        .skip)))) (
    (.reg (some [0, 4, 11]) o_steadfastlaw04_FramesSettled_25)))
/-- steadfast/steadfastlaw04.FramesSettled -/
@[go_sem] def fc_steadfastlaw04_FramesSettled : Fc := ⟨1,
  .seq ((.reg (some [0]) o_steadfastlaw04_FramesSettled_0)) (
  .seq ((.reg (some [0, 3]) o_steadfastlaw04_FramesSettled_1)) (
  .seq ((.reg (some [0, 3, 4]) o_steadfastlaw04_FramesSettled_2)) (
  .seq (.seq ((.reg (some [0, 4, 22]) o_steadfastlaw04_FramesSettled_3)) (
  .cond (.t 22) (
    .seq ((.reg (some [2]) o_steadfastlaw04_FramesSettled_4)) (
    .ret)) (
    .skip))) (
  .seq (.seq ((.reg (some [0, 4, 6]) o_steadfastlaw04_FramesSettled_5)) (
  .block 0 (
    .loop [0, 4, 6] b_steadfastlaw04_FramesSettled_0))) (
  .seq ((.reg (some [0, 4, 7]) o_steadfastlaw04_FramesSettled_9)) (
  .seq (.seq ((.reg (some [0, 4, 7, 8]) o_steadfastlaw04_FramesSettled_10)) (
  .block 2 (
    .loop [0, 4, 7, 8] b_steadfastlaw04_FramesSettled_1))) (
  .seq ((.reg (some [0, 4, 7, 10]) o_steadfastlaw04_FramesSettled_17)) (
  .seq ((.reg (some [0, 4, 7, 10]) o_steadfastlaw04_FramesSettled_18)) (
  .seq (.seq ((.reg (some [0, 4, 70]) o_steadfastlaw04_FramesSettled_19)) (
  .cond (.t 70) (
    .seq ((.reg (some [2]) o_steadfastlaw04_FramesSettled_20)) (
    .ret)) (
    .skip))) (
  .seq (.seq ((.reg (some [0, 4, 11]) o_steadfastlaw04_FramesSettled_21)) (
  .block 4 (
    .loop [0, 4, 11] b_steadfastlaw04_FramesSettled_2))) (
  .seq ((.reg (some [2]) o_steadfastlaw04_FramesSettled_26)) (
  .ret)))))))))))),
  [.t 2]⟩
def o_steadfastlaw04_FramesLeft_0 : List Ab.Op := [
  ⟨some 4, none, .mv (.k (.bool false))⟩]
def o_steadfastlaw04_FramesLeft_1 : List Ab.Op := [
  ⟨some 16, none, .call (.k (.fn f_steadfastlaw04_shown [])) []⟩,
  ⟨some 5, none, .mv (.t 16)⟩]
def o_steadfastlaw04_FramesLeft_2 : List Ab.Op := [
  ⟨some 18, none, .call (.k (.fn f_frames_New [])) [(.k (.int .i64 0)), (.k (.int .i64 16))]⟩,
  ⟨some 17, none, .mv (.t 18)⟩,
  ⟨some 19, none, .ext (.t 17) 0⟩,
  ⟨some 20, none, .ext (.t 17) 1⟩,
  ⟨some 6, none, .mv (.t 19)⟩,
  ⟨some 7, none, .mv (.t 20)⟩]
def o_steadfastlaw04_FramesLeft_3 : List Ab.Op := [
  ⟨some 21, none, .mv (.t 5)⟩,
  ⟨some 22, none, .un .not (.t 21)⟩,
  ⟨some 23, none, .mv (.t 22)⟩,
  ⟨some 24, some (23, false), .mv (.t 6)⟩,
  ⟨some 25, some (23, false), .eq false 1 (.t 24) (.k .nilp)⟩,
  ⟨some 26, none, .pick (.t 23) (.k (.bool true)) (.t 25)⟩]
def o_steadfastlaw04_FramesLeft_4 : List Ab.Op := [
  ⟨some 4, none, .mv (.k (.bool false))⟩]
def o_steadfastlaw04_FramesLeft_5 : List Ab.Op := [
  ⟨some 27, none, .mv (.t 0)⟩,
  ⟨some 28, none, .call (.k (.fn f_steadfastlaw04_kind [])) [(.t 27), (.k (.int .i64 17))]⟩,
  ⟨some 8, none, .mv (.t 28)⟩]
def o_steadfastlaw04_FramesLeft_6 : List Ab.Op := [
  ⟨some 9, none, .mv (.k (.int .i64 0))⟩]
def o_steadfastlaw04_FramesLeft_7 : List Ab.Op := [
  ⟨some 29, none, .mv (.t 9)⟩,
  ⟨some 30, none, .mv (.t 8)⟩,
  ⟨some 31, none, .bin .lss (.t 29) (.t 30)⟩]
def o_steadfastlaw04_FramesLeft_8 : List Ab.Op := [
  ⟨some 35, none, .mv (.t 6)⟩,
  ⟨some 36, none, .call (.k (.fn f_frames_Frames_Alloc [])) [(.t 35)]⟩,
  ⟨some 34, none, .mv (.t 36)⟩,
  ⟨some 37, none, .ext (.t 34) 0⟩,
  ⟨some 38, none, .ext (.t 34) 1⟩,
  ⟨some 10, none, .mv (.t 37)⟩,
  ⟨some 11, none, .mv (.t 38)⟩]
def o_steadfastlaw04_FramesLeft_9 : List Ab.Op := [
  ⟨some 39, none, .mv (.t 11)⟩,
  ⟨some 40, none, .bin .neq (.t 39) (.k (.int .i64 0))⟩,
  ⟨some 41, none, .mv (.t 40)⟩,
  ⟨some 42, some (41, false), .mv (.t 10)⟩,
  ⟨some 43, some (41, false), .mv (.t 9)⟩,
  ⟨some 44, some (41, false), .bin .neq (.t 42) (.t 43)⟩,
  ⟨some 45, none, .pick (.t 41) (.k (.bool true)) (.t 44)⟩,
  ⟨some 46, none, .mv (.t 45)⟩,
  ⟨some 47, some (46, false), .mv (.t 6)⟩,
  ⟨some 48, some (46, false), .call (.k (.fn f_frames_Frames_Left [])) [(.t 47)]⟩,
  ⟨some 49, some (46, false), .mv (.t 9)⟩,
  ⟨some 50, some (46, false), .bin .sub (.k (.int .i64 15)) (.t 49)⟩,
  ⟨some 51, some (46, false), .bin .neq (.t 48) (.t 50)⟩,
  ⟨some 52, none, .pick (.t 46) (.k (.bool true)) (.t 51)⟩]
def o_steadfastlaw04_FramesLeft_10 : List Ab.Op := [
  ⟨some 4, none, .mv (.k (.bool false))⟩]
def o_steadfastlaw04_FramesLeft_11 : List Ab.Op := [
  ⟨some 32, none, .mv (.t 9)⟩,
  ⟨some 33, none, .bin .add (.t 32) (.k (.int .i64 1))⟩,
  ⟨some 9, none, .mv (.t 33)⟩]
def o_steadfastlaw04_FramesLeft_12 : List Ab.Op := [
  ⟨some 53, none, .mv (.t 8)⟩,
  ⟨some 54, none, .bin .eql (.t 53) (.k (.int .i64 0))⟩]
def o_steadfastlaw04_FramesLeft_13 : List Ab.Op := [
  ⟨some 55, none, .mv (.t 6)⟩,
  ⟨some 56, none, .call (.k (.fn f_frames_Frames_Free [])) [(.t 55), (.k (.int .i64 0))]⟩,
  ⟨some 57, none, .bin .eql (.t 56) (.k (.int .i64 3))⟩,
  ⟨some 4, none, .mv (.t 57)⟩]
def o_steadfastlaw04_FramesLeft_14 : List Ab.Op := [
  ⟨some 58, none, .mv (.t 1)⟩,
  ⟨some 59, none, .mv (.t 8)⟩,
  ⟨some 60, none, .call (.k (.fn f_steadfastlaw04_kind [])) [(.t 58), (.t 59)]⟩,
  ⟨some 12, none, .mv (.t 60)⟩]
def o_steadfastlaw04_FramesLeft_15 : List Ab.Op := [
  ⟨some 61, none, .mv (.t 6)⟩,
  ⟨some 62, none, .mv (.t 12)⟩,
  ⟨some 63, none, .call (.k (.fn f_frames_Frames_Later [])) [(.t 61), (.t 62)]⟩,
  ⟨some 13, none, .mv (.t 63)⟩]
def o_steadfastlaw04_FramesLeft_16 : List Ab.Op := [
  ⟨some 64, none, .mv (.t 6)⟩,
  ⟨some 65, none, .call (.k (.fn f_frames_Frames_Left [])) [(.t 64)]⟩,
  ⟨some 14, none, .mv (.t 65)⟩]
def o_steadfastlaw04_FramesLeft_17 : List Ab.Op := [
  ⟨some 66, none, .mv (.t 6)⟩,
  ⟨some 67, none, .mv (.t 12)⟩,
  ⟨some 68, none, .call (.k (.fn f_frames_Frames_Free [])) [(.t 66), (.t 67)]⟩,
  ⟨some 15, none, .mv (.t 68)⟩]
def o_steadfastlaw04_FramesLeft_18 : List Ab.Op := [
  ⟨some 69, none, .mv (.t 6)⟩,
  ⟨some 70, none, .call (.k (.fn f_frames_Frames_Settle [])) [(.t 69)]⟩]
def o_steadfastlaw04_FramesLeft_19 : List Ab.Op := [
  ⟨some 71, none, .mv (.t 13)⟩,
  ⟨some 72, none, .bin .eql (.t 71) (.k (.int .i64 0))⟩,
  ⟨some 73, none, .mv (.t 72)⟩,
  ⟨some 74, some (73, true), .mv (.t 14)⟩,
  ⟨some 75, some (73, true), .mv (.t 8)⟩,
  ⟨some 76, some (73, true), .bin .sub (.k (.int .i64 16)) (.t 75)⟩,
  ⟨some 77, some (73, true), .bin .eql (.t 74) (.t 76)⟩,
  ⟨some 78, none, .pick (.t 73) (.t 77) (.k (.bool false))⟩,
  ⟨some 79, none, .mv (.t 78)⟩,
  ⟨some 80, some (79, true), .mv (.t 15)⟩,
  ⟨some 81, some (79, true), .bin .eql (.t 80) (.k (.int .i64 3))⟩,
  ⟨some 82, none, .pick (.t 79) (.t 81) (.k (.bool false))⟩,
  ⟨some 83, none, .mv (.t 82)⟩,
  ⟨some 84, some (83, true), .mv (.t 6)⟩,
  ⟨some 85, some (83, true), .call (.k (.fn f_frames_Frames_Left [])) [(.t 84)]⟩,
  ⟨some 86, some (83, true), .mv (.t 8)⟩,
  ⟨some 87, some (83, true), .bin .sub (.k (.int .i64 17)) (.t 86)⟩,
  ⟨some 88, some (83, true), .bin .eql (.t 85) (.t 87)⟩,
  ⟨some 89, none, .pick (.t 83) (.t 88) (.k (.bool false))⟩,
  ⟨some 90, none, .mv (.t 89)⟩,
  ⟨some 91, some (90, true), .mv (.t 6)⟩,
  ⟨some 92, some (90, true), .mv (.t 12)⟩,
  ⟨some 93, some (90, true), .call (.k (.fn f_frames_Frames_State [])) [(.t 91), (.t 92)]⟩,
  ⟨some 94, some (90, true), .bin .eql (.t 93) (.k (.int .i64 0))⟩,
  ⟨some 95, none, .pick (.t 90) (.t 94) (.k (.bool false))⟩,
  ⟨some 96, none, .mv (.t 95)⟩,
  ⟨some 97, some (96, true), .mv (.t 6)⟩,
  ⟨some 98, some (96, true), .mv (.t 12)⟩,
  ⟨some 99, some (96, true), .call (.k (.fn f_frames_Frames_Take [])) [(.t 97), (.t 98)]⟩,
  ⟨some 100, some (96, true), .bin .eql (.t 99) (.k (.int .i64 0))⟩,
  ⟨some 101, none, .pick (.t 96) (.t 100) (.k (.bool false))⟩,
  ⟨some 102, none, .mv (.t 101)⟩,
  ⟨some 103, some (102, true), .mv (.t 6)⟩,
  ⟨some 104, some (102, true), .mv (.t 12)⟩,
  ⟨some 105, some (102, true), .call (.k (.fn f_frames_Frames_Take [])) [(.t 103), (.t 104)]⟩,
  ⟨some 106, some (102, true), .bin .eql (.t 105) (.k (.int .i64 3))⟩,
  ⟨some 107, none, .pick (.t 102) (.t 106) (.k (.bool false))⟩,
  ⟨some 4, none, .mv (.t 107)⟩]
def b_steadfastlaw04_FramesLeft_0 : C :=
    .seq (.seq ((.reg (some [1, 6, 8, 9, 31]) o_steadfastlaw04_FramesLeft_7)) (
    .cond (.t 31) (
      .skip) (
      .exit 0))) (
    .seq (.block 1 (
      .seq ((.reg (some [1, 6, 8, 9, 10, 11]) o_steadfastlaw04_FramesLeft_8)) (
      .seq ((.reg (some [1, 6, 8, 9, 52]) o_steadfastlaw04_FramesLeft_9)) (
      .cond (.t 52) (
        .seq ((.reg (some [4]) o_steadfastlaw04_FramesLeft_10)) (
        .ret)) (
        .skip))))) (
    (.reg (some [1, 6, 8, 9]) o_steadfastlaw04_FramesLeft_11)))
/-- steadfast/steadfastlaw04.FramesLeft -/
@[go_sem] def fc_steadfastlaw04_FramesLeft : Fc := ⟨2,
  .seq ((.reg (some [0, 1]) o_steadfastlaw04_FramesLeft_0)) (
  .seq ((.reg (some [0, 1, 5]) o_steadfastlaw04_FramesLeft_1)) (
  .seq ((.reg (some [0, 1, 5, 6]) o_steadfastlaw04_FramesLeft_2)) (
  .seq (.seq ((.reg (some [0, 1, 6, 26]) o_steadfastlaw04_FramesLeft_3)) (
  .cond (.t 26) (
    .seq ((.reg (some [4]) o_steadfastlaw04_FramesLeft_4)) (
    .ret)) (
    .skip))) (
  .seq ((.reg (some [1, 6, 8]) o_steadfastlaw04_FramesLeft_5)) (
  .seq (.seq ((.reg (some [1, 6, 8, 9]) o_steadfastlaw04_FramesLeft_6)) (
  .block 0 (
    .loop [1, 6, 8, 9] b_steadfastlaw04_FramesLeft_0))) (
  .seq (.seq ((.reg (some [1, 6, 8, 54]) o_steadfastlaw04_FramesLeft_12)) (
  .cond (.t 54) (
    .seq ((.reg (some [4]) o_steadfastlaw04_FramesLeft_13)) (
    .ret)) (
    .skip))) (
  .seq ((.reg (some [6, 8, 12]) o_steadfastlaw04_FramesLeft_14)) (
  .seq ((.reg (some [6, 8, 12, 13]) o_steadfastlaw04_FramesLeft_15)) (
  .seq ((.reg (some [6, 8, 12, 13, 14]) o_steadfastlaw04_FramesLeft_16)) (
  .seq ((.reg (some [6, 8, 12, 13, 14, 15]) o_steadfastlaw04_FramesLeft_17)) (
  .seq ((.reg (some [6, 8, 12, 13, 14, 15]) o_steadfastlaw04_FramesLeft_18)) (
  .seq ((.reg (some [4]) o_steadfastlaw04_FramesLeft_19)) (
  .ret))))))))))))),
  [.t 4]⟩
def o_steadfastlaw04_FramesFirst_0 : List Ab.Op := [
  ⟨some 2, none, .mv (.k (.bool false))⟩]
def o_steadfastlaw04_FramesFirst_1 : List Ab.Op := [
  ⟨some 10, none, .call (.k (.fn f_steadfastlaw04_shown [])) []⟩,
  ⟨some 3, none, .mv (.t 10)⟩]
def o_steadfastlaw04_FramesFirst_2 : List Ab.Op := [
  ⟨some 12, none, .call (.k (.fn f_frames_New [])) [(.k (.int .i64 0)), (.k (.int .i64 32))]⟩,
  ⟨some 11, none, .mv (.t 12)⟩,
  ⟨some 13, none, .ext (.t 11) 0⟩,
  ⟨some 14, none, .ext (.t 11) 1⟩,
  ⟨some 4, none, .mv (.t 13)⟩,
  ⟨some 5, none, .mv (.t 14)⟩]
def o_steadfastlaw04_FramesFirst_3 : List Ab.Op := [
  ⟨some 15, none, .mv (.t 3)⟩,
  ⟨some 16, none, .un .not (.t 15)⟩,
  ⟨some 17, none, .mv (.t 16)⟩,
  ⟨some 18, some (17, false), .mv (.t 4)⟩,
  ⟨some 19, some (17, false), .eq false 1 (.t 18) (.k .nilp)⟩,
  ⟨some 20, none, .pick (.t 17) (.k (.bool true)) (.t 19)⟩]
def o_steadfastlaw04_FramesFirst_4 : List Ab.Op := [
  ⟨some 2, none, .mv (.k (.bool false))⟩]
def o_steadfastlaw04_FramesFirst_5 : List Ab.Op := [
  ⟨some 6, none, .mv (.k (.int .i64 (-1)))⟩]
def o_steadfastlaw04_FramesFirst_6 : List Ab.Op := [
  ⟨some 7, none, .mv (.k (.int .i64 0))⟩]
def o_steadfastlaw04_FramesFirst_7 : List Ab.Op := [
  ⟨some 21, none, .mv (.t 7)⟩,
  ⟨some 22, none, .bin .lss (.t 21) (.k (.int .i64 32))⟩]
def o_steadfastlaw04_FramesFirst_8 : List Ab.Op := [
  ⟨some 25, none, .mv (.t 0)⟩,
  ⟨some 26, none, .mv (.t 7)⟩,
  ⟨some 27, none, .bin .shr (.t 25) (.t 26)⟩,
  ⟨some 28, none, .bin .and (.t 27) (.k (.int .u64 1))⟩,
  ⟨some 29, none, .bin .eql (.t 28) (.k (.int .u64 1))⟩]
def o_steadfastlaw04_FramesFirst_9 : List Ab.Op := [
  ⟨some 30, none, .mv (.t 4)⟩,
  ⟨some 31, none, .mv (.t 7)⟩,
  ⟨some 32, none, .call (.k (.fn f_frames_Frames_Take [])) [(.t 30), (.t 31)]⟩,
  ⟨some 33, none, .bin .neq (.t 32) (.k (.int .i64 0))⟩,
  ⟨some 34, none, .mv (.t 33)⟩,
  ⟨some 35, some (34, false), .mv (.t 4)⟩,
  ⟨some 36, some (34, false), .mv (.t 7)⟩,
  ⟨some 37, some (34, false), .call (.k (.fn f_frames_Frames_Take [])) [(.t 35), (.t 36)]⟩,
  ⟨some 38, some (34, false), .bin .neq (.t 37) (.k (.int .i64 3))⟩,
  ⟨some 39, none, .pick (.t 34) (.k (.bool true)) (.t 38)⟩,
  ⟨some 40, none, .mv (.t 39)⟩,
  ⟨some 41, some (40, false), .mv (.t 4)⟩,
  ⟨some 42, some (40, false), .mv (.t 7)⟩,
  ⟨some 43, some (40, false), .call (.k (.fn f_frames_Frames_State [])) [(.t 41), (.t 42)]⟩,
  ⟨some 44, some (40, false), .bin .neq (.t 43) (.k (.int .i64 1))⟩,
  ⟨some 45, none, .pick (.t 40) (.k (.bool true)) (.t 44)⟩]
def o_steadfastlaw04_FramesFirst_10 : List Ab.Op := [
  ⟨some 2, none, .mv (.k (.bool false))⟩]
def o_steadfastlaw04_FramesFirst_11 : List Ab.Op := [
  ⟨some 46, none, .mv (.t 6)⟩,
  ⟨some 47, none, .bin .lss (.t 46) (.k (.int .i64 0))⟩]
def o_steadfastlaw04_FramesFirst_12 : List Ab.Op := [
  ⟨some 48, none, .mv (.t 7)⟩,
  ⟨some 6, none, .mv (.t 48)⟩]
def o_steadfastlaw04_FramesFirst_13 : List Ab.Op := [
  ⟨some 23, none, .mv (.t 7)⟩,
  ⟨some 24, none, .bin .add (.t 23) (.k (.int .i64 1))⟩,
  ⟨some 7, none, .mv (.t 24)⟩]
def o_steadfastlaw04_FramesFirst_14 : List Ab.Op := [
  ⟨some 50, none, .mv (.t 4)⟩,
  ⟨some 51, none, .call (.k (.fn f_frames_Frames_Alloc [])) [(.t 50)]⟩,
  ⟨some 49, none, .mv (.t 51)⟩,
  ⟨some 52, none, .ext (.t 49) 0⟩,
  ⟨some 53, none, .ext (.t 49) 1⟩,
  ⟨some 8, none, .mv (.t 52)⟩,
  ⟨some 9, none, .mv (.t 53)⟩]
def o_steadfastlaw04_FramesFirst_15 : List Ab.Op := [
  ⟨some 54, none, .mv (.t 6)⟩,
  ⟨some 55, none, .bin .lss (.t 54) (.k (.int .i64 0))⟩]
def o_steadfastlaw04_FramesFirst_16 : List Ab.Op := [
  ⟨some 56, none, .mv (.t 9)⟩,
  ⟨some 57, none, .bin .eql (.t 56) (.k (.int .i64 10))⟩,
  ⟨some 58, none, .mv (.t 57)⟩,
  ⟨some 59, some (58, true), .mv (.t 4)⟩,
  ⟨some 60, some (58, true), .call (.k (.fn f_frames_Frames_Left [])) [(.t 59)]⟩,
  ⟨some 61, some (58, true), .bin .eql (.t 60) (.k (.int .i64 0))⟩,
  ⟨some 62, none, .pick (.t 58) (.t 61) (.k (.bool false))⟩,
  ⟨some 2, none, .mv (.t 62)⟩]
def o_steadfastlaw04_FramesFirst_17 : List Ab.Op := [
  ⟨some 63, none, .mv (.t 9)⟩,
  ⟨some 64, none, .bin .eql (.t 63) (.k (.int .i64 0))⟩,
  ⟨some 65, none, .mv (.t 64)⟩,
  ⟨some 66, some (65, true), .mv (.t 8)⟩,
  ⟨some 67, some (65, true), .mv (.t 6)⟩,
  ⟨some 68, some (65, true), .bin .eql (.t 66) (.t 67)⟩,
  ⟨some 69, none, .pick (.t 65) (.t 68) (.k (.bool false))⟩,
  ⟨some 70, none, .mv (.t 69)⟩,
  ⟨some 71, some (70, true), .mv (.t 4)⟩,
  ⟨some 72, some (70, true), .mv (.t 8)⟩,
  ⟨some 73, some (70, true), .call (.k (.fn f_frames_Frames_State [])) [(.t 71), (.t 72)]⟩,
  ⟨some 74, some (70, true), .bin .eql (.t 73) (.k (.int .i64 1))⟩,
  ⟨some 75, none, .pick (.t 70) (.t 74) (.k (.bool false))⟩,
  ⟨some 2, none, .mv (.t 75)⟩]
def b_steadfastlaw04_FramesFirst_0 : C :=
    .seq (.seq ((.reg (some [0, 4, 6, 7, 22]) o_steadfastlaw04_FramesFirst_7)) (
    .cond (.t 22) (
      .skip) (
      .exit 0))) (
    .seq (.block 1 (
      .seq (.seq ((.reg (some [0, 4, 6, 7, 29]) o_steadfastlaw04_FramesFirst_8)) (
      .cond (.t 29) (
        .seq (.seq ((.reg (some [0, 4, 6, 7, 45]) o_steadfastlaw04_FramesFirst_9)) (
        .cond (.t 45) (
          .seq ((.reg (some [2]) o_steadfastlaw04_FramesFirst_10)) (
          .ret)) (
          .skip))) (
        .exit 1)) (
        .skip))) (
      .seq ((.reg (some [0, 4, 6, 7, 47]) o_steadfastlaw04_FramesFirst_11)) (
      .cond (.t 47) (
        (.reg (some [0, 4, 6, 7]) o_steadfastlaw04_FramesFirst_12)) (
        .skip))))) (
    (.reg (some [0, 4, 6, 7]) o_steadfastlaw04_FramesFirst_13)))
/-- steadfast/steadfastlaw04.FramesFirst -/
@[go_sem] def fc_steadfastlaw04_FramesFirst : Fc := ⟨1,
  .seq ((.reg (some [0]) o_steadfastlaw04_FramesFirst_0)) (
  .seq ((.reg (some [0, 3]) o_steadfastlaw04_FramesFirst_1)) (
  .seq ((.reg (some [0, 3, 4]) o_steadfastlaw04_FramesFirst_2)) (
  .seq (.seq ((.reg (some [0, 4, 20]) o_steadfastlaw04_FramesFirst_3)) (
  .cond (.t 20) (
    .seq ((.reg (some [2]) o_steadfastlaw04_FramesFirst_4)) (
    .ret)) (
    .skip))) (
  .seq ((.reg (some [0, 4, 6]) o_steadfastlaw04_FramesFirst_5)) (
  .seq (.seq ((.reg (some [0, 4, 6, 7]) o_steadfastlaw04_FramesFirst_6)) (
  .block 0 (
    .loop [0, 4, 6, 7] b_steadfastlaw04_FramesFirst_0))) (
  .seq ((.reg (some [4, 6, 8, 9]) o_steadfastlaw04_FramesFirst_14)) (
  .seq (.seq ((.reg (some [4, 6, 8, 9, 55]) o_steadfastlaw04_FramesFirst_15)) (
  .cond (.t 55) (
    .seq ((.reg (some [2]) o_steadfastlaw04_FramesFirst_16)) (
    .ret)) (
    .skip))) (
  .seq ((.reg (some [2]) o_steadfastlaw04_FramesFirst_17)) (
  .ret))))))))),
  [.t 2]⟩
def o_steadfastlaw04_FramesPlay_0 : List Ab.Op := [
  ⟨some 6, none, .mv (.k (.bool false))⟩]
def o_steadfastlaw04_FramesPlay_1 : List Ab.Op := [
  ⟨some 20, none, .call (.k (.fn f_steadfastlaw04_shown [])) []⟩,
  ⟨some 7, none, .mv (.t 20)⟩]
def o_steadfastlaw04_FramesPlay_2 : List Ab.Op := [
  ⟨some 22, none, .mv (.t 0)⟩,
  ⟨some 23, none, .mv (.t 1)⟩,
  ⟨some 24, none, .call (.k (.fn f_frames_New [])) [(.t 22), (.t 23)]⟩,
  ⟨some 21, none, .mv (.t 24)⟩,
  ⟨some 25, none, .ext (.t 21) 0⟩,
  ⟨some 26, none, .ext (.t 21) 1⟩,
  ⟨some 8, none, .mv (.t 25)⟩,
  ⟨some 9, none, .mv (.t 26)⟩]
def o_steadfastlaw04_FramesPlay_3 : List Ab.Op := [
  ⟨some 28, none, .mv (.t 0)⟩,
  ⟨some 29, none, .mv (.t 1)⟩,
  ⟨some 30, none, .call (.k (.fn f_steadfastref04_New [])) [(.t 28), (.t 29)]⟩,
  ⟨some 27, none, .mv (.t 30)⟩,
  ⟨some 31, none, .ext (.t 27) 0⟩,
  ⟨some 32, none, .ext (.t 27) 1⟩,
  ⟨some 10, none, .mv (.t 31)⟩,
  ⟨some 11, none, .mv (.t 32)⟩]
def o_steadfastlaw04_FramesPlay_4 : List Ab.Op := [
  ⟨some 33, none, .mv (.t 7)⟩,
  ⟨some 34, none, .un .not (.t 33)⟩,
  ⟨some 35, none, .mv (.t 34)⟩,
  ⟨some 36, some (35, false), .mv (.t 9)⟩,
  ⟨some 37, some (35, false), .mv (.t 11)⟩,
  ⟨some 38, some (35, false), .bin .neq (.t 36) (.t 37)⟩,
  ⟨some 39, none, .pick (.t 35) (.k (.bool true)) (.t 38)⟩,
  ⟨some 40, none, .mv (.t 39)⟩,
  ⟨some 41, some (40, false), .mv (.t 8)⟩,
  ⟨some 42, some (40, false), .eq false 1 (.t 41) (.k .nilp)⟩,
  ⟨some 43, some (40, false), .mv (.t 9)⟩,
  ⟨some 44, some (40, false), .bin .neq (.t 43) (.k (.int .i64 0))⟩,
  ⟨some 45, some (40, false), .eq true 0 (.t 42) (.t 44)⟩,
  ⟨some 46, none, .pick (.t 40) (.k (.bool true)) (.t 45)⟩]
def o_steadfastlaw04_FramesPlay_5 : List Ab.Op := [
  ⟨some 6, none, .mv (.k (.bool false))⟩]
def o_steadfastlaw04_FramesPlay_6 : List Ab.Op := [
  ⟨some 47, none, .mv (.t 8)⟩,
  ⟨some 48, none, .eq false 1 (.t 47) (.k .nilp)⟩]
def o_steadfastlaw04_FramesPlay_7 : List Ab.Op := [
  ⟨some 6, none, .mv (.k (.bool true))⟩]
def o_steadfastlaw04_FramesPlay_8 : List Ab.Op := [
  ⟨some 12, none, .mv (.k (.int .i64 0))⟩]
def o_steadfastlaw04_FramesPlay_9 : List Ab.Op := [
  ⟨some 49, none, .mv (.t 12)⟩,
  ⟨some 50, none, .mv (.t 2)⟩,
  ⟨some 51, none, .len false (.t 50)⟩,
  ⟨some 52, none, .bin .lss (.t 49) (.t 51)⟩,
  ⟨some 53, none, .mv (.t 52)⟩,
  ⟨some 54, some (53, true), .mv (.t 12)⟩,
  ⟨some 55, some (53, true), .bin .lss (.t 54) (.k (.int .i64 150))⟩,
  ⟨some 56, none, .pick (.t 53) (.t 55) (.k (.bool false))⟩]
def o_steadfastlaw04_FramesPlay_10 : List Ab.Op := [
  ⟨some 59, none, .mv (.t 2)⟩,
  ⟨some 60, none, .mv (.t 12)⟩,
  ⟨some 61, none, .sad 34 (.t 59) (.t 60)⟩,
  ⟨some 62, none, .ld 34 (.t 61)⟩,
  ⟨some 13, none, .alloc false (.agg 34 [(.int .i64 0), (.int .i64 0)])⟩,
  ⟨none, none, .st 34 (.t 13) (.t 62)⟩]
def o_steadfastlaw04_FramesPlay_11 : List Ab.Op := [
  ⟨some 14, none, .mv (.k (.int .i64 0))⟩]
def o_steadfastlaw04_FramesPlay_12 : List Ab.Op := [
  ⟨some 15, none, .mv (.k (.int .i64 0))⟩]
def o_steadfastlaw04_FramesPlay_13 : List Ab.Op := [
  ⟨some 16, none, .mv (.k (.int .i64 0))⟩]
def o_steadfastlaw04_FramesPlay_14 : List Ab.Op := [
  ⟨some 17, none, .mv (.k (.int .i64 0))⟩]
def o_steadfastlaw04_FramesPlay_15 : List Ab.Op := [
  ⟨some 63, none, .fad 34 0 10 (.t 13)⟩,
  ⟨some 64, none, .ld 10 (.t 63)⟩,
  ⟨some 65, none, .call (.k (.fn f_steadfastlaw04_kind [])) [(.t 64), (.k (.int .i64 8))]⟩]
def o_steadfastlaw04_FramesPlay_16 : List Ab.Op := [
  ⟨some 67, none, .bin .eql (.t 65) (.k (.int .i64 0))⟩,
  ⟨some 66, none, .mv (.t 67)⟩]
def o_steadfastlaw04_FramesPlay_17 : List Ab.Op := [
  ⟨some 68, none, .bin .eql (.t 65) (.k (.int .i64 1))⟩,
  ⟨some 66, none, .mv (.t 68)⟩]
def o_steadfastlaw04_FramesPlay_18 : List Ab.Op := [
  ⟨some 69, none, .bin .eql (.t 65) (.k (.int .i64 2))⟩,
  ⟨some 66, none, .mv (.t 69)⟩]
def o_steadfastlaw04_FramesPlay_19 : List Ab.Op := [
  ⟨some 71, none, .mv (.t 8)⟩,
  ⟨some 72, none, .call (.k (.fn f_frames_Frames_Alloc [])) [(.t 71)]⟩,
  ⟨some 70, none, .mv (.t 72)⟩,
  ⟨some 73, none, .ext (.t 70) 0⟩,
  ⟨some 74, none, .ext (.t 70) 1⟩,
  ⟨some 14, none, .mv (.t 73)⟩,
  ⟨some 16, none, .mv (.t 74)⟩]
def o_steadfastlaw04_FramesPlay_20 : List Ab.Op := [
  ⟨some 76, none, .mv (.t 10)⟩,
  ⟨some 77, none, .call (.k (.fn f_steadfastref04_Frames_Alloc [])) [(.t 76)]⟩,
  ⟨some 75, none, .mv (.t 77)⟩,
  ⟨some 78, none, .ext (.t 75) 0⟩,
  ⟨some 79, none, .ext (.t 75) 1⟩,
  ⟨some 15, none, .mv (.t 78)⟩,
  ⟨some 17, none, .mv (.t 79)⟩]
def o_steadfastlaw04_FramesPlay_21 : List Ab.Op := [
  ⟨some 81, none, .bin .eql (.t 65) (.k (.int .i64 3))⟩,
  ⟨some 80, none, .mv (.t 81)⟩]
def o_steadfastlaw04_FramesPlay_22 : List Ab.Op := [
  ⟨some 82, none, .mv (.t 8)⟩,
  ⟨some 83, none, .fad 34 1 10 (.t 13)⟩,
  ⟨some 84, none, .ld 10 (.t 83)⟩,
  ⟨some 85, none, .call (.k (.fn f_frames_Frames_Take [])) [(.t 82), (.t 84)]⟩,
  ⟨some 16, none, .mv (.t 85)⟩]
def o_steadfastlaw04_FramesPlay_23 : List Ab.Op := [
  ⟨some 86, none, .mv (.t 10)⟩,
  ⟨some 87, none, .fad 34 1 10 (.t 13)⟩,
  ⟨some 88, none, .ld 10 (.t 87)⟩,
  ⟨some 89, none, .call (.k (.fn f_steadfastref04_Frames_Take [])) [(.t 86), (.t 88)]⟩,
  ⟨some 17, none, .mv (.t 89)⟩]
def o_steadfastlaw04_FramesPlay_24 : List Ab.Op := [
  ⟨some 91, none, .bin .eql (.t 65) (.k (.int .i64 4))⟩,
  ⟨some 90, none, .mv (.t 91)⟩]
def o_steadfastlaw04_FramesPlay_25 : List Ab.Op := [
  ⟨some 92, none, .mv (.t 8)⟩,
  ⟨some 93, none, .fad 34 1 10 (.t 13)⟩,
  ⟨some 94, none, .ld 10 (.t 93)⟩,
  ⟨some 95, none, .call (.k (.fn f_frames_Frames_Free [])) [(.t 92), (.t 94)]⟩,
  ⟨some 16, none, .mv (.t 95)⟩]
def o_steadfastlaw04_FramesPlay_26 : List Ab.Op := [
  ⟨some 96, none, .mv (.t 10)⟩,
  ⟨some 97, none, .fad 34 1 10 (.t 13)⟩,
  ⟨some 98, none, .ld 10 (.t 97)⟩,
  ⟨some 99, none, .call (.k (.fn f_steadfastref04_Frames_Free [])) [(.t 96), (.t 98)]⟩,
  ⟨some 17, none, .mv (.t 99)⟩]
def o_steadfastlaw04_FramesPlay_27 : List Ab.Op := [
  ⟨some 101, none, .bin .eql (.t 65) (.k (.int .i64 5))⟩,
  ⟨some 100, none, .mv (.t 101)⟩]
def o_steadfastlaw04_FramesPlay_28 : List Ab.Op := [
  ⟨some 102, none, .mv (.t 8)⟩,
  ⟨some 103, none, .fad 34 1 10 (.t 13)⟩,
  ⟨some 104, none, .ld 10 (.t 103)⟩,
  ⟨some 105, none, .call (.k (.fn f_frames_Frames_Later [])) [(.t 102), (.t 104)]⟩,
  ⟨some 16, none, .mv (.t 105)⟩]
def o_steadfastlaw04_FramesPlay_29 : List Ab.Op := [
  ⟨some 106, none, .mv (.t 10)⟩,
  ⟨some 107, none, .fad 34 1 10 (.t 13)⟩,
  ⟨some 108, none, .ld 10 (.t 107)⟩,
  ⟨some 109, none, .call (.k (.fn f_steadfastref04_Frames_Later [])) [(.t 106), (.t 108)]⟩,
  ⟨some 17, none, .mv (.t 109)⟩]
def o_steadfastlaw04_FramesPlay_30 : List Ab.Op := [
  ⟨some 111, none, .bin .eql (.t 65) (.k (.int .i64 6))⟩,
  ⟨some 110, none, .mv (.t 111)⟩]
def o_steadfastlaw04_FramesPlay_31 : List Ab.Op := [
  ⟨some 112, none, .mv (.t 8)⟩,
  ⟨some 113, none, .call (.k (.fn f_frames_Frames_Settle [])) [(.t 112)]⟩]
def o_steadfastlaw04_FramesPlay_32 : List Ab.Op := [
  ⟨some 114, none, .mv (.t 10)⟩,
  ⟨some 115, none, .call (.k (.fn f_steadfastref04_Frames_Settle [])) [(.t 114)]⟩]
def o_steadfastlaw04_FramesPlay_33 : List Ab.Op := [
  ⟨some 117, none, .bin .eql (.t 65) (.k (.int .i64 7))⟩,
  ⟨some 116, none, .mv (.t 117)⟩]
def o_steadfastlaw04_FramesPlay_34 : List Ab.Op := [
  ⟨some 118, none, .mv (.t 8)⟩,
  ⟨some 18, none, .mv (.t 118)⟩]
def o_steadfastlaw04_FramesPlay_35 : List Ab.Op := [
  ⟨some 119, none, .mv (.t 8)⟩,
  ⟨some 120, none, .call (.k (.fn f_frames_Frames_Clone [])) [(.t 119)]⟩,
  ⟨some 8, none, .mv (.t 120)⟩]
def o_steadfastlaw04_FramesPlay_36 : List Ab.Op := [
  ⟨some 121, none, .mv (.t 8)⟩,
  ⟨some 122, none, .eq false 1 (.t 121) (.k .nilp)⟩]
def o_steadfastlaw04_FramesPlay_37 : List Ab.Op := [
  ⟨some 6, none, .mv (.k (.bool false))⟩]
def o_steadfastlaw04_FramesPlay_38 : List Ab.Op := [
  ⟨some 123, none, .mv (.t 18)⟩,
  ⟨some 124, none, .call (.k (.fn f_frames_Frames_Alloc [])) [(.t 123)]⟩]
def o_steadfastlaw04_FramesPlay_39 : List Ab.Op := [
  ⟨some 125, none, .mv (.t 18)⟩,
  ⟨some 126, none, .call (.k (.fn f_frames_Frames_Alloc [])) [(.t 125)]⟩]
def o_steadfastlaw04_FramesPlay_40 : List Ab.Op := [
  ⟨some 127, none, .mv (.t 18)⟩,
  ⟨some 128, none, .call (.k (.fn f_frames_Frames_Settle [])) [(.t 127)]⟩]
def o_steadfastlaw04_FramesPlay_41 : List Ab.Op := [
  ⟨some 129, none, .mv (.t 14)⟩,
  ⟨some 130, none, .mv (.t 15)⟩,
  ⟨some 131, none, .bin .neq (.t 129) (.t 130)⟩,
  ⟨some 132, none, .mv (.t 131)⟩,
  ⟨some 133, some (132, false), .mv (.t 16)⟩,
  ⟨some 134, some (132, false), .mv (.t 17)⟩,
  ⟨some 135, some (132, false), .bin .neq (.t 133) (.t 134)⟩,
  ⟨some 136, none, .pick (.t 132) (.k (.bool true)) (.t 135)⟩,
  ⟨some 137, none, .mv (.t 136)⟩,
  ⟨some 138, some (137, false), .mv (.t 8)⟩,
  ⟨some 139, some (137, false), .pcall (.k (.fn f_frames_Frames_Left [])) [(.t 138)]⟩,
  ⟨some 140, some (137, false), .mv (.t 10)⟩,
  ⟨some 141, some (137, false), .pcall (.k (.fn f_steadfastref04_Frames_Left [])) [(.t 140)]⟩,
  ⟨some 142, some (137, false), .bin .neq (.t 139) (.t 141)⟩,
  ⟨some 143, none, .pick (.t 137) (.k (.bool true)) (.t 142)⟩,
  ⟨some 144, none, .mv (.t 143)⟩,
  ⟨some 145, some (144, false), .mv (.t 8)⟩,
  ⟨some 146, some (144, false), .fad 34 1 10 (.t 13)⟩,
  ⟨some 147, some (144, false), .ld 10 (.t 146)⟩,
  ⟨some 148, some (144, false), .pcall (.k (.fn f_frames_Frames_State [])) [(.t 145), (.t 147)]⟩,
  ⟨some 149, some (144, false), .mv (.t 10)⟩,
  ⟨some 150, some (144, false), .fad 34 1 10 (.t 13)⟩,
  ⟨some 151, some (144, false), .ld 10 (.t 150)⟩,
  ⟨some 152, some (144, false), .pcall (.k (.fn f_steadfastref04_Frames_State [])) [(.t 149), (.t 151)]⟩,
  ⟨some 153, some (144, false), .bin .neq (.t 148) (.t 152)⟩,
  ⟨some 154, none, .pick (.t 144) (.k (.bool true)) (.t 153)⟩]
def o_steadfastlaw04_FramesPlay_42 : List Ab.Op := [
  ⟨some 6, none, .mv (.k (.bool false))⟩]
def o_steadfastlaw04_FramesPlay_43 : List Ab.Op := [
  ⟨some 57, none, .mv (.t 12)⟩,
  ⟨some 58, none, .bin .add (.t 57) (.k (.int .i64 1))⟩,
  ⟨some 12, none, .mv (.t 58)⟩]
def o_steadfastlaw04_FramesPlay_44 : List Ab.Op := [
  ⟨some 19, none, .mv (.k (.int .i64 0))⟩]
def o_steadfastlaw04_FramesPlay_45 : List Ab.Op := [
  ⟨some 155, none, .mv (.t 19)⟩,
  ⟨some 156, none, .mv (.t 10)⟩,
  ⟨some 157, none, .nilc (.t 156)⟩,
  ⟨some 158, none, .fad 21 1 1 (.t 157)⟩,
  ⟨some 159, none, .ld 1 (.t 158)⟩,
  ⟨some 160, none, .len false (.t 159)⟩,
  ⟨some 161, none, .bin .lss (.t 155) (.t 160)⟩]
def o_steadfastlaw04_FramesPlay_46 : List Ab.Op := [
  ⟨some 164, none, .mv (.t 8)⟩,
  ⟨some 165, none, .mv (.t 0)⟩,
  ⟨some 166, none, .mv (.t 19)⟩,
  ⟨some 167, none, .bin .add (.t 165) (.t 166)⟩,
  ⟨some 168, none, .pcall (.k (.fn f_frames_Frames_State [])) [(.t 164), (.t 167)]⟩,
  ⟨some 169, none, .mv (.t 10)⟩,
  ⟨some 170, none, .nilc (.t 169)⟩,
  ⟨some 171, none, .fad 21 1 1 (.t 170)⟩,
  ⟨some 172, none, .ld 1 (.t 171)⟩,
  ⟨some 173, none, .mv (.t 19)⟩,
  ⟨some 174, none, .sad 10 (.t 172) (.t 173)⟩,
  ⟨some 175, none, .ld 10 (.t 174)⟩,
  ⟨some 176, none, .bin .neq (.t 168) (.t 175)⟩]
def o_steadfastlaw04_FramesPlay_47 : List Ab.Op := [
  ⟨some 6, none, .mv (.k (.bool false))⟩]
def o_steadfastlaw04_FramesPlay_48 : List Ab.Op := [
  ⟨some 162, none, .mv (.t 19)⟩,
  ⟨some 163, none, .bin .add (.t 162) (.k (.int .i64 1))⟩,
  ⟨some 19, none, .mv (.t 163)⟩]
def o_steadfastlaw04_FramesPlay_49 : List Ab.Op := [
  ⟨some 177, none, .mv (.t 8)⟩,
  ⟨some 178, none, .mv (.t 0)⟩,
  ⟨some 179, none, .bin .sub (.t 178) (.k (.int .i64 1))⟩,
  ⟨some 180, none, .call (.k (.fn f_frames_Frames_State [])) [(.t 177), (.t 179)]⟩,
  ⟨some 181, none, .bin .eql (.t 180) (.k (.int .i64 (-1)))⟩,
  ⟨some 182, none, .mv (.t 181)⟩,
  ⟨some 183, some (182, true), .mv (.t 8)⟩,
  ⟨some 184, some (182, true), .mv (.t 1)⟩,
  ⟨some 185, some (182, true), .call (.k (.fn f_frames_Frames_State [])) [(.t 183), (.t 184)]⟩,
  ⟨some 186, some (182, true), .bin .eql (.t 185) (.k (.int .i64 (-1)))⟩,
  ⟨some 187, none, .pick (.t 182) (.t 186) (.k (.bool false))⟩,
  ⟨some 6, none, .mv (.t 187)⟩]
def b_steadfastlaw04_FramesPlay_0 : C :=
    .seq (.seq ((.reg (some [0, 1, 2, 8, 10, 12, 56]) o_steadfastlaw04_FramesPlay_9)) (
    .cond (.t 56) (
      .skip) (
      .exit 0))) (
    .seq (.block 1 (
      .seq ((.reg (some [0, 1, 2, 8, 10, 12, 13]) o_steadfastlaw04_FramesPlay_10)) (
      .seq ((.reg (some [0, 1, 2, 8, 10, 12, 13, 14]) o_steadfastlaw04_FramesPlay_11)) (
      .seq ((.reg (some [0, 1, 2, 8, 10, 12, 13, 14, 15]) o_steadfastlaw04_FramesPlay_12)) (
      .seq ((.reg (some [0, 1, 2, 8, 10, 12, 13, 14, 15, 16]) o_steadfastlaw04_FramesPlay_13)) (
      .seq ((.reg (some [0, 1, 2, 8, 10, 12, 13, 14, 15, 16, 17]) o_steadfastlaw04_FramesPlay_14)) (
      .seq (.seq ((.reg (some [0, 1, 2, 8, 10, 12, 13, 14, 15, 16, 17, 65]) o_steadfastlaw04_FramesPlay_15)) (
      .block 2 (
        .seq (.seq ((.reg (some [0, 1, 2, 8, 10, 12, 13, 14, 15, 16, 17, 65, 66]) o_steadfastlaw04_FramesPlay_16)) (
        .cond (.t 66) (
          .skip) (
          .seq ((.reg (some [0, 1, 2, 8, 10, 12, 13, 14, 15, 16, 17, 65, 66]) o_steadfastlaw04_FramesPlay_17)) (
          .cond (.t 66) (
            .skip) (
            (.reg (some [0, 1, 2, 8, 10, 12, 13, 14, 15, 16, 17, 65, 66]) o_steadfastlaw04_FramesPlay_18)))))) (
        .cond (.t 66) (
          .seq ((.reg (some [0, 1, 2, 8, 10, 12, 13, 14, 16]) o_steadfastlaw04_FramesPlay_19)) (
          (.reg (some [0, 1, 2, 8, 10, 12, 13, 14, 15, 16, 17]) o_steadfastlaw04_FramesPlay_20))) (
          .seq ((.reg (some [0, 1, 2, 8, 10, 12, 13, 14, 15, 16, 17, 65, 80]) o_steadfastlaw04_FramesPlay_21)) (
          .cond (.t 80) (
            .seq ((.reg (some [0, 1, 2, 8, 10, 12, 13, 14, 15, 16]) o_steadfastlaw04_FramesPlay_22)) (
            (.reg (some [0, 1, 2, 8, 10, 12, 13, 14, 15, 16, 17]) o_steadfastlaw04_FramesPlay_23))) (
            .seq ((.reg (some [0, 1, 2, 8, 10, 12, 13, 14, 15, 16, 17, 65, 90]) o_steadfastlaw04_FramesPlay_24)) (
            .cond (.t 90) (
              .seq ((.reg (some [0, 1, 2, 8, 10, 12, 13, 14, 15, 16]) o_steadfastlaw04_FramesPlay_25)) (
              (.reg (some [0, 1, 2, 8, 10, 12, 13, 14, 15, 16, 17]) o_steadfastlaw04_FramesPlay_26))) (
              .seq ((.reg (some [0, 1, 2, 8, 10, 12, 13, 14, 15, 16, 17, 65, 100]) o_steadfastlaw04_FramesPlay_27)) (
              .cond (.t 100) (
                .seq ((.reg (some [0, 1, 2, 8, 10, 12, 13, 14, 15, 16]) o_steadfastlaw04_FramesPlay_28)) (
                (.reg (some [0, 1, 2, 8, 10, 12, 13, 14, 15, 16, 17]) o_steadfastlaw04_FramesPlay_29))) (
                .seq ((.reg (some [0, 1, 2, 8, 10, 12, 13, 14, 15, 16, 17, 65, 110]) o_steadfastlaw04_FramesPlay_30)) (
                .cond (.t 110) (
                  .seq ((.reg (some [0, 1, 2, 8, 10, 12, 13, 14, 15, 16, 17]) o_steadfastlaw04_FramesPlay_31)) (
                  (.reg (some [0, 1, 2, 8, 10, 12, 13, 14, 15, 16, 17]) o_steadfastlaw04_FramesPlay_32))) (
                  .seq ((.reg (some [0, 1, 2, 8, 10, 12, 13, 14, 15, 16, 17, 116]) o_steadfastlaw04_FramesPlay_33)) (
                  .cond (.t 116) (
                    .seq ((.reg (some [0, 1, 2, 8, 10, 12, 13, 14, 15, 16, 17, 18]) o_steadfastlaw04_FramesPlay_34)) (
                    .seq ((.reg (some [0, 1, 2, 8, 10, 12, 13, 14, 15, 16, 17, 18]) o_steadfastlaw04_FramesPlay_35)) (
                    .seq (.seq ((.reg (some [0, 1, 2, 8, 10, 12, 13, 14, 15, 16, 17, 18, 122]) o_steadfastlaw04_FramesPlay_36)) (
                    .cond (.t 122) (
                      .seq ((.reg (some [6]) o_steadfastlaw04_FramesPlay_37)) (
                      .ret)) (
                      .skip))) (
                    .seq ((.reg (some [0, 1, 2, 8, 10, 12, 13, 14, 15, 16, 17, 18]) o_steadfastlaw04_FramesPlay_38)) (
                    .seq ((.reg (some [0, 1, 2, 8, 10, 12, 13, 14, 15, 16, 17, 18]) o_steadfastlaw04_FramesPlay_39)) (
                    (.reg (some [0, 1, 2, 8, 10, 12, 13, 14, 15, 16, 17]) o_steadfastlaw04_FramesPlay_40))))))) (
                    .skip))))))))))))))) (
      .seq ((.regd (some [0, 1, 2, 8, 10, 12, 154]) o_steadfastlaw04_FramesPlay_41)) (
      .cond (.t 154) (
        .seq ((.reg (some [6]) o_steadfastlaw04_FramesPlay_42)) (
        .ret)) (
        .skip)))))))))) (
    (.reg (some [0, 1, 2, 8, 10, 12]) o_steadfastlaw04_FramesPlay_43)))
def b_steadfastlaw04_FramesPlay_1 : C :=
    .seq (.seq ((.reg (some [0, 1, 8, 10, 19, 161]) o_steadfastlaw04_FramesPlay_45)) (
    .cond (.t 161) (
      .skip) (
      .exit 3))) (
    .seq (.block 4 (
      .seq ((.regd (some [0, 1, 8, 10, 19, 176]) o_steadfastlaw04_FramesPlay_46)) (
      .cond (.t 176) (
        .seq ((.reg (some [6]) o_steadfastlaw04_FramesPlay_47)) (
        .ret)) (
        .skip)))) (
    (.reg (some [0, 1, 8, 10, 19]) o_steadfastlaw04_FramesPlay_48)))
/-- steadfast/steadfastlaw04.FramesPlay -/
@[go_sem] def fc_steadfastlaw04_FramesPlay : Fc := ⟨3,
  .seq ((.reg (some [0, 1, 2]) o_steadfastlaw04_FramesPlay_0)) (
  .seq ((.reg (some [0, 1, 2, 7]) o_steadfastlaw04_FramesPlay_1)) (
  .seq ((.reg (some [0, 1, 2, 7, 8, 9]) o_steadfastlaw04_FramesPlay_2)) (
  .seq ((.reg (some [0, 1, 2, 7, 8, 9, 10, 11]) o_steadfastlaw04_FramesPlay_3)) (
  .seq (.seq ((.reg (some [0, 1, 2, 8, 10, 46]) o_steadfastlaw04_FramesPlay_4)) (
  .cond (.t 46) (
    .seq ((.reg (some [6]) o_steadfastlaw04_FramesPlay_5)) (
    .ret)) (
    .skip))) (
  .seq (.seq ((.reg (some [0, 1, 2, 8, 10, 48]) o_steadfastlaw04_FramesPlay_6)) (
  .cond (.t 48) (
    .seq ((.reg (some [6]) o_steadfastlaw04_FramesPlay_7)) (
    .ret)) (
    .skip))) (
  .seq (.seq ((.reg (some [0, 1, 2, 8, 10, 12]) o_steadfastlaw04_FramesPlay_8)) (
  .block 0 (
    .loop [0, 1, 2, 8, 10, 12] b_steadfastlaw04_FramesPlay_0))) (
  .seq (.seq ((.reg (some [0, 1, 8, 10, 19]) o_steadfastlaw04_FramesPlay_44)) (
  .block 3 (
    .loop [0, 1, 8, 10, 19] b_steadfastlaw04_FramesPlay_1))) (
  .seq ((.reg (some [6]) o_steadfastlaw04_FramesPlay_49)) (
  .ret))))))))),
  [.t 6]⟩
def o_steadfastlaw04_shown_0 : List Ab.Op := [
  ⟨some 0, none, .mv (.k (.bool false))⟩]
def o_steadfastlaw04_shown_1 : List Ab.Op := [
  ⟨some 15, none, .call (.k (.fn f_frames_New [])) [(.k (.int .i64 2)), (.k (.int .i64 5))]⟩,
  ⟨some 14, none, .mv (.t 15)⟩,
  ⟨some 16, none, .ext (.t 14) 0⟩,
  ⟨some 17, none, .ext (.t 14) 1⟩,
  ⟨some 1, none, .mv (.t 16)⟩,
  ⟨some 2, none, .mv (.t 17)⟩]
def o_steadfastlaw04_shown_2 : List Ab.Op := [
  ⟨some 18, none, .mv (.t 1)⟩,
  ⟨some 19, none, .eq false 1 (.t 18) (.k .nilp)⟩,
  ⟨some 20, none, .mv (.t 19)⟩,
  ⟨some 21, some (20, false), .mv (.t 2)⟩,
  ⟨some 22, some (20, false), .bin .neq (.t 21) (.k (.int .i64 0))⟩,
  ⟨some 23, none, .pick (.t 20) (.k (.bool true)) (.t 22)⟩]
def o_steadfastlaw04_shown_3 : List Ab.Op := [
  ⟨some 0, none, .mv (.k (.bool false))⟩]
def o_steadfastlaw04_shown_4 : List Ab.Op := [
  ⟨some 25, none, .mv (.t 1)⟩,
  ⟨some 26, none, .call (.k (.fn f_frames_Frames_Alloc [])) [(.t 25)]⟩,
  ⟨some 24, none, .mv (.t 26)⟩,
  ⟨some 27, none, .ext (.t 24) 0⟩,
  ⟨some 28, none, .ext (.t 24) 1⟩,
  ⟨some 3, none, .mv (.t 27)⟩,
  ⟨some 4, none, .mv (.t 28)⟩]
def o_steadfastlaw04_shown_5 : List Ab.Op := [
  ⟨some 30, none, .mv (.t 1)⟩,
  ⟨some 31, none, .call (.k (.fn f_frames_Frames_Alloc [])) [(.t 30)]⟩,
  ⟨some 29, none, .mv (.t 31)⟩,
  ⟨some 32, none, .ext (.t 29) 0⟩,
  ⟨some 33, none, .ext (.t 29) 1⟩,
  ⟨some 5, none, .mv (.t 32)⟩,
  ⟨some 6, none, .mv (.t 33)⟩]
def o_steadfastlaw04_shown_6 : List Ab.Op := [
  ⟨some 34, none, .mv (.t 1)⟩,
  ⟨some 35, none, .call (.k (.fn f_frames_Frames_Later [])) [(.t 34), (.k (.int .i64 2))]⟩,
  ⟨some 7, none, .mv (.t 35)⟩]
def o_steadfastlaw04_shown_7 : List Ab.Op := [
  ⟨some 37, none, .mv (.t 1)⟩,
  ⟨some 38, none, .call (.k (.fn f_frames_Frames_Alloc [])) [(.t 37)]⟩,
  ⟨some 36, none, .mv (.t 38)⟩,
  ⟨some 39, none, .ext (.t 36) 0⟩,
  ⟨some 40, none, .ext (.t 36) 1⟩,
  ⟨some 8, none, .mv (.t 39)⟩,
  ⟨some 9, none, .mv (.t 40)⟩]
def o_steadfastlaw04_shown_8 : List Ab.Op := [
  ⟨some 42, none, .mv (.t 1)⟩,
  ⟨some 43, none, .call (.k (.fn f_frames_Frames_Alloc [])) [(.t 42)]⟩,
  ⟨some 41, none, .mv (.t 43)⟩,
  ⟨some 44, none, .ext (.t 41) 0⟩,
  ⟨some 45, none, .ext (.t 41) 1⟩,
  ⟨some 10, none, .mv (.t 44)⟩,
  ⟨some 11, none, .mv (.t 45)⟩]
def o_steadfastlaw04_shown_9 : List Ab.Op := [
  ⟨some 46, none, .mv (.t 1)⟩,
  ⟨some 47, none, .call (.k (.fn f_frames_Frames_Settle [])) [(.t 46)]⟩]
def o_steadfastlaw04_shown_10 : List Ab.Op := [
  ⟨some 49, none, .mv (.t 1)⟩,
  ⟨some 50, none, .call (.k (.fn f_frames_Frames_Alloc [])) [(.t 49)]⟩,
  ⟨some 48, none, .mv (.t 50)⟩,
  ⟨some 51, none, .ext (.t 48) 0⟩,
  ⟨some 52, none, .ext (.t 48) 1⟩,
  ⟨some 12, none, .mv (.t 51)⟩,
  ⟨some 13, none, .mv (.t 52)⟩]
def o_steadfastlaw04_shown_11 : List Ab.Op := [
  ⟨some 53, none, .mv (.t 3)⟩,
  ⟨some 54, none, .bin .eql (.t 53) (.k (.int .i64 2))⟩,
  ⟨some 55, none, .mv (.t 54)⟩,
  ⟨some 56, some (55, true), .mv (.t 5)⟩,
  ⟨some 57, some (55, true), .bin .eql (.t 56) (.k (.int .i64 3))⟩,
  ⟨some 58, none, .pick (.t 55) (.t 57) (.k (.bool false))⟩,
  ⟨some 59, none, .mv (.t 58)⟩,
  ⟨some 60, some (59, true), .mv (.t 7)⟩,
  ⟨some 61, some (59, true), .bin .eql (.t 60) (.k (.int .i64 0))⟩,
  ⟨some 62, none, .pick (.t 59) (.t 61) (.k (.bool false))⟩,
  ⟨some 63, none, .mv (.t 62)⟩,
  ⟨some 64, some (63, true), .mv (.t 8)⟩,
  ⟨some 65, some (63, true), .bin .eql (.t 64) (.k (.int .i64 4))⟩,
  ⟨some 66, none, .pick (.t 63) (.t 65) (.k (.bool false))⟩,
  ⟨some 67, none, .mv (.t 66)⟩,
  ⟨some 68, some (67, true), .mv (.t 11)⟩,
  ⟨some 69, some (67, true), .bin .eql (.t 68) (.k (.int .i64 10))⟩,
  ⟨some 70, none, .pick (.t 67) (.t 69) (.k (.bool false))⟩,
  ⟨some 71, none, .mv (.t 70)⟩,
  ⟨some 72, some (71, true), .mv (.t 12)⟩,
  ⟨some 73, some (71, true), .bin .eql (.t 72) (.k (.int .i64 2))⟩,
  ⟨some 74, none, .pick (.t 71) (.t 73) (.k (.bool false))⟩,
  ⟨some 75, none, .mv (.t 74)⟩,
  ⟨some 76, some (75, true), .mv (.t 1)⟩,
  ⟨some 77, some (75, true), .call (.k (.fn f_frames_Frames_Free [])) [(.t 76), (.k (.int .i64 9))]⟩,
  ⟨some 78, some (75, true), .bin .eql (.t 77) (.k (.int .i64 1))⟩,
  ⟨some 79, none, .pick (.t 75) (.t 78) (.k (.bool false))⟩,
  ⟨some 0, none, .mv (.t 79)⟩]
/-- steadfast/steadfastlaw04.shown -/
@[go_sem] def fc_steadfastlaw04_shown : Fc := ⟨0,
  .seq ((.reg (some []) o_steadfastlaw04_shown_0)) (
  .seq ((.reg (some [1, 2]) o_steadfastlaw04_shown_1)) (
  .seq (.seq ((.reg (some [1, 23]) o_steadfastlaw04_shown_2)) (
  .cond (.t 23) (
    .seq ((.reg (some [0]) o_steadfastlaw04_shown_3)) (
    .ret)) (
    .skip))) (
  .seq ((.reg (some [1, 3]) o_steadfastlaw04_shown_4)) (
  .seq ((.reg (some [1, 3, 5]) o_steadfastlaw04_shown_5)) (
  .seq ((.reg (some [1, 3, 5, 7]) o_steadfastlaw04_shown_6)) (
  .seq ((.reg (some [1, 3, 5, 7, 8]) o_steadfastlaw04_shown_7)) (
  .seq ((.reg (some [1, 3, 5, 7, 8, 11]) o_steadfastlaw04_shown_8)) (
  .seq ((.reg (some [1, 3, 5, 7, 8, 11]) o_steadfastlaw04_shown_9)) (
  .seq ((.reg (some [1, 3, 5, 7, 8, 11, 12]) o_steadfastlaw04_shown_10)) (
  .seq ((.reg (some [0]) o_steadfastlaw04_shown_11)) (
  .ret))))))))))),
  [.t 0]⟩
def o_frames_New_0 : List Ab.Op := [
  ⟨some 4, none, .mv (.k .nilp)⟩,
  ⟨some 5, none, .mv (.k (.int .i64 0))⟩]
def o_frames_New_1 : List Ab.Op := [
  ⟨some 8, none, .mv (.t 0)⟩,
  ⟨some 9, none, .bin .lss (.t 8) (.k (.int .i64 0))⟩,
  ⟨some 10, none, .mv (.t 9)⟩,
  ⟨some 11, some (10, false), .mv (.t 0)⟩,
  ⟨some 12, some (10, false), .mv (.t 1)⟩,
  ⟨some 13, some (10, false), .bin .gtr (.t 11) (.t 12)⟩,
  ⟨some 14, none, .pick (.t 10) (.k (.bool true)) (.t 13)⟩,
  ⟨some 15, none, .mv (.t 14)⟩,
  ⟨some 16, some (15, false), .mv (.t 1)⟩,
  ⟨some 17, some (15, false), .bin .gtr (.t 16) (.k (.int .i64 1024))⟩,
  ⟨some 18, none, .pick (.t 15) (.k (.bool true)) (.t 17)⟩]
def o_frames_New_2 : List Ab.Op := [
  ⟨some 4, none, .mv (.k .nilp)⟩,
  ⟨some 5, none, .mv (.k (.int .i64 1))⟩]
def o_frames_New_3 : List Ab.Op := [
  ⟨some 19, none, .mv (.t 0)⟩,
  ⟨some 20, none, .mv (.t 1)⟩,
  ⟨some 21, none, .bld (.agg 80 [(.int .i64 0), (.int .i64 0), (.agg 78 (List.replicate 16 (.int .u64 0))), (.agg 78 (List.replicate 16 (.int .u64 0)))]) [(0, (.t 19)), (1, (.t 20))]⟩,
  ⟨some 22, none, .box true (.t 21)⟩,
  ⟨some 6, none, .mv (.t 22)⟩]
def o_frames_New_4 : List Ab.Op := [
  ⟨some 23, none, .mv (.t 1)⟩,
  ⟨some 24, none, .mv (.t 0)⟩,
  ⟨some 25, none, .bin .sub (.t 23) (.t 24)⟩,
  ⟨some 26, none, .mv (.k (.int .i64 0))⟩]
def o_frames_New_5 : List Ab.Op := [
  ⟨some 27, none, .bin .lss (.t 26) (.t 25)⟩]
def o_frames_New_6 : List Ab.Op := [
  ⟨some 28, none, .mv (.t 26)⟩,
  ⟨some 7, none, .mv (.t 28)⟩]
def o_frames_New_7 : List Ab.Op := [
  ⟨some 29, none, .mv (.t 6)⟩,
  ⟨some 30, none, .nilc (.t 29)⟩,
  ⟨some 31, none, .fad 80 2 78 (.t 30)⟩,
  ⟨some 32, none, .mv (.t 0)⟩,
  ⟨some 33, none, .mv (.t 7)⟩,
  ⟨some 34, none, .bin .add (.t 32) (.t 33)⟩,
  ⟨some 35, none, .call (.k (.fn f_frames_set_turn [])) [(.t 31), (.t 34)]⟩]
def o_frames_New_8 : List Ab.Op := [
  ⟨some 36, none, .bin .add (.t 26) (.k (.int .i64 1))⟩,
  ⟨some 26, none, .mv (.t 36)⟩]
def o_frames_New_9 : List Ab.Op := [
  ⟨some 37, none, .mv (.t 6)⟩,
  ⟨some 4, none, .mv (.t 37)⟩,
  ⟨some 5, none, .mv (.k (.int .i64 0))⟩]
def b_frames_New_0 : C :=
    .seq ((.reg (some [0, 6, 25, 26, 27]) o_frames_New_5)) (
    .seq (.cond (.t 27) (
      .skip) (
      .exit 0)) (
    .seq (.block 1 (
      .seq ((.reg (some [0, 6, 7, 25, 26]) o_frames_New_6)) (
      (.reg (some [0, 6, 25, 26]) o_frames_New_7)))) (
    (.reg (some [0, 6, 25, 26]) o_frames_New_8))))
/-- steadfast/frames.New -/
@[go_sem] def fc_frames_New : Fc := ⟨2,
  .seq ((.reg (some [0, 1]) o_frames_New_0)) (
  .seq (.seq ((.reg (some [0, 1, 18]) o_frames_New_1)) (
  .cond (.t 18) (
    .seq ((.reg (some [4, 5]) o_frames_New_2)) (
    .ret)) (
    .skip))) (
  .seq ((.reg (some [0, 1, 6]) o_frames_New_3)) (
  .seq (.seq ((.reg (some [0, 6, 25, 26]) o_frames_New_4)) (
  .block 0 (
    .loop [0, 6, 25, 26] b_frames_New_0))) (
  .seq ((.reg (some [4, 5]) o_frames_New_9)) (
  .ret))))),
  [.t 4, .t 5]⟩
def o_steadfastlaw04_kind_0 : List Ab.Op := [
  ⟨some 4, none, .mv (.k (.int .i64 0))⟩]
def o_steadfastlaw04_kind_1 : List Ab.Op := [
  ⟨some 5, none, .mv (.t 0)⟩,
  ⟨some 6, none, .bin .lss (.t 5) (.k (.int .i64 0))⟩]
def o_steadfastlaw04_kind_2 : List Ab.Op := [
  ⟨some 7, none, .mv (.t 0)⟩,
  ⟨some 8, none, .bin .add (.t 7) (.k (.int .i64 1))⟩,
  ⟨some 9, none, .un .neg (.t 8)⟩,
  ⟨some 0, none, .mv (.t 9)⟩]
def o_steadfastlaw04_kind_3 : List Ab.Op := [
  ⟨some 10, none, .mv (.t 0)⟩,
  ⟨some 11, none, .mv (.t 1)⟩,
  ⟨some 12, none, .bin .rem (.t 10) (.t 11)⟩,
  ⟨some 4, none, .mv (.t 12)⟩]
/-- steadfast/steadfastlaw04.kind -/
@[go_sem] def fc_steadfastlaw04_kind : Fc := ⟨2,
  .seq ((.reg (some [0, 1]) o_steadfastlaw04_kind_0)) (
  .seq (.seq ((.reg (some [0, 1, 6]) o_steadfastlaw04_kind_1)) (
  .cond (.t 6) (
    (.reg (some [0, 1]) o_steadfastlaw04_kind_2)) (
    .skip))) (
  .seq ((.reg (some [4]) o_steadfastlaw04_kind_3)) (
  .ret))),
  [.t 4]⟩
def o_frames_Frames_Alloc_0 : List Ab.Op := [
  ⟨some 2, none, .mv (.k (.int .i64 0))⟩,
  ⟨some 3, none, .mv (.k (.int .i64 0))⟩]
def o_frames_Frames_Alloc_1 : List Ab.Op := [
  ⟨some 7, none, .mv (.t 0)⟩,
  ⟨some 8, none, .nilc (.t 7)⟩,
  ⟨some 9, none, .fad 80 2 78 (.t 8)⟩,
  ⟨some 10, none, .ld 78 (.t 9)⟩,
  ⟨some 11, none, .mv (.k (.int .i64 0))⟩]
def o_frames_Frames_Alloc_2 : List Ab.Op := [
  ⟨some 12, none, .bin .lss (.t 11) (.k (.int .i64 16))⟩]
def o_frames_Frames_Alloc_3 : List Ab.Op := [
  ⟨some 13, none, .mv (.t 11)⟩,
  ⟨some 14, none, .idx 78 16 (.t 10) (.t 11)⟩,
  ⟨some 4, none, .mv (.t 13)⟩,
  ⟨some 5, none, .mv (.t 14)⟩]
def o_frames_Frames_Alloc_4 : List Ab.Op := [
  ⟨some 15, none, .mv (.t 5)⟩,
  ⟨some 16, none, .bin .neq (.t 15) (.k (.int .u64 0))⟩]
def o_frames_Frames_Alloc_5 : List Ab.Op := [
  ⟨some 17, none, .mv (.t 4)⟩,
  ⟨some 18, none, .bin .mul (.k (.int .i64 64)) (.t 17)⟩,
  ⟨some 19, none, .mv (.t 5)⟩,
  ⟨some 20, none, .call (.k (.fn f_math_bits_TrailingZeros64 [])) [(.t 19)]⟩,
  ⟨some 21, none, .bin .add (.t 18) (.t 20)⟩,
  ⟨some 6, none, .mv (.t 21)⟩]
def o_frames_Frames_Alloc_6 : List Ab.Op := [
  ⟨some 22, none, .mv (.t 0)⟩,
  ⟨some 23, none, .nilc (.t 22)⟩,
  ⟨some 24, none, .fad 80 2 78 (.t 23)⟩,
  ⟨some 25, none, .mv (.t 6)⟩,
  ⟨some 26, none, .call (.k (.fn f_frames_set_turn [])) [(.t 24), (.t 25)]⟩]
def o_frames_Frames_Alloc_7 : List Ab.Op := [
  ⟨some 27, none, .mv (.t 6)⟩,
  ⟨some 2, none, .mv (.t 27)⟩,
  ⟨some 3, none, .mv (.k (.int .i64 0))⟩]
def o_frames_Frames_Alloc_8 : List Ab.Op := [
  ⟨some 28, none, .bin .add (.t 11) (.k (.int .i64 1))⟩,
  ⟨some 11, none, .mv (.t 28)⟩]
def o_frames_Frames_Alloc_9 : List Ab.Op := [
  ⟨some 2, none, .mv (.k (.int .i64 0))⟩,
  ⟨some 3, none, .mv (.k (.int .i64 10))⟩]
def b_frames_Frames_Alloc_0 : C :=
    .seq ((.reg (some [0, 10, 11, 12]) o_frames_Frames_Alloc_2)) (
    .seq (.cond (.t 12) (
      .skip) (
      .exit 0)) (
    .seq (.block 1 (
      .seq ((.reg (some [0, 4, 5, 10, 11]) o_frames_Frames_Alloc_3)) (
      .seq ((.reg (some [0, 4, 5, 10, 11, 16]) o_frames_Frames_Alloc_4)) (
      .cond (.t 16) (
        .seq ((.reg (some [0, 6]) o_frames_Frames_Alloc_5)) (
        .seq ((.reg (some [6]) o_frames_Frames_Alloc_6)) (
        .seq ((.reg (some [2, 3]) o_frames_Frames_Alloc_7)) (
        .ret)))) (
        .skip))))) (
    (.reg (some [0, 10, 11]) o_frames_Frames_Alloc_8))))
/-- (*steadfast/frames.Frames).Alloc -/
@[go_sem] def fc_frames_Frames_Alloc : Fc := ⟨1,
  .seq ((.reg (some [0]) o_frames_Frames_Alloc_0)) (
  .seq (.seq ((.reg (some [0, 10, 11]) o_frames_Frames_Alloc_1)) (
  .block 0 (
    .loop [0, 10, 11] b_frames_Frames_Alloc_0))) (
  .seq ((.reg (some [2, 3]) o_frames_Frames_Alloc_9)) (
  .ret))),
  [.t 2, .t 3]⟩
def o_frames_Frames_Left_0 : List Ab.Op := [
  ⟨some 2, none, .mv (.k (.int .i64 0))⟩]
def o_frames_Frames_Left_1 : List Ab.Op := [
  ⟨some 3, none, .mv (.k (.int .i64 0))⟩]
def o_frames_Frames_Left_2 : List Ab.Op := [
  ⟨some 6, none, .mv (.t 0)⟩,
  ⟨some 7, none, .nilc (.t 6)⟩,
  ⟨some 8, none, .fad 80 2 78 (.t 7)⟩,
  ⟨some 9, none, .ld 78 (.t 8)⟩,
  ⟨some 10, none, .mv (.k (.int .i64 0))⟩]
def o_frames_Frames_Left_3 : List Ab.Op := [
  ⟨some 11, none, .bin .lss (.t 10) (.k (.int .i64 16))⟩]
def o_frames_Frames_Left_4 : List Ab.Op := [
  ⟨some 12, none, .idx 78 16 (.t 9) (.t 10)⟩,
  ⟨some 5, none, .mv (.t 12)⟩]
def o_frames_Frames_Left_5 : List Ab.Op := [
  ⟨some 13, none, .mv (.t 3)⟩,
  ⟨some 14, none, .mv (.t 5)⟩,
  ⟨some 15, none, .call (.k (.fn f_math_bits_OnesCount64 [])) [(.t 14)]⟩,
  ⟨some 16, none, .bin .add (.t 13) (.t 15)⟩,
  ⟨some 3, none, .mv (.t 16)⟩]
def o_frames_Frames_Left_6 : List Ab.Op := [
  ⟨some 17, none, .bin .add (.t 10) (.k (.int .i64 1))⟩,
  ⟨some 10, none, .mv (.t 17)⟩]
def o_frames_Frames_Left_7 : List Ab.Op := [
  ⟨some 18, none, .mv (.t 3)⟩,
  ⟨some 2, none, .mv (.t 18)⟩]
def b_frames_Frames_Left_0 : C :=
    .seq ((.reg (some [3, 9, 10, 11]) o_frames_Frames_Left_3)) (
    .seq (.cond (.t 11) (
      .skip) (
      .exit 0)) (
    .seq (.block 1 (
      .seq ((.reg (some [3, 5, 9, 10]) o_frames_Frames_Left_4)) (
      (.reg (some [3, 9, 10]) o_frames_Frames_Left_5)))) (
    (.reg (some [3, 9, 10]) o_frames_Frames_Left_6))))
/-- (*steadfast/frames.Frames).Left -/
@[go_sem] def fc_frames_Frames_Left : Fc := ⟨1,
  .seq ((.reg (some [0]) o_frames_Frames_Left_0)) (
  .seq ((.reg (some [0, 3]) o_frames_Frames_Left_1)) (
  .seq (.seq ((.reg (some [3, 9, 10]) o_frames_Frames_Left_2)) (
  .block 0 (
    .loop [3, 9, 10] b_frames_Frames_Left_0))) (
  .seq ((.reg (some [2]) o_frames_Frames_Left_7)) (
  .ret)))),
  [.t 2]⟩
def o_frames_Frames_Free_0 : List Ab.Op := [
  ⟨some 4, none, .mv (.k (.int .i64 0))⟩]
def o_frames_Frames_Free_1 : List Ab.Op := [
  ⟨some 6, none, .mv (.t 0)⟩,
  ⟨some 7, none, .mv (.t 1)⟩,
  ⟨some 8, none, .call (.k (.fn f_frames_Frames_in [])) [(.t 6), (.t 7), (.k (.int .i64 1))]⟩,
  ⟨some 5, none, .mv (.t 8)⟩]
def o_frames_Frames_Free_2 : List Ab.Op := [
  ⟨some 9, none, .mv (.t 5)⟩,
  ⟨some 10, none, .bin .eql (.t 9) (.k (.int .i64 0))⟩]
def o_frames_Frames_Free_3 : List Ab.Op := [
  ⟨some 11, none, .mv (.t 0)⟩,
  ⟨some 12, none, .nilc (.t 11)⟩,
  ⟨some 13, none, .fad 80 2 78 (.t 12)⟩,
  ⟨some 14, none, .mv (.t 1)⟩,
  ⟨some 15, none, .call (.k (.fn f_frames_set_turn [])) [(.t 13), (.t 14)]⟩]
def o_frames_Frames_Free_4 : List Ab.Op := [
  ⟨some 16, none, .mv (.t 5)⟩,
  ⟨some 4, none, .mv (.t 16)⟩]
/-- (*steadfast/frames.Frames).Free -/
@[go_sem] def fc_frames_Frames_Free : Fc := ⟨2,
  .seq ((.reg (some [0, 1]) o_frames_Frames_Free_0)) (
  .seq ((.reg (some [0, 1, 5]) o_frames_Frames_Free_1)) (
  .seq (.seq ((.reg (some [0, 1, 5, 10]) o_frames_Frames_Free_2)) (
  .cond (.t 10) (
    (.reg (some [5]) o_frames_Frames_Free_3)) (
    .skip))) (
  .seq ((.reg (some [4]) o_frames_Frames_Free_4)) (
  .ret)))),
  [.t 4]⟩
def o_frames_Frames_Later_0 : List Ab.Op := [
  ⟨some 4, none, .mv (.k (.int .i64 0))⟩]
def o_frames_Frames_Later_1 : List Ab.Op := [
  ⟨some 6, none, .mv (.t 0)⟩,
  ⟨some 7, none, .mv (.t 1)⟩,
  ⟨some 8, none, .call (.k (.fn f_frames_Frames_in [])) [(.t 6), (.t 7), (.k (.int .i64 1))]⟩,
  ⟨some 5, none, .mv (.t 8)⟩]
def o_frames_Frames_Later_2 : List Ab.Op := [
  ⟨some 9, none, .mv (.t 5)⟩,
  ⟨some 10, none, .bin .eql (.t 9) (.k (.int .i64 0))⟩]
def o_frames_Frames_Later_3 : List Ab.Op := [
  ⟨some 11, none, .mv (.t 0)⟩,
  ⟨some 12, none, .nilc (.t 11)⟩,
  ⟨some 13, none, .fad 80 3 78 (.t 12)⟩,
  ⟨some 14, none, .mv (.t 1)⟩,
  ⟨some 15, none, .call (.k (.fn f_frames_set_turn [])) [(.t 13), (.t 14)]⟩]
def o_frames_Frames_Later_4 : List Ab.Op := [
  ⟨some 16, none, .mv (.t 5)⟩,
  ⟨some 4, none, .mv (.t 16)⟩]
/-- (*steadfast/frames.Frames).Later -/
@[go_sem] def fc_frames_Frames_Later : Fc := ⟨2,
  .seq ((.reg (some [0, 1]) o_frames_Frames_Later_0)) (
  .seq ((.reg (some [0, 1, 5]) o_frames_Frames_Later_1)) (
  .seq (.seq ((.reg (some [0, 1, 5, 10]) o_frames_Frames_Later_2)) (
  .cond (.t 10) (
    (.reg (some [5]) o_frames_Frames_Later_3)) (
    .skip))) (
  .seq ((.reg (some [4]) o_frames_Frames_Later_4)) (
  .ret)))),
  [.t 4]⟩
def o_frames_Frames_Settle_0 : List Ab.Op := [
  ⟨some 4, none, .mv (.t 0)⟩,
  ⟨some 5, none, .nilc (.t 4)⟩,
  ⟨some 6, none, .fad 80 3 78 (.t 5)⟩,
  ⟨some 7, none, .ld 78 (.t 6)⟩,
  ⟨some 8, none, .mv (.k (.int .i64 0))⟩]
def o_frames_Frames_Settle_1 : List Ab.Op := [
  ⟨some 9, none, .bin .lss (.t 8) (.k (.int .i64 16))⟩]
def o_frames_Frames_Settle_2 : List Ab.Op := [
  ⟨some 10, none, .mv (.t 8)⟩,
  ⟨some 11, none, .idx 78 16 (.t 7) (.t 8)⟩,
  ⟨some 2, none, .mv (.t 10)⟩,
  ⟨some 3, none, .mv (.t 11)⟩]
def o_frames_Frames_Settle_3 : List Ab.Op := [
  ⟨some 12, none, .mv (.t 0)⟩,
  ⟨some 13, none, .mv (.t 2)⟩,
  ⟨some 14, none, .nilc (.t 12)⟩,
  ⟨some 15, none, .fad 80 2 78 (.t 14)⟩,
  ⟨some 16, none, .iad 78 16 18 (.t 15) (.t 13)⟩,
  ⟨some 17, none, .ld 18 (.t 16)⟩,
  ⟨some 18, none, .mv (.t 3)⟩,
  ⟨some 19, none, .bin .or (.t 17) (.t 18)⟩,
  ⟨some 20, none, .nilc (.t 12)⟩,
  ⟨some 21, none, .fad 80 2 78 (.t 20)⟩,
  ⟨some 22, none, .iad 78 16 18 (.t 21) (.t 13)⟩,
  ⟨none, none, .st 18 (.t 22) (.t 19)⟩]
def o_frames_Frames_Settle_4 : List Ab.Op := [
  ⟨some 23, none, .bin .add (.t 8) (.k (.int .i64 1))⟩,
  ⟨some 8, none, .mv (.t 23)⟩]
def o_frames_Frames_Settle_5 : List Ab.Op := [
  ⟨some 24, none, .mv (.t 0)⟩,
  ⟨some 25, none, .bld (.agg 78 (List.replicate 16 (.int .u64 0))) []⟩,
  ⟨some 26, none, .nilc (.t 24)⟩,
  ⟨some 27, none, .fad 80 3 78 (.t 26)⟩,
  ⟨none, none, .st 78 (.t 27) (.t 25)⟩]
def b_frames_Frames_Settle_0 : C :=
    .seq ((.reg (some [0, 7, 8, 9]) o_frames_Frames_Settle_1)) (
    .seq (.cond (.t 9) (
      .skip) (
      .exit 0)) (
    .seq (.block 1 (
      .seq ((.reg (some [0, 2, 3, 7, 8]) o_frames_Frames_Settle_2)) (
      (.regd (some [0, 7, 8]) o_frames_Frames_Settle_3)))) (
    (.reg (some [0, 7, 8]) o_frames_Frames_Settle_4))))
/-- (*steadfast/frames.Frames).Settle -/
@[go_sem] def fc_frames_Frames_Settle : Fc := ⟨1,
  .seq (.seq ((.reg (some [0, 7, 8]) o_frames_Frames_Settle_0)) (
  .block 0 (
    .loop [0, 7, 8] b_frames_Frames_Settle_0))) (
  (.reg (some []) o_frames_Frames_Settle_5)),
  []⟩
def o_frames_Frames_State_0 : List Ab.Op := [
  ⟨some 4, none, .mv (.k (.int .i64 0))⟩]
def o_frames_Frames_State_1 : List Ab.Op := [
  ⟨some 6, none, .mv (.t 1)⟩,
  ⟨some 7, none, .mv (.t 0)⟩,
  ⟨some 8, none, .nilc (.t 7)⟩,
  ⟨some 9, none, .fad 80 0 10 (.t 8)⟩,
  ⟨some 10, none, .ld 10 (.t 9)⟩,
  ⟨some 11, none, .bin .lss (.t 6) (.t 10)⟩,
  ⟨some 5, none, .mv (.t 11)⟩]
def o_frames_Frames_State_2 : List Ab.Op := [
  ⟨some 12, none, .mv (.t 1)⟩,
  ⟨some 13, none, .mv (.t 0)⟩,
  ⟨some 14, none, .nilc (.t 13)⟩,
  ⟨some 15, none, .fad 80 1 10 (.t 14)⟩,
  ⟨some 16, none, .ld 10 (.t 15)⟩,
  ⟨some 17, none, .bin .geq (.t 12) (.t 16)⟩,
  ⟨some 5, none, .mv (.t 17)⟩]
def o_frames_Frames_State_3 : List Ab.Op := [
  ⟨some 4, none, .mv (.k (.int .i64 (-1)))⟩]
def o_frames_Frames_State_4 : List Ab.Op := [
  ⟨some 19, none, .mv (.t 0)⟩,
  ⟨some 20, none, .nilc (.t 19)⟩,
  ⟨some 21, none, .fad 80 2 78 (.t 20)⟩,
  ⟨some 22, none, .mv (.t 1)⟩,
  ⟨some 23, none, .call (.k (.fn f_frames_set_has [])) [(.t 21), (.t 22)]⟩,
  ⟨some 18, none, .mv (.t 23)⟩]
def o_frames_Frames_State_5 : List Ab.Op := [
  ⟨some 4, none, .mv (.k (.int .i64 0))⟩]
def o_frames_Frames_State_6 : List Ab.Op := [
  ⟨some 25, none, .mv (.t 0)⟩,
  ⟨some 26, none, .nilc (.t 25)⟩,
  ⟨some 27, none, .fad 80 3 78 (.t 26)⟩,
  ⟨some 28, none, .mv (.t 1)⟩,
  ⟨some 29, none, .call (.k (.fn f_frames_set_has [])) [(.t 27), (.t 28)]⟩,
  ⟨some 24, none, .mv (.t 29)⟩]
def o_frames_Frames_State_7 : List Ab.Op := [
  ⟨some 4, none, .mv (.k (.int .i64 2))⟩]
def o_frames_Frames_State_8 : List Ab.Op := [
  ⟨some 4, none, .mv (.k (.int .i64 1))⟩]
/-- (*steadfast/frames.Frames).State -/
@[go_sem] def fc_frames_Frames_State : Fc := ⟨2,
  .seq ((.reg (some [0, 1]) o_frames_Frames_State_0)) (
  .seq (.block 0 (
    .seq (.seq ((.reg (some [0, 1, 5]) o_frames_Frames_State_1)) (
    .cond (.t 5) (
      .skip) (
      (.reg (some [0, 1, 5]) o_frames_Frames_State_2)))) (
    .cond (.t 5) (
      .seq ((.reg (some [4]) o_frames_Frames_State_3)) (
      .ret)) (
      .seq ((.reg (some [0, 1, 18]) o_frames_Frames_State_4)) (
      .cond (.t 18) (
        .seq ((.reg (some [4]) o_frames_Frames_State_5)) (
        .ret)) (
        .seq ((.reg (some [24]) o_frames_Frames_State_6)) (
        .cond (.t 24) (
          .seq ((.reg (some [4]) o_frames_Frames_State_7)) (
          .ret)) (
          .skip)))))))) (
  .seq ((.reg (some [4]) o_frames_Frames_State_8)) (
  .ret))),
  [.t 4]⟩
def o_frames_Frames_Take_0 : List Ab.Op := [
  ⟨some 4, none, .mv (.k (.int .i64 0))⟩]
def o_frames_Frames_Take_1 : List Ab.Op := [
  ⟨some 6, none, .mv (.t 0)⟩,
  ⟨some 7, none, .mv (.t 1)⟩,
  ⟨some 8, none, .call (.k (.fn f_frames_Frames_in [])) [(.t 6), (.t 7), (.k (.int .i64 0))]⟩,
  ⟨some 5, none, .mv (.t 8)⟩]
def o_frames_Frames_Take_2 : List Ab.Op := [
  ⟨some 9, none, .mv (.t 5)⟩,
  ⟨some 10, none, .bin .eql (.t 9) (.k (.int .i64 0))⟩]
def o_frames_Frames_Take_3 : List Ab.Op := [
  ⟨some 11, none, .mv (.t 0)⟩,
  ⟨some 12, none, .nilc (.t 11)⟩,
  ⟨some 13, none, .fad 80 2 78 (.t 12)⟩,
  ⟨some 14, none, .mv (.t 1)⟩,
  ⟨some 15, none, .call (.k (.fn f_frames_set_turn [])) [(.t 13), (.t 14)]⟩]
def o_frames_Frames_Take_4 : List Ab.Op := [
  ⟨some 16, none, .mv (.t 5)⟩,
  ⟨some 4, none, .mv (.t 16)⟩]
/-- (*steadfast/frames.Frames).Take -/
@[go_sem] def fc_frames_Frames_Take : Fc := ⟨2,
  .seq ((.reg (some [0, 1]) o_frames_Frames_Take_0)) (
  .seq ((.reg (some [0, 1, 5]) o_frames_Frames_Take_1)) (
  .seq (.seq ((.reg (some [0, 1, 5, 10]) o_frames_Frames_Take_2)) (
  .cond (.t 10) (
    (.reg (some [5]) o_frames_Frames_Take_3)) (
    .skip))) (
  .seq ((.reg (some [4]) o_frames_Frames_Take_4)) (
  .ret)))),
  [.t 4]⟩
def o_steadfastref04_New_0 : List Ab.Op := [
  ⟨some 4, none, .mv (.k .nilp)⟩,
  ⟨some 5, none, .mv (.k (.int .i64 0))⟩]
def o_steadfastref04_New_1 : List Ab.Op := [
  ⟨some 6, none, .mv (.t 0)⟩,
  ⟨some 7, none, .bin .lss (.t 6) (.k (.int .i64 0))⟩,
  ⟨some 8, none, .mv (.t 7)⟩,
  ⟨some 9, some (8, false), .mv (.t 0)⟩,
  ⟨some 10, some (8, false), .mv (.t 1)⟩,
  ⟨some 11, some (8, false), .bin .gtr (.t 9) (.t 10)⟩,
  ⟨some 12, none, .pick (.t 8) (.k (.bool true)) (.t 11)⟩,
  ⟨some 13, none, .mv (.t 12)⟩,
  ⟨some 14, some (13, false), .mv (.t 1)⟩,
  ⟨some 15, some (13, false), .bin .gtr (.t 14) (.k (.int .i64 1024))⟩,
  ⟨some 16, none, .pick (.t 13) (.k (.bool true)) (.t 15)⟩]
def o_steadfastref04_New_2 : List Ab.Op := [
  ⟨some 4, none, .mv (.k .nilp)⟩,
  ⟨some 5, none, .mv (.k (.int .i64 1))⟩]
def o_steadfastref04_New_3 : List Ab.Op := [
  ⟨some 17, none, .mv (.t 0)⟩,
  ⟨some 18, none, .mv (.t 1)⟩,
  ⟨some 19, none, .mv (.t 0)⟩,
  ⟨some 20, none, .bin .sub (.t 18) (.t 19)⟩,
  ⟨some 21, none, .mksl true 38 10 (.int .i64 0) (.t 20) (.t 20)⟩,
  ⟨some 22, none, .bld (.agg 21 [(.int .i64 0), .nils]) [(0, (.t 17)), (1, (.t 21))]⟩,
  ⟨some 23, none, .box true (.t 22)⟩,
  ⟨some 4, none, .mv (.t 23)⟩,
  ⟨some 5, none, .mv (.k (.int .i64 0))⟩]
/-- steadfast/steadfastref04.New -/
@[go_sem] def fc_steadfastref04_New : Fc := ⟨2,
  .seq ((.reg (some [0, 1]) o_steadfastref04_New_0)) (
  .seq (.seq ((.reg (some [0, 1, 16]) o_steadfastref04_New_1)) (
  .cond (.t 16) (
    .seq ((.reg (some [4, 5]) o_steadfastref04_New_2)) (
    .ret)) (
    .skip))) (
  .seq ((.reg (some [4, 5]) o_steadfastref04_New_3)) (
  .ret))),
  [.t 4, .t 5]⟩
def o_steadfastref04_Frames_Alloc_0 : List Ab.Op := [
  ⟨some 2, none, .mv (.k (.int .i64 0))⟩,
  ⟨some 3, none, .mv (.k (.int .i64 0))⟩]
def o_steadfastref04_Frames_Alloc_1 : List Ab.Op := [
  ⟨some 4, none, .mv (.k (.int .i64 0))⟩]
def o_steadfastref04_Frames_Alloc_2 : List Ab.Op := [
  ⟨some 5, none, .mv (.t 4)⟩,
  ⟨some 6, none, .mv (.t 0)⟩,
  ⟨some 7, none, .nilc (.t 6)⟩,
  ⟨some 8, none, .fad 21 1 1 (.t 7)⟩,
  ⟨some 9, none, .ld 1 (.t 8)⟩,
  ⟨some 10, none, .len false (.t 9)⟩,
  ⟨some 11, none, .bin .lss (.t 5) (.t 10)⟩]
def o_steadfastref04_Frames_Alloc_3 : List Ab.Op := [
  ⟨some 14, none, .mv (.t 0)⟩,
  ⟨some 15, none, .nilc (.t 14)⟩,
  ⟨some 16, none, .fad 21 1 1 (.t 15)⟩,
  ⟨some 17, none, .ld 1 (.t 16)⟩,
  ⟨some 18, none, .mv (.t 4)⟩,
  ⟨some 19, none, .sad 10 (.t 17) (.t 18)⟩,
  ⟨some 20, none, .ld 10 (.t 19)⟩,
  ⟨some 21, none, .bin .eql (.t 20) (.k (.int .i64 0))⟩]
def o_steadfastref04_Frames_Alloc_4 : List Ab.Op := [
  ⟨some 22, none, .mv (.t 0)⟩,
  ⟨some 23, none, .nilc (.t 22)⟩,
  ⟨some 24, none, .fad 21 1 1 (.t 23)⟩,
  ⟨some 25, none, .ld 1 (.t 24)⟩,
  ⟨some 26, none, .mv (.t 4)⟩,
  ⟨some 27, none, .sad 10 (.t 25) (.t 26)⟩,
  ⟨none, none, .st 10 (.t 27) (.k (.int .i64 1))⟩]
def o_steadfastref04_Frames_Alloc_5 : List Ab.Op := [
  ⟨some 28, none, .mv (.t 0)⟩,
  ⟨some 29, none, .nilc (.t 28)⟩,
  ⟨some 30, none, .fad 21 0 10 (.t 29)⟩,
  ⟨some 31, none, .ld 10 (.t 30)⟩,
  ⟨some 32, none, .mv (.t 4)⟩,
  ⟨some 33, none, .bin .add (.t 31) (.t 32)⟩,
  ⟨some 2, none, .mv (.t 33)⟩,
  ⟨some 3, none, .mv (.k (.int .i64 0))⟩]
def o_steadfastref04_Frames_Alloc_6 : List Ab.Op := [
  ⟨some 12, none, .mv (.t 4)⟩,
  ⟨some 13, none, .bin .add (.t 12) (.k (.int .i64 1))⟩,
  ⟨some 4, none, .mv (.t 13)⟩]
def o_steadfastref04_Frames_Alloc_7 : List Ab.Op := [
  ⟨some 2, none, .mv (.k (.int .i64 0))⟩,
  ⟨some 3, none, .mv (.k (.int .i64 10))⟩]
def b_steadfastref04_Frames_Alloc_0 : C :=
    .seq (.seq ((.reg (some [0, 4, 11]) o_steadfastref04_Frames_Alloc_2)) (
    .cond (.t 11) (
      .skip) (
      .exit 0))) (
    .seq (.block 1 (
      .seq ((.reg (some [0, 4, 21]) o_steadfastref04_Frames_Alloc_3)) (
      .cond (.t 21) (
        .seq ((.reg (some [0, 4]) o_steadfastref04_Frames_Alloc_4)) (
        .seq ((.reg (some [2, 3]) o_steadfastref04_Frames_Alloc_5)) (
        .ret))) (
        .skip)))) (
    (.reg (some [0, 4]) o_steadfastref04_Frames_Alloc_6)))
/-- (*steadfast/steadfastref04.Frames).Alloc -/
@[go_sem] def fc_steadfastref04_Frames_Alloc : Fc := ⟨1,
  .seq ((.reg (some [0]) o_steadfastref04_Frames_Alloc_0)) (
  .seq (.seq ((.reg (some [0, 4]) o_steadfastref04_Frames_Alloc_1)) (
  .block 0 (
    .loop [0, 4] b_steadfastref04_Frames_Alloc_0))) (
  .seq ((.reg (some [2, 3]) o_steadfastref04_Frames_Alloc_7)) (
  .ret))),
  [.t 2, .t 3]⟩
def o_steadfastref04_Frames_Take_0 : List Ab.Op := [
  ⟨some 4, none, .mv (.k (.int .i64 0))⟩]
def o_steadfastref04_Frames_Take_1 : List Ab.Op := [
  ⟨some 5, none, .mv (.t 0)⟩,
  ⟨some 6, none, .mv (.t 1)⟩,
  ⟨some 7, none, .call (.k (.fn f_steadfastref04_Frames_turn [])) [(.t 5), (.t 6), (.k (.int .i64 0)), (.k (.int .i64 1))]⟩,
  ⟨some 4, none, .mv (.t 7)⟩]
/-- (*steadfast/steadfastref04.Frames).Take -/
@[go_sem] def fc_steadfastref04_Frames_Take : Fc := ⟨2,
  .seq ((.reg (some [0, 1]) o_steadfastref04_Frames_Take_0)) (
  .seq ((.reg (some [4]) o_steadfastref04_Frames_Take_1)) (
  .ret)),
  [.t 4]⟩
def o_steadfastref04_Frames_Free_0 : List Ab.Op := [
  ⟨some 4, none, .mv (.k (.int .i64 0))⟩]
def o_steadfastref04_Frames_Free_1 : List Ab.Op := [
  ⟨some 5, none, .mv (.t 0)⟩,
  ⟨some 6, none, .mv (.t 1)⟩,
  ⟨some 7, none, .call (.k (.fn f_steadfastref04_Frames_turn [])) [(.t 5), (.t 6), (.k (.int .i64 1)), (.k (.int .i64 0))]⟩,
  ⟨some 4, none, .mv (.t 7)⟩]
/-- (*steadfast/steadfastref04.Frames).Free -/
@[go_sem] def fc_steadfastref04_Frames_Free : Fc := ⟨2,
  .seq ((.reg (some [0, 1]) o_steadfastref04_Frames_Free_0)) (
  .seq ((.reg (some [4]) o_steadfastref04_Frames_Free_1)) (
  .ret)),
  [.t 4]⟩
def o_steadfastref04_Frames_Later_0 : List Ab.Op := [
  ⟨some 4, none, .mv (.k (.int .i64 0))⟩]
def o_steadfastref04_Frames_Later_1 : List Ab.Op := [
  ⟨some 5, none, .mv (.t 0)⟩,
  ⟨some 6, none, .mv (.t 1)⟩,
  ⟨some 7, none, .call (.k (.fn f_steadfastref04_Frames_turn [])) [(.t 5), (.t 6), (.k (.int .i64 1)), (.k (.int .i64 2))]⟩,
  ⟨some 4, none, .mv (.t 7)⟩]
/-- (*steadfast/steadfastref04.Frames).Later -/
@[go_sem] def fc_steadfastref04_Frames_Later : Fc := ⟨2,
  .seq ((.reg (some [0, 1]) o_steadfastref04_Frames_Later_0)) (
  .seq ((.reg (some [4]) o_steadfastref04_Frames_Later_1)) (
  .ret)),
  [.t 4]⟩
def o_steadfastref04_Frames_Settle_0 : List Ab.Op := [
  ⟨some 2, none, .mv (.k (.int .i64 0))⟩]
def o_steadfastref04_Frames_Settle_1 : List Ab.Op := [
  ⟨some 3, none, .mv (.t 2)⟩,
  ⟨some 4, none, .mv (.t 0)⟩,
  ⟨some 5, none, .nilc (.t 4)⟩,
  ⟨some 6, none, .fad 21 1 1 (.t 5)⟩,
  ⟨some 7, none, .ld 1 (.t 6)⟩,
  ⟨some 8, none, .len false (.t 7)⟩,
  ⟨some 9, none, .bin .lss (.t 3) (.t 8)⟩]
def o_steadfastref04_Frames_Settle_2 : List Ab.Op := [
  ⟨some 12, none, .mv (.t 0)⟩,
  ⟨some 13, none, .nilc (.t 12)⟩,
  ⟨some 14, none, .fad 21 1 1 (.t 13)⟩,
  ⟨some 15, none, .ld 1 (.t 14)⟩,
  ⟨some 16, none, .mv (.t 2)⟩,
  ⟨some 17, none, .sad 10 (.t 15) (.t 16)⟩,
  ⟨some 18, none, .ld 10 (.t 17)⟩,
  ⟨some 19, none, .bin .eql (.t 18) (.k (.int .i64 2))⟩]
def o_steadfastref04_Frames_Settle_3 : List Ab.Op := [
  ⟨some 20, none, .mv (.t 0)⟩,
  ⟨some 21, none, .nilc (.t 20)⟩,
  ⟨some 22, none, .fad 21 1 1 (.t 21)⟩,
  ⟨some 23, none, .ld 1 (.t 22)⟩,
  ⟨some 24, none, .mv (.t 2)⟩,
  ⟨some 25, none, .sad 10 (.t 23) (.t 24)⟩,
  ⟨none, none, .st 10 (.t 25) (.k (.int .i64 0))⟩]
def o_steadfastref04_Frames_Settle_4 : List Ab.Op := [
  ⟨some 10, none, .mv (.t 2)⟩,
  ⟨some 11, none, .bin .add (.t 10) (.k (.int .i64 1))⟩,
  ⟨some 2, none, .mv (.t 11)⟩]
def b_steadfastref04_Frames_Settle_0 : C :=
    .seq (.seq ((.reg (some [0, 2, 9]) o_steadfastref04_Frames_Settle_1)) (
    .cond (.t 9) (
      .skip) (
      .exit 0))) (
    .seq (.block 1 (
      .seq ((.reg (some [0, 2, 19]) o_steadfastref04_Frames_Settle_2)) (
      .cond (.t 19) (
        (.reg (some [0, 2]) o_steadfastref04_Frames_Settle_3)) (
        .skip)))) (
    (.reg (some [0, 2]) o_steadfastref04_Frames_Settle_4)))
/-- (*steadfast/steadfastref04.Frames).Settle -/
@[go_sem] def fc_steadfastref04_Frames_Settle : Fc := ⟨1,
  .seq ((.reg (some [0, 2]) o_steadfastref04_Frames_Settle_0)) (
  .block 0 (
    .loop [0, 2] b_steadfastref04_Frames_Settle_0)),
  []⟩
def o_frames_Frames_Clone_0 : List Ab.Op := [
  ⟨some 2, none, .mv (.k .nilp)⟩]
def o_frames_Frames_Clone_1 : List Ab.Op := [
  ⟨some 4, none, .mv (.t 0)⟩,
  ⟨some 5, none, .nilc (.t 4)⟩,
  ⟨some 6, none, .ld 80 (.t 5)⟩,
  ⟨some 3, none, .alloc true (.agg 80 [(.int .i64 0), (.int .i64 0), (.agg 78 (List.replicate 16 (.int .u64 0))), (.agg 78 (List.replicate 16 (.int .u64 0)))])⟩,
  ⟨none, none, .st 80 (.t 3) (.t 6)⟩]
def o_frames_Frames_Clone_2 : List Ab.Op := [
  ⟨some 2, none, .mv (.t 3)⟩]
/-- (*steadfast/frames.Frames).Clone -/
@[go_sem] def fc_frames_Frames_Clone : Fc := ⟨1,
  .seq ((.reg (some [0]) o_frames_Frames_Clone_0)) (
  .seq ((.reg (some [3]) o_frames_Frames_Clone_1)) (
  .seq ((.reg (some [2]) o_frames_Frames_Clone_2)) (
  .ret))),
  [.t 2]⟩
def o_steadfastref04_Frames_Left_0 : List Ab.Op := [
  ⟨some 2, none, .mv (.k (.int .i64 0))⟩]
def o_steadfastref04_Frames_Left_1 : List Ab.Op := [
  ⟨some 3, none, .mv (.k (.int .i64 0))⟩]
def o_steadfastref04_Frames_Left_2 : List Ab.Op := [
  ⟨some 4, none, .mv (.k (.int .i64 0))⟩]
def o_steadfastref04_Frames_Left_3 : List Ab.Op := [
  ⟨some 5, none, .mv (.t 4)⟩,
  ⟨some 6, none, .mv (.t 0)⟩,
  ⟨some 7, none, .nilc (.t 6)⟩,
  ⟨some 8, none, .fad 21 1 1 (.t 7)⟩,
  ⟨some 9, none, .ld 1 (.t 8)⟩,
  ⟨some 10, none, .len false (.t 9)⟩,
  ⟨some 11, none, .bin .lss (.t 5) (.t 10)⟩]
def o_steadfastref04_Frames_Left_4 : List Ab.Op := [
  ⟨some 14, none, .mv (.t 0)⟩,
  ⟨some 15, none, .nilc (.t 14)⟩,
  ⟨some 16, none, .fad 21 1 1 (.t 15)⟩,
  ⟨some 17, none, .ld 1 (.t 16)⟩,
  ⟨some 18, none, .mv (.t 4)⟩,
  ⟨some 19, none, .sad 10 (.t 17) (.t 18)⟩,
  ⟨some 20, none, .ld 10 (.t 19)⟩,
  ⟨some 21, none, .bin .eql (.t 20) (.k (.int .i64 0))⟩]
def o_steadfastref04_Frames_Left_5 : List Ab.Op := [
  ⟨some 22, none, .mv (.t 3)⟩,
  ⟨some 23, none, .bin .add (.t 22) (.k (.int .i64 1))⟩,
  ⟨some 3, none, .mv (.t 23)⟩]
def o_steadfastref04_Frames_Left_6 : List Ab.Op := [
  ⟨some 12, none, .mv (.t 4)⟩,
  ⟨some 13, none, .bin .add (.t 12) (.k (.int .i64 1))⟩,
  ⟨some 4, none, .mv (.t 13)⟩]
def o_steadfastref04_Frames_Left_7 : List Ab.Op := [
  ⟨some 24, none, .mv (.t 3)⟩,
  ⟨some 2, none, .mv (.t 24)⟩]
def b_steadfastref04_Frames_Left_0 : C :=
    .seq (.seq ((.reg (some [0, 3, 4, 11]) o_steadfastref04_Frames_Left_3)) (
    .cond (.t 11) (
      .skip) (
      .exit 0))) (
    .seq (.block 1 (
      .seq ((.reg (some [0, 3, 4, 21]) o_steadfastref04_Frames_Left_4)) (
      .cond (.t 21) (
        (.reg (some [0, 3, 4]) o_steadfastref04_Frames_Left_5)) (
        .skip)))) (
    (.reg (some [0, 3, 4]) o_steadfastref04_Frames_Left_6)))
/-- (*steadfast/steadfastref04.Frames).Left -/
@[go_sem] def fc_steadfastref04_Frames_Left : Fc := ⟨1,
  .seq ((.reg (some [0]) o_steadfastref04_Frames_Left_0)) (
  .seq ((.reg (some [0, 3]) o_steadfastref04_Frames_Left_1)) (
  .seq (.seq ((.reg (some [0, 3, 4]) o_steadfastref04_Frames_Left_2)) (
  .block 0 (
    .loop [0, 3, 4] b_steadfastref04_Frames_Left_0))) (
  .seq ((.reg (some [2]) o_steadfastref04_Frames_Left_7)) (
  .ret)))),
  [.t 2]⟩
def o_steadfastref04_Frames_State_0 : List Ab.Op := [
  ⟨some 4, none, .mv (.k (.int .i64 0))⟩]
def o_steadfastref04_Frames_State_1 : List Ab.Op := [
  ⟨some 5, none, .mv (.t 1)⟩,
  ⟨some 6, none, .mv (.t 0)⟩,
  ⟨some 7, none, .nilc (.t 6)⟩,
  ⟨some 8, none, .fad 21 0 10 (.t 7)⟩,
  ⟨some 9, none, .ld 10 (.t 8)⟩,
  ⟨some 10, none, .bin .lss (.t 5) (.t 9)⟩,
  ⟨some 11, none, .mv (.t 10)⟩,
  ⟨some 12, some (11, false), .mv (.t 1)⟩,
  ⟨some 13, some (11, false), .mv (.t 0)⟩,
  ⟨some 14, some (11, false), .nilc (.t 13)⟩,
  ⟨some 15, some (11, false), .fad 21 0 10 (.t 14)⟩,
  ⟨some 16, some (11, false), .ld 10 (.t 15)⟩,
  ⟨some 17, some (11, false), .bin .sub (.t 12) (.t 16)⟩,
  ⟨some 18, some (11, false), .mv (.t 0)⟩,
  ⟨some 19, some (11, false), .nilc (.t 18)⟩,
  ⟨some 20, some (11, false), .fad 21 1 1 (.t 19)⟩,
  ⟨some 21, some (11, false), .ld 1 (.t 20)⟩,
  ⟨some 22, some (11, false), .len false (.t 21)⟩,
  ⟨some 23, some (11, false), .bin .geq (.t 17) (.t 22)⟩,
  ⟨some 24, none, .pick (.t 11) (.k (.bool true)) (.t 23)⟩]
def o_steadfastref04_Frames_State_2 : List Ab.Op := [
  ⟨some 4, none, .mv (.k (.int .i64 (-1)))⟩]
def o_steadfastref04_Frames_State_3 : List Ab.Op := [
  ⟨some 25, none, .mv (.t 0)⟩,
  ⟨some 26, none, .nilc (.t 25)⟩,
  ⟨some 27, none, .fad 21 1 1 (.t 26)⟩,
  ⟨some 28, none, .ld 1 (.t 27)⟩,
  ⟨some 29, none, .mv (.t 1)⟩,
  ⟨some 30, none, .mv (.t 0)⟩,
  ⟨some 31, none, .nilc (.t 30)⟩,
  ⟨some 32, none, .fad 21 0 10 (.t 31)⟩,
  ⟨some 33, none, .ld 10 (.t 32)⟩,
  ⟨some 34, none, .bin .sub (.t 29) (.t 33)⟩,
  ⟨some 35, none, .sad 10 (.t 28) (.t 34)⟩,
  ⟨some 36, none, .ld 10 (.t 35)⟩,
  ⟨some 4, none, .mv (.t 36)⟩]
/-- (*steadfast/steadfastref04.Frames).State -/
@[go_sem] def fc_steadfastref04_Frames_State : Fc := ⟨2,
  .seq ((.reg (some [0, 1]) o_steadfastref04_Frames_State_0)) (
  .seq (.seq ((.regd (some [0, 1, 24]) o_steadfastref04_Frames_State_1)) (
  .cond (.t 24) (
    .seq ((.reg (some [4]) o_steadfastref04_Frames_State_2)) (
    .ret)) (
    .skip))) (
  .seq ((.regd (some [4]) o_steadfastref04_Frames_State_3)) (
  .ret))),
  [.t 4]⟩
def o_frames_set_turn_0 : List Ab.Op := [
  ⟨some 4, none, .mv (.t 0)⟩,
  ⟨some 5, none, .mv (.t 1)⟩,
  ⟨some 6, none, .bin .quo (.t 5) (.k (.int .i64 64))⟩,
  ⟨some 7, none, .nilc (.t 4)⟩,
  ⟨some 8, none, .iad 78 16 18 (.t 7) (.t 6)⟩,
  ⟨some 9, none, .ld 18 (.t 8)⟩,
  ⟨some 10, none, .mv (.t 1)⟩,
  ⟨some 11, none, .bin .rem (.t 10) (.k (.int .i64 64))⟩,
  ⟨some 12, none, .bin .shl (.k (.int .u64 1)) (.t 11)⟩,
  ⟨some 13, none, .bin .xor (.t 9) (.t 12)⟩,
  ⟨some 14, none, .nilc (.t 4)⟩,
  ⟨some 15, none, .iad 78 16 18 (.t 14) (.t 6)⟩,
  ⟨none, none, .st 18 (.t 15) (.t 13)⟩]
/-- (*steadfast/frames.set).turn -/
@[go_sem] def fc_frames_set_turn : Fc := ⟨2,
  (.regd (some []) o_frames_set_turn_0),
  []⟩
def o_math_bits_TrailingZeros64_0 : List Ab.Op := [
  ⟨some 2, none, .mv (.k (.int .i64 0))⟩]
def o_math_bits_TrailingZeros64_1 : List Ab.Op := [
  ⟨some 3, none, .mv (.t 0)⟩,
  ⟨some 4, none, .bin .eql (.t 3) (.k (.int .u64 0))⟩]
def o_math_bits_TrailingZeros64_2 : List Ab.Op := [
  ⟨some 2, none, .mv (.k (.int .i64 64))⟩]
def o_math_bits_TrailingZeros64_3 : List Ab.Op := [
  ⟨some 5, none, .mv (.t 0)⟩,
  ⟨some 6, none, .mv (.t 0)⟩,
  ⟨some 7, none, .un .neg (.t 6)⟩,
  ⟨some 8, none, .bin .and (.t 5) (.t 7)⟩,
  ⟨some 9, none, .bin .mul (.t 8) (.k (.int .u64 285870213051353865))⟩,
  ⟨some 10, none, .bin .shr (.t 9) (.k (.int .u64 58))⟩,
  ⟨some 11, none, .iad 108 64 12 (.k glob_0) (.t 10)⟩,
  ⟨some 12, none, .ld 12 (.t 11)⟩,
  ⟨some 13, none, .conv .i64 (.t 12)⟩,
  ⟨some 2, none, .mv (.t 13)⟩]
/-- math/bits.TrailingZeros64 -/
@[go_sem] def fc_math_bits_TrailingZeros64 : Fc := ⟨1,
  .seq ((.reg (some [0]) o_math_bits_TrailingZeros64_0)) (
  .seq (.seq ((.reg (some [0, 4]) o_math_bits_TrailingZeros64_1)) (
  .cond (.t 4) (
    .seq ((.reg (some [2]) o_math_bits_TrailingZeros64_2)) (
    .ret)) (
    .skip))) (
  .seq ((.reg (some [2]) o_math_bits_TrailingZeros64_3)) (
  .ret))),
  [.t 2]⟩
def o_math_bits_OnesCount64_0 : List Ab.Op := [
  ⟨some 2, none, .mv (.k (.int .i64 0))⟩]
def o_math_bits_OnesCount64_1 : List Ab.Op := [
  ⟨some 3, none, .mv (.t 0)⟩,
  ⟨some 4, none, .bin .shr (.t 3) (.k (.int .u64 1))⟩,
  ⟨some 5, none, .bin .and (.t 4) (.k (.int .u64 6148914691236517205))⟩,
  ⟨some 6, none, .mv (.t 0)⟩,
  ⟨some 7, none, .bin .and (.t 6) (.k (.int .u64 6148914691236517205))⟩,
  ⟨some 8, none, .bin .add (.t 5) (.t 7)⟩,
  ⟨some 0, none, .mv (.t 8)⟩]
def o_math_bits_OnesCount64_2 : List Ab.Op := [
  ⟨some 9, none, .mv (.t 0)⟩,
  ⟨some 10, none, .bin .shr (.t 9) (.k (.int .u64 2))⟩,
  ⟨some 11, none, .bin .and (.t 10) (.k (.int .u64 3689348814741910323))⟩,
  ⟨some 12, none, .mv (.t 0)⟩,
  ⟨some 13, none, .bin .and (.t 12) (.k (.int .u64 3689348814741910323))⟩,
  ⟨some 14, none, .bin .add (.t 11) (.t 13)⟩,
  ⟨some 0, none, .mv (.t 14)⟩]
def o_math_bits_OnesCount64_3 : List Ab.Op := [
  ⟨some 15, none, .mv (.t 0)⟩,
  ⟨some 16, none, .bin .shr (.t 15) (.k (.int .u64 4))⟩,
  ⟨some 17, none, .mv (.t 0)⟩,
  ⟨some 18, none, .bin .add (.t 16) (.t 17)⟩,
  ⟨some 19, none, .bin .and (.t 18) (.k (.int .u64 1085102592571150095))⟩,
  ⟨some 0, none, .mv (.t 19)⟩]
def o_math_bits_OnesCount64_4 : List Ab.Op := [
  ⟨some 20, none, .mv (.t 0)⟩,
  ⟨some 21, none, .mv (.t 0)⟩,
  ⟨some 22, none, .bin .shr (.t 21) (.k (.int .u64 8))⟩,
  ⟨some 23, none, .bin .add (.t 20) (.t 22)⟩,
  ⟨some 0, none, .mv (.t 23)⟩]
def o_math_bits_OnesCount64_5 : List Ab.Op := [
  ⟨some 24, none, .mv (.t 0)⟩,
  ⟨some 25, none, .mv (.t 0)⟩,
  ⟨some 26, none, .bin .shr (.t 25) (.k (.int .u64 16))⟩,
  ⟨some 27, none, .bin .add (.t 24) (.t 26)⟩,
  ⟨some 0, none, .mv (.t 27)⟩]
def o_math_bits_OnesCount64_6 : List Ab.Op := [
  ⟨some 28, none, .mv (.t 0)⟩,
  ⟨some 29, none, .mv (.t 0)⟩,
  ⟨some 30, none, .bin .shr (.t 29) (.k (.int .u64 32))⟩,
  ⟨some 31, none, .bin .add (.t 28) (.t 30)⟩,
  ⟨some 0, none, .mv (.t 31)⟩]
def o_math_bits_OnesCount64_7 : List Ab.Op := [
  ⟨some 32, none, .mv (.t 0)⟩,
  ⟨some 33, none, .conv .i64 (.t 32)⟩,
  ⟨some 34, none, .bin .and (.t 33) (.k (.int .i64 127))⟩,
  ⟨some 2, none, .mv (.t 34)⟩]
/-- math/bits.OnesCount64 -/
@[go_sem] def fc_math_bits_OnesCount64 : Fc := ⟨1,
  .seq ((.reg (some [0]) o_math_bits_OnesCount64_0)) (
  .seq ((.reg (some [0]) o_math_bits_OnesCount64_1)) (
  .seq ((.reg (some [0]) o_math_bits_OnesCount64_2)) (
  .seq ((.reg (some [0]) o_math_bits_OnesCount64_3)) (
  .seq ((.reg (some [0]) o_math_bits_OnesCount64_4)) (
  .seq ((.reg (some [0]) o_math_bits_OnesCount64_5)) (
  .seq ((.reg (some [0]) o_math_bits_OnesCount64_6)) (
  .seq ((.reg (some [2]) o_math_bits_OnesCount64_7)) (
  .ret)))))))),
  [.t 2]⟩
def o_frames_Frames_in_0 : List Ab.Op := [
  ⟨some 6, none, .mv (.k (.int .i64 0))⟩]
def o_frames_Frames_in_1 : List Ab.Op := [
  ⟨some 7, none, .mv (.t 0)⟩,
  ⟨some 8, none, .mv (.t 1)⟩,
  ⟨some 9, none, .call (.k (.fn f_frames_Frames_State [])) [(.t 7), (.t 8)]⟩]
def o_frames_Frames_in_2 : List Ab.Op := [
  ⟨some 11, none, .bin .eql (.t 9) (.k (.int .i64 (-1)))⟩,
  ⟨some 10, none, .mv (.t 11)⟩]
def o_frames_Frames_in_3 : List Ab.Op := [
  ⟨some 6, none, .mv (.k (.int .i64 1))⟩]
def o_frames_Frames_in_4 : List Ab.Op := [
  ⟨some 13, none, .mv (.t 2)⟩,
  ⟨some 14, none, .bin .eql (.t 9) (.t 13)⟩,
  ⟨some 12, none, .mv (.t 14)⟩]
def o_frames_Frames_in_5 : List Ab.Op := [
  ⟨some 6, none, .mv (.k (.int .i64 0))⟩]
def o_frames_Frames_in_6 : List Ab.Op := [
  ⟨some 6, none, .mv (.k (.int .i64 3))⟩]
/-- (*steadfast/frames.Frames).in -/
@[go_sem] def fc_frames_Frames_in : Fc := ⟨3,
  .seq ((.reg (some [0, 1, 2]) o_frames_Frames_in_0)) (
  .seq (.seq ((.reg (some [2, 9]) o_frames_Frames_in_1)) (
  .block 0 (
    .seq ((.reg (some [2, 9, 10]) o_frames_Frames_in_2)) (
    .cond (.t 10) (
      .seq ((.reg (some [6]) o_frames_Frames_in_3)) (
      .ret)) (
      .seq ((.reg (some [12]) o_frames_Frames_in_4)) (
      .cond (.t 12) (
        .seq ((.reg (some [6]) o_frames_Frames_in_5)) (
        .ret)) (
        .skip))))))) (
  .seq ((.reg (some [6]) o_frames_Frames_in_6)) (
  .ret))),
  [.t 6]⟩
def o_frames_set_has_0 : List Ab.Op := [
  ⟨some 4, none, .mv (.k (.bool false))⟩]
def o_frames_set_has_1 : List Ab.Op := [
  ⟨some 5, none, .mv (.t 0)⟩,
  ⟨some 6, none, .mv (.t 1)⟩,
  ⟨some 7, none, .bin .quo (.t 6) (.k (.int .i64 64))⟩,
  ⟨some 8, none, .nilc (.t 5)⟩,
  ⟨some 9, none, .iad 78 16 18 (.t 8) (.t 7)⟩,
  ⟨some 10, none, .ld 18 (.t 9)⟩,
  ⟨some 11, none, .mv (.t 1)⟩,
  ⟨some 12, none, .bin .rem (.t 11) (.k (.int .i64 64))⟩,
  ⟨some 13, none, .bin .shr (.t 10) (.t 12)⟩,
  ⟨some 14, none, .bin .and (.t 13) (.k (.int .u64 1))⟩,
  ⟨some 15, none, .bin .eql (.t 14) (.k (.int .u64 1))⟩,
  ⟨some 4, none, .mv (.t 15)⟩]
/-- (*steadfast/frames.set).has -/
@[go_sem] def fc_frames_set_has : Fc := ⟨2,
  .seq ((.reg (some [0, 1]) o_frames_set_has_0)) (
  .seq ((.reg (some [4]) o_frames_set_has_1)) (
  .ret)),
  [.t 4]⟩
def o_steadfastref04_Frames_turn_0 : List Ab.Op := [
  ⟨some 8, none, .mv (.k (.int .i64 0))⟩]
def o_steadfastref04_Frames_turn_1 : List Ab.Op := [
  ⟨some 10, none, .mv (.t 0)⟩,
  ⟨some 11, none, .mv (.t 1)⟩,
  ⟨some 12, none, .call (.k (.fn f_steadfastref04_Frames_State [])) [(.t 10), (.t 11)]⟩,
  ⟨some 9, none, .mv (.t 12)⟩]
def o_steadfastref04_Frames_turn_2 : List Ab.Op := [
  ⟨some 13, none, .mv (.t 9)⟩,
  ⟨some 14, none, .bin .lss (.t 13) (.k (.int .i64 0))⟩]
def o_steadfastref04_Frames_turn_3 : List Ab.Op := [
  ⟨some 8, none, .mv (.k (.int .i64 1))⟩]
def o_steadfastref04_Frames_turn_4 : List Ab.Op := [
  ⟨some 15, none, .mv (.t 9)⟩,
  ⟨some 16, none, .mv (.t 2)⟩,
  ⟨some 17, none, .bin .neq (.t 15) (.t 16)⟩]
def o_steadfastref04_Frames_turn_5 : List Ab.Op := [
  ⟨some 8, none, .mv (.k (.int .i64 3))⟩]
def o_steadfastref04_Frames_turn_6 : List Ab.Op := [
  ⟨some 18, none, .mv (.t 0)⟩,
  ⟨some 19, none, .nilc (.t 18)⟩,
  ⟨some 20, none, .fad 21 1 1 (.t 19)⟩,
  ⟨some 21, none, .ld 1 (.t 20)⟩,
  ⟨some 22, none, .mv (.t 1)⟩,
  ⟨some 23, none, .mv (.t 0)⟩,
  ⟨some 24, none, .nilc (.t 23)⟩,
  ⟨some 25, none, .fad 21 0 10 (.t 24)⟩,
  ⟨some 26, none, .ld 10 (.t 25)⟩,
  ⟨some 27, none, .bin .sub (.t 22) (.t 26)⟩,
  ⟨some 28, none, .mv (.t 3)⟩,
  ⟨some 29, none, .sad 10 (.t 21) (.t 27)⟩,
  ⟨none, none, .st 10 (.t 29) (.t 28)⟩]
def o_steadfastref04_Frames_turn_7 : List Ab.Op := [
  ⟨some 8, none, .mv (.k (.int .i64 0))⟩]
/-- (*steadfast/steadfastref04.Frames).turn -/
@[go_sem] def fc_steadfastref04_Frames_turn : Fc := ⟨4,
  .seq ((.reg (some [0, 1, 2, 3]) o_steadfastref04_Frames_turn_0)) (
  .seq ((.reg (some [0, 1, 2, 3, 9]) o_steadfastref04_Frames_turn_1)) (
  .seq (.seq ((.reg (some [0, 1, 2, 3, 9, 14]) o_steadfastref04_Frames_turn_2)) (
  .cond (.t 14) (
    .seq ((.reg (some [8]) o_steadfastref04_Frames_turn_3)) (
    .ret)) (
    .skip))) (
  .seq (.seq ((.reg (some [0, 1, 3, 17]) o_steadfastref04_Frames_turn_4)) (
  .cond (.t 17) (
    .seq ((.reg (some [8]) o_steadfastref04_Frames_turn_5)) (
    .ret)) (
    .skip))) (
  .seq ((.regd (some []) o_steadfastref04_Frames_turn_6)) (
  .seq ((.reg (some [8]) o_steadfastref04_Frames_turn_7)) (
  .ret)))))),
  [.t 8]⟩
def D : Nat → Option Fc
  | 3 => some fc_steadfastlaw04_FramesOnce
  | 4 => some fc_steadfastlaw04_FramesSettled
  | 5 => some fc_steadfastlaw04_FramesLeft
  | 6 => some fc_steadfastlaw04_FramesFirst
  | 7 => some fc_steadfastlaw04_FramesPlay
  | 8 => some fc_steadfastlaw04_shown
  | 9 => some fc_frames_New
  | 10 => some fc_steadfastlaw04_kind
  | 11 => some fc_frames_Frames_Alloc
  | 12 => some fc_frames_Frames_Left
  | 13 => some fc_frames_Frames_Free
  | 14 => some fc_frames_Frames_Later
  | 15 => some fc_frames_Frames_Settle
  | 16 => some fc_frames_Frames_State
  | 17 => some fc_frames_Frames_Take
  | 18 => some fc_steadfastref04_New
  | 19 => some fc_steadfastref04_Frames_Alloc
  | 20 => some fc_steadfastref04_Frames_Take
  | 21 => some fc_steadfastref04_Frames_Free
  | 22 => some fc_steadfastref04_Frames_Later
  | 23 => some fc_steadfastref04_Frames_Settle
  | 24 => some fc_frames_Frames_Clone
  | 25 => some fc_steadfastref04_Frames_Left
  | 26 => some fc_steadfastref04_Frames_State
  | 27 => some fc_frames_set_turn
  | 28 => some fc_math_bits_TrailingZeros64
  | 29 => some fc_math_bits_OnesCount64
  | 30 => some fc_frames_Frames_in
  | 31 => some fc_frames_set_has
  | 32 => some fc_steadfastref04_Frames_turn
  | _ => none
theorem D_steadfastlaw04_FramesOnce : D f_steadfastlaw04_FramesOnce = some fc_steadfastlaw04_FramesOnce := rfl
theorem D_steadfastlaw04_FramesSettled : D f_steadfastlaw04_FramesSettled = some fc_steadfastlaw04_FramesSettled := rfl
theorem D_steadfastlaw04_FramesLeft : D f_steadfastlaw04_FramesLeft = some fc_steadfastlaw04_FramesLeft := rfl
theorem D_steadfastlaw04_FramesFirst : D f_steadfastlaw04_FramesFirst = some fc_steadfastlaw04_FramesFirst := rfl
theorem D_steadfastlaw04_FramesPlay : D f_steadfastlaw04_FramesPlay = some fc_steadfastlaw04_FramesPlay := rfl
theorem D_steadfastlaw04_shown : D f_steadfastlaw04_shown = some fc_steadfastlaw04_shown := rfl
theorem D_frames_New : D f_frames_New = some fc_frames_New := rfl
theorem D_steadfastlaw04_kind : D f_steadfastlaw04_kind = some fc_steadfastlaw04_kind := rfl
theorem D_frames_Frames_Alloc : D f_frames_Frames_Alloc = some fc_frames_Frames_Alloc := rfl
theorem D_frames_Frames_Left : D f_frames_Frames_Left = some fc_frames_Frames_Left := rfl
theorem D_frames_Frames_Free : D f_frames_Frames_Free = some fc_frames_Frames_Free := rfl
theorem D_frames_Frames_Later : D f_frames_Frames_Later = some fc_frames_Frames_Later := rfl
theorem D_frames_Frames_Settle : D f_frames_Frames_Settle = some fc_frames_Frames_Settle := rfl
theorem D_frames_Frames_State : D f_frames_Frames_State = some fc_frames_Frames_State := rfl
theorem D_frames_Frames_Take : D f_frames_Frames_Take = some fc_frames_Frames_Take := rfl
theorem D_steadfastref04_New : D f_steadfastref04_New = some fc_steadfastref04_New := rfl
theorem D_steadfastref04_Frames_Alloc : D f_steadfastref04_Frames_Alloc = some fc_steadfastref04_Frames_Alloc := rfl
theorem D_steadfastref04_Frames_Take : D f_steadfastref04_Frames_Take = some fc_steadfastref04_Frames_Take := rfl
theorem D_steadfastref04_Frames_Free : D f_steadfastref04_Frames_Free = some fc_steadfastref04_Frames_Free := rfl
theorem D_steadfastref04_Frames_Later : D f_steadfastref04_Frames_Later = some fc_steadfastref04_Frames_Later := rfl
theorem D_steadfastref04_Frames_Settle : D f_steadfastref04_Frames_Settle = some fc_steadfastref04_Frames_Settle := rfl
theorem D_frames_Frames_Clone : D f_frames_Frames_Clone = some fc_frames_Frames_Clone := rfl
theorem D_steadfastref04_Frames_Left : D f_steadfastref04_Frames_Left = some fc_steadfastref04_Frames_Left := rfl
theorem D_steadfastref04_Frames_State : D f_steadfastref04_Frames_State = some fc_steadfastref04_Frames_State := rfl
theorem D_frames_set_turn : D f_frames_set_turn = some fc_frames_set_turn := rfl
theorem D_math_bits_TrailingZeros64 : D f_math_bits_TrailingZeros64 = some fc_math_bits_TrailingZeros64 := rfl
theorem D_math_bits_OnesCount64 : D f_math_bits_OnesCount64 = some fc_math_bits_OnesCount64 := rfl
theorem D_frames_Frames_in : D f_frames_Frames_in = some fc_frames_Frames_in := rfl
theorem D_frames_set_has : D f_frames_set_has = some fc_frames_set_has := rfl
theorem D_steadfastref04_Frames_turn : D f_steadfastref04_Frames_turn = some fc_steadfastref04_Frames_turn := rfl
@[go_sem] noncomputable def R_steadfastlaw04_FramesOnce_0 (_base : Nat) (s : St) (v0 : V) : Option (Ex × Env × St) :=
  some (.normal, [(0, v0)], s)
@[go_sem] theorem rc_steadfastlaw04_FramesOnce_0 {base : Nat} {ρ : Env} {s : St} : rc D base (.reg (some [0]) o_steadfastlaw04_FramesOnce_0) ρ s = R_steadfastlaw04_FramesOnce_0 base s (get ρ 0) := rc_reg_O.trans (by kernel_rfl)
@[go_sem] noncomputable def R_steadfastlaw04_FramesOnce_1 (_base : Nat) (s : St) (v0 : V) : Option (Ex × Env × St) :=
  obind (rf D f_steadfastlaw04_shown [] s) fun x0 =>
  some (.normal, [(0, v0), (3, x0.1)], x0.2)
@[go_sem] theorem rc_steadfastlaw04_FramesOnce_1 {base : Nat} {ρ : Env} {s : St} : rc D base (.reg (some [0, 3]) o_steadfastlaw04_FramesOnce_1) ρ s = R_steadfastlaw04_FramesOnce_1 base s (get ρ 0) := rc_reg_O.trans (by kernel_rfl)
@[go_sem] noncomputable def R_steadfastlaw04_FramesOnce_2 (_base : Nat) (s : St) (v0 v3 : V) : Option (Ex × Env × St) :=
  obind (rf D f_frames_New [(.int .i64 4), (.int .i64 20)] s) fun x0 =>
  obind (extv 0 x0.1) fun x1 =>
  obind (extv 1 x0.1) fun _x2 =>
  some (.normal, [(0, v0), (3, v3), (4, x1)], x0.2)
@[go_sem] theorem rc_steadfastlaw04_FramesOnce_2 {base : Nat} {ρ : Env} {s : St} : rc D base (.reg (some [0, 3, 4]) o_steadfastlaw04_FramesOnce_2) ρ s = R_steadfastlaw04_FramesOnce_2 base s (get ρ 0) (get ρ 3) := rc_reg_O.trans (by kernel_rfl)
@[go_sem] noncomputable def R_steadfastlaw04_FramesOnce_3 (_base : Nat) (s : St) (v0 v3 v4 : V) : Option (Ex × Env × St) :=
  obind (vun .not v3) fun x0 =>
  oguard x0 false (
    obind (eqv false 1 v4 .nilp) fun x1 =>
    some (.normal, [(0, v0), (4, v4), (22, x1)], s)) (
    some (.normal, [(0, v0), (4, v4), (22, (.bool true))], s)) (
    none)
@[go_sem] theorem rc_steadfastlaw04_FramesOnce_3 {base : Nat} {ρ : Env} {s : St} : rc D base (.reg (some [0, 4, 22]) o_steadfastlaw04_FramesOnce_3) ρ s = R_steadfastlaw04_FramesOnce_3 base s (get ρ 0) (get ρ 3) (get ρ 4) := rc_reg_O.trans (by kernel_rfl)
@[go_sem] noncomputable def R_steadfastlaw04_FramesOnce_4 (_base : Nat) (s : St) : Option (Ex × Env × St) :=
  some (.normal, [(2, (.bool false))], s)
@[go_sem] theorem rc_steadfastlaw04_FramesOnce_4 {base : Nat} {ρ : Env} {s : St} : rc D base (.reg (some [2]) o_steadfastlaw04_FramesOnce_4) ρ s = R_steadfastlaw04_FramesOnce_4 base s := rc_reg_O.trans (by kernel_rfl)
@[go_sem] noncomputable def R_steadfastlaw04_FramesOnce_5 (_base : Nat) (s : St) (v0 v4 : V) : Option (Ex × Env × St) :=
  obind (mkslv false 20 0 (.bool false) s (.int .i64 20) (.int .i64 20)) fun x0 =>
  some (.normal, [(0, v0), (4, v4), (6, x0.1)], x0.2)
@[go_sem] theorem rc_steadfastlaw04_FramesOnce_5 {base : Nat} {ρ : Env} {s : St} : rc D base (.reg (some [0, 4, 6]) o_steadfastlaw04_FramesOnce_5) ρ s = R_steadfastlaw04_FramesOnce_5 base s (get ρ 0) (get ρ 4) := rc_reg_O.trans (by kernel_rfl)
@[go_sem] noncomputable def R_steadfastlaw04_FramesOnce_6 (_base : Nat) (s : St) (v0 v4 v6 : V) : Option (Ex × Env × St) :=
  some (.normal, [(0, v0), (4, v4), (6, v6), (7, (.int .i64 0))], s)
@[go_sem] theorem rc_steadfastlaw04_FramesOnce_6 {base : Nat} {ρ : Env} {s : St} : rc D base (.reg (some [0, 4, 6, 7]) o_steadfastlaw04_FramesOnce_6) ρ s = R_steadfastlaw04_FramesOnce_6 base s (get ρ 0) (get ρ 4) (get ρ 6) := rc_reg_O.trans (by kernel_rfl)
@[go_sem] noncomputable def R_steadfastlaw04_FramesOnce_7 (_base : Nat) (s : St) (v0 v4 v6 v7 : V) : Option (Ex × Env × St) :=
  obind (V.slen false v0) fun x0 =>
  obind (vbin .lss v7 (.int .i64 x0)) fun x1 =>
  oguard x1 true (
    obind (vbin .lss v7 (.int .i64 150)) fun x2 =>
    some (.normal, [(0, v0), (4, v4), (6, v6), (7, v7), (31, x2)], s)) (
    some (.normal, [(0, v0), (4, v4), (6, v6), (7, v7), (31, (.bool false))], s)) (
    none)
@[go_sem] theorem rc_steadfastlaw04_FramesOnce_7 {base : Nat} {ρ : Env} {s : St} : rc D base (.reg (some [0, 4, 6, 7, 31]) o_steadfastlaw04_FramesOnce_7) ρ s = R_steadfastlaw04_FramesOnce_7 base s (get ρ 0) (get ρ 4) (get ρ 6) (get ρ 7) := rc_reg_O.trans (by kernel_rfl)
@[go_sem] noncomputable def R_steadfastlaw04_FramesOnce_8 (_base : Nat) (s : St) (v0 v4 v6 v7 : V) : Option (Ex × Env × St) :=
  obind (sadv 34 v0 v7) fun x0 =>
  obind (fadv 34 1 10 x0) fun x1 =>
  obind (ldv s 10 x1) fun x2 =>
  obind (rf D f_steadfastlaw04_kind [x2, (.int .i64 16)] s) fun x3 =>
  obind (vbin .add (.int .i64 4) x3.1) fun x4 =>
  some (.normal, [(0, v0), (4, v4), (6, v6), (7, v7), (8, x4)], x3.2)
@[go_sem] theorem rc_steadfastlaw04_FramesOnce_8 {base : Nat} {ρ : Env} {s : St} : rc D base (.reg (some [0, 4, 6, 7, 8]) o_steadfastlaw04_FramesOnce_8) ρ s = R_steadfastlaw04_FramesOnce_8 base s (get ρ 0) (get ρ 4) (get ρ 6) (get ρ 7) := rc_reg_O.trans (by kernel_rfl)
@[go_sem] noncomputable def R_steadfastlaw04_FramesOnce_9 (_base : Nat) (s : St) (v0 v4 v6 v7 v8 : V) : Option (Ex × Env × St) :=
  obind (sadv 34 v0 v7) fun x0 =>
  obind (fadv 34 0 10 x0) fun x1 =>
  obind (ldv s 10 x1) fun x2 =>
  obind (rf D f_steadfastlaw04_kind [x2, (.int .i64 5)] s) fun x3 =>
  some (.normal, [(0, v0), (4, v4), (6, v6), (7, v7), (8, v8), (46, x3.1)], x3.2)
@[go_sem] theorem rc_steadfastlaw04_FramesOnce_9 {base : Nat} {ρ : Env} {s : St} : rc D base (.reg (some [0, 4, 6, 7, 8, 46]) o_steadfastlaw04_FramesOnce_9) ρ s = R_steadfastlaw04_FramesOnce_9 base s (get ρ 0) (get ρ 4) (get ρ 6) (get ρ 7) (get ρ 8) := rc_reg_O.trans (by kernel_rfl)
@[go_sem] noncomputable def R_steadfastlaw04_FramesOnce_10 (_base : Nat) (s : St) (v0 v4 v6 v7 v8 v46 : V) : Option (Ex × Env × St) :=
  obind (vbin .eql v46 (.int .i64 0)) fun x0 =>
  some (.normal, [(0, v0), (4, v4), (6, v6), (7, v7), (8, v8), (46, v46), (47, x0)], s)
@[go_sem] theorem rc_steadfastlaw04_FramesOnce_10 {base : Nat} {ρ : Env} {s : St} : rc D base (.reg (some [0, 4, 6, 7, 8, 46, 47]) o_steadfastlaw04_FramesOnce_10) ρ s = R_steadfastlaw04_FramesOnce_10 base s (get ρ 0) (get ρ 4) (get ρ 6) (get ρ 7) (get ρ 8) (get ρ 46) := rc_reg_O.trans (by kernel_rfl)
@[go_sem] noncomputable def R_steadfastlaw04_FramesOnce_11 (_base : Nat) (s : St) (v0 v4 v6 v7 v8 v46 : V) : Option (Ex × Env × St) :=
  obind (vbin .eql v46 (.int .i64 1)) fun x0 =>
  some (.normal, [(0, v0), (4, v4), (6, v6), (7, v7), (8, v8), (46, v46), (47, x0)], s)
@[go_sem] theorem rc_steadfastlaw04_FramesOnce_11 {base : Nat} {ρ : Env} {s : St} : rc D base (.reg (some [0, 4, 6, 7, 8, 46, 47]) o_steadfastlaw04_FramesOnce_11) ρ s = R_steadfastlaw04_FramesOnce_11 base s (get ρ 0) (get ρ 4) (get ρ 6) (get ρ 7) (get ρ 8) (get ρ 46) := rc_reg_O.trans (by kernel_rfl)
@[go_sem] noncomputable def R_steadfastlaw04_FramesOnce_12 (_base : Nat) (s : St) (v0 v4 v6 v7 : V) : Option (Ex × Env × St) :=
  obind (rf D f_frames_Frames_Alloc [v4] s) fun x0 =>
  obind (extv 0 x0.1) fun x1 =>
  obind (extv 1 x0.1) fun x2 =>
  some (.normal, [(0, v0), (4, v4), (6, v6), (7, v7), (9, x1), (10, x2)], x0.2)
@[go_sem] theorem rc_steadfastlaw04_FramesOnce_12 {base : Nat} {ρ : Env} {s : St} : rc D base (.reg (some [0, 4, 6, 7, 9, 10]) o_steadfastlaw04_FramesOnce_12) ρ s = R_steadfastlaw04_FramesOnce_12 base s (get ρ 0) (get ρ 4) (get ρ 6) (get ρ 7) := rc_reg_O.trans (by kernel_rfl)
@[go_sem] noncomputable def R_steadfastlaw04_FramesOnce_13 (_base : Nat) (s : St) (v0 v4 v6 v7 v9 v10 : V) : Option (Ex × Env × St) :=
  obind (vbin .neq v10 (.int .i64 0)) fun x0 =>
  some (.normal, [(0, v0), (4, v4), (6, v6), (7, v7), (9, v9), (56, x0)], s)
@[go_sem] theorem rc_steadfastlaw04_FramesOnce_13 {base : Nat} {ρ : Env} {s : St} : rc D base (.reg (some [0, 4, 6, 7, 9, 56]) o_steadfastlaw04_FramesOnce_13) ρ s = R_steadfastlaw04_FramesOnce_13 base s (get ρ 0) (get ρ 4) (get ρ 6) (get ρ 7) (get ρ 9) (get ρ 10) := rc_reg_O.trans (by kernel_rfl)
@[go_sem] noncomputable def R_steadfastlaw04_FramesOnce_14 (_base : Nat) (s : St) (v0 v4 v6 v7 : V) : Option (Ex × Env × St) :=
  obind (rf D f_frames_Frames_Left [v4] s) fun x0 =>
  obind (vbin .neq x0.1 (.int .i64 0)) fun x1 =>
  some (.normal, [(0, v0), (4, v4), (6, v6), (7, v7), (59, x1)], x0.2)
@[go_sem] theorem rc_steadfastlaw04_FramesOnce_14 {base : Nat} {ρ : Env} {s : St} : rc D base (.reg (some [0, 4, 6, 7, 59]) o_steadfastlaw04_FramesOnce_14) ρ s = R_steadfastlaw04_FramesOnce_14 base s (get ρ 0) (get ρ 4) (get ρ 6) (get ρ 7) := rc_reg_O.trans (by kernel_rfl)
@[go_sem] noncomputable def R_steadfastlaw04_FramesOnce_15 (_base : Nat) (s : St) : Option (Ex × Env × St) :=
  some (.normal, [(2, (.bool false))], s)
@[go_sem] theorem rc_steadfastlaw04_FramesOnce_15 {base : Nat} {ρ : Env} {s : St} : rc D base (.reg (some [2]) o_steadfastlaw04_FramesOnce_15) ρ s = R_steadfastlaw04_FramesOnce_15 base s := rc_reg_O.trans (by kernel_rfl)
@[go_sem] noncomputable def R_steadfastlaw04_FramesOnce_16 (_base : Nat) (s : St) (v0 v4 v6 v7 v9 : V) : Option (Ex × Env × St) :=
  obind (vbin .lss v9 (.int .i64 4)) fun x0 =>
  oguard x0 false (
    obind (vbin .gtr v9 (.int .i64 19)) fun x1 =>
    oguard x1 false (
      obind (sadv 0 v6 v9) fun x2 =>
      obind (ldv s 0 x2) fun x3 =>
      some (.normal, [(0, v0), (4, v4), (6, v6), (7, v7), (9, v9), (71, x3)], s)) (
      some (.normal, [(0, v0), (4, v4), (6, v6), (7, v7), (9, v9), (71, (.bool true))], s)) (
      none)) (
    some (.normal, [(0, v0), (4, v4), (6, v6), (7, v7), (9, v9), (71, (.bool true))], s)) (
    none)
@[go_sem] theorem rc_steadfastlaw04_FramesOnce_16 {base : Nat} {ρ : Env} {s : St} : rc D base (.reg (some [0, 4, 6, 7, 9, 71]) o_steadfastlaw04_FramesOnce_16) ρ s = R_steadfastlaw04_FramesOnce_16 base s (get ρ 0) (get ρ 4) (get ρ 6) (get ρ 7) (get ρ 9) := rc_reg_O.trans (by kernel_rfl)
@[go_sem] noncomputable def R_steadfastlaw04_FramesOnce_17 (_base : Nat) (s : St) : Option (Ex × Env × St) :=
  some (.normal, [(2, (.bool false))], s)
@[go_sem] theorem rc_steadfastlaw04_FramesOnce_17 {base : Nat} {ρ : Env} {s : St} : rc D base (.reg (some [2]) o_steadfastlaw04_FramesOnce_17) ρ s = R_steadfastlaw04_FramesOnce_17 base s := rc_reg_O.trans (by kernel_rfl)
@[go_sem] noncomputable def R_steadfastlaw04_FramesOnce_18 (base : Nat) (s : St) (v0 v4 v6 v7 v9 : V) : Option (Ex × Env × St) :=
  obind (sadv 0 v6 v9) fun x0 =>
  obind (stv base s 0 (.bool true) x0) fun s1 =>
  some (.normal, [(0, v0), (4, v4), (6, v6), (7, v7)], s1)
@[go_sem] theorem rc_steadfastlaw04_FramesOnce_18 {base : Nat} {ρ : Env} {s : St} : rc D base (.reg (some [0, 4, 6, 7]) o_steadfastlaw04_FramesOnce_18) ρ s = R_steadfastlaw04_FramesOnce_18 base s (get ρ 0) (get ρ 4) (get ρ 6) (get ρ 7) (get ρ 9) := rc_reg_O.trans (by kernel_rfl)
@[go_sem] noncomputable def R_steadfastlaw04_FramesOnce_19 (_base : Nat) (s : St) (v0 v4 v6 v7 v8 v46 : V) : Option (Ex × Env × St) :=
  obind (vbin .eql v46 (.int .i64 2)) fun x0 =>
  some (.normal, [(0, v0), (4, v4), (6, v6), (7, v7), (8, v8), (46, v46), (75, x0)], s)
@[go_sem] theorem rc_steadfastlaw04_FramesOnce_19 {base : Nat} {ρ : Env} {s : St} : rc D base (.reg (some [0, 4, 6, 7, 8, 46, 75]) o_steadfastlaw04_FramesOnce_19) ρ s = R_steadfastlaw04_FramesOnce_19 base s (get ρ 0) (get ρ 4) (get ρ 6) (get ρ 7) (get ρ 8) (get ρ 46) := rc_reg_O.trans (by kernel_rfl)
@[go_sem] noncomputable def R_steadfastlaw04_FramesOnce_20 (_base : Nat) (s : St) (v0 v4 v6 v7 v8 : V) : Option (Ex × Env × St) :=
  obind (rf D f_frames_Frames_Free [v4, v8] s) fun x0 =>
  obind (vbin .eql x0.1 (.int .i64 0)) fun x1 =>
  some (.normal, [(0, v0), (4, v4), (6, v6), (7, v7), (8, v8), (80, x1)], x0.2)
@[go_sem] theorem rc_steadfastlaw04_FramesOnce_20 {base : Nat} {ρ : Env} {s : St} : rc D base (.reg (some [0, 4, 6, 7, 8, 80]) o_steadfastlaw04_FramesOnce_20) ρ s = R_steadfastlaw04_FramesOnce_20 base s (get ρ 0) (get ρ 4) (get ρ 6) (get ρ 7) (get ρ 8) := rc_reg_O.trans (by kernel_rfl)
@[go_sem] noncomputable def R_steadfastlaw04_FramesOnce_21 (_base : Nat) (s : St) (v0 v4 v6 v7 v8 : V) : Option (Ex × Env × St) :=
  obind (sadv 0 v6 v8) fun x0 =>
  obind (ldv s 0 x0) fun x1 =>
  obind (vun .not x1) fun x2 =>
  some (.normal, [(0, v0), (4, v4), (6, v6), (7, v7), (8, v8), (85, x2)], s)
@[go_sem] theorem rc_steadfastlaw04_FramesOnce_21 {base : Nat} {ρ : Env} {s : St} : rc D base (.reg (some [0, 4, 6, 7, 8, 85]) o_steadfastlaw04_FramesOnce_21) ρ s = R_steadfastlaw04_FramesOnce_21 base s (get ρ 0) (get ρ 4) (get ρ 6) (get ρ 7) (get ρ 8) := rc_reg_O.trans (by kernel_rfl)
@[go_sem] noncomputable def R_steadfastlaw04_FramesOnce_22 (_base : Nat) (s : St) : Option (Ex × Env × St) :=
  some (.normal, [(2, (.bool false))], s)
@[go_sem] theorem rc_steadfastlaw04_FramesOnce_22 {base : Nat} {ρ : Env} {s : St} : rc D base (.reg (some [2]) o_steadfastlaw04_FramesOnce_22) ρ s = R_steadfastlaw04_FramesOnce_22 base s := rc_reg_O.trans (by kernel_rfl)
@[go_sem] noncomputable def R_steadfastlaw04_FramesOnce_23 (base : Nat) (s : St) (v0 v4 v6 v7 v8 : V) : Option (Ex × Env × St) :=
  obind (sadv 0 v6 v8) fun x0 =>
  obind (stv base s 0 (.bool false) x0) fun s1 =>
  some (.normal, [(0, v0), (4, v4), (6, v6), (7, v7)], s1)
@[go_sem] theorem rc_steadfastlaw04_FramesOnce_23 {base : Nat} {ρ : Env} {s : St} : rc D base (.reg (some [0, 4, 6, 7]) o_steadfastlaw04_FramesOnce_23) ρ s = R_steadfastlaw04_FramesOnce_23 base s (get ρ 0) (get ρ 4) (get ρ 6) (get ρ 7) (get ρ 8) := rc_reg_O.trans (by kernel_rfl)
@[go_sem] noncomputable def R_steadfastlaw04_FramesOnce_24 (_base : Nat) (s : St) (v0 v4 v6 v7 v8 v46 : V) : Option (Ex × Env × St) :=
  obind (vbin .eql v46 (.int .i64 3)) fun x0 =>
  some (.normal, [(0, v0), (4, v4), (6, v6), (7, v7), (8, v8), (46, v46), (89, x0)], s)
@[go_sem] theorem rc_steadfastlaw04_FramesOnce_24 {base : Nat} {ρ : Env} {s : St} : rc D base (.reg (some [0, 4, 6, 7, 8, 46, 89]) o_steadfastlaw04_FramesOnce_24) ρ s = R_steadfastlaw04_FramesOnce_24 base s (get ρ 0) (get ρ 4) (get ρ 6) (get ρ 7) (get ρ 8) (get ρ 46) := rc_reg_O.trans (by kernel_rfl)
@[go_sem] noncomputable def R_steadfastlaw04_FramesOnce_25 (_base : Nat) (s : St) (v0 v4 v6 v7 v8 : V) : Option (Ex × Env × St) :=
  obind (rf D f_frames_Frames_Later [v4, v8] s) fun x0 =>
  some (.normal, [(0, v0), (4, v4), (6, v6), (7, v7)], x0.2)
@[go_sem] theorem rc_steadfastlaw04_FramesOnce_25 {base : Nat} {ρ : Env} {s : St} : rc D base (.reg (some [0, 4, 6, 7]) o_steadfastlaw04_FramesOnce_25) ρ s = R_steadfastlaw04_FramesOnce_25 base s (get ρ 0) (get ρ 4) (get ρ 6) (get ρ 7) (get ρ 8) := rc_reg_O.trans (by kernel_rfl)
@[go_sem] noncomputable def R_steadfastlaw04_FramesOnce_26 (_base : Nat) (s : St) (v0 v4 v6 v7 v46 : V) : Option (Ex × Env × St) :=
  obind (vbin .eql v46 (.int .i64 4)) fun x0 =>
  some (.normal, [(0, v0), (4, v4), (6, v6), (7, v7), (94, x0)], s)
@[go_sem] theorem rc_steadfastlaw04_FramesOnce_26 {base : Nat} {ρ : Env} {s : St} : rc D base (.reg (some [0, 4, 6, 7, 94]) o_steadfastlaw04_FramesOnce_26) ρ s = R_steadfastlaw04_FramesOnce_26 base s (get ρ 0) (get ρ 4) (get ρ 6) (get ρ 7) (get ρ 46) := rc_reg_O.trans (by kernel_rfl)
@[go_sem] noncomputable def R_steadfastlaw04_FramesOnce_27 (_base : Nat) (s : St) (v0 v4 v6 v7 : V) : Option (Ex × Env × St) :=
  obind (rf D f_frames_Frames_Settle [v4] s) fun x0 =>
  some (.normal, [(0, v0), (4, v4), (6, v6), (7, v7)], x0.2)
@[go_sem] theorem rc_steadfastlaw04_FramesOnce_27 {base : Nat} {ρ : Env} {s : St} : rc D base (.reg (some [0, 4, 6, 7]) o_steadfastlaw04_FramesOnce_27) ρ s = R_steadfastlaw04_FramesOnce_27 base s (get ρ 0) (get ρ 4) (get ρ 6) (get ρ 7) := rc_reg_O.trans (by kernel_rfl)
@[go_sem] noncomputable def R_steadfastlaw04_FramesOnce_28 (_base : Nat) (s : St) (v0 v4 v6 v7 : V) : Option (Ex × Env × St) :=
  some (.normal, [(0, v0), (4, v4), (6, v6), (7, v7), (11, (.int .i64 4))], s)
@[go_sem] theorem rc_steadfastlaw04_FramesOnce_28 {base : Nat} {ρ : Env} {s : St} : rc D base (.reg (some [0, 4, 6, 7, 11]) o_steadfastlaw04_FramesOnce_28) ρ s = R_steadfastlaw04_FramesOnce_28 base s (get ρ 0) (get ρ 4) (get ρ 6) (get ρ 7) := rc_reg_O.trans (by kernel_rfl)
@[go_sem] noncomputable def R_steadfastlaw04_FramesOnce_29 (_base : Nat) (s : St) (v0 v4 v6 v7 v11 : V) : Option (Ex × Env × St) :=
  obind (vbin .lss v11 (.int .i64 20)) fun x0 =>
  some (.normal, [(0, v0), (4, v4), (6, v6), (7, v7), (11, v11), (99, x0)], s)
@[go_sem] theorem rc_steadfastlaw04_FramesOnce_29 {base : Nat} {ρ : Env} {s : St} : rc D base (.reg (some [0, 4, 6, 7, 11, 99]) o_steadfastlaw04_FramesOnce_29) ρ s = R_steadfastlaw04_FramesOnce_29 base s (get ρ 0) (get ρ 4) (get ρ 6) (get ρ 7) (get ρ 11) := rc_reg_O.trans (by kernel_rfl)
@[go_sem] noncomputable def R_steadfastlaw04_FramesOnce_30 (_base : Nat) (s : St) (v0 v4 v6 v7 v11 : V) : Option (Ex × Env × St) :=
  obind (rf D f_frames_Frames_State [v4, v11] s) fun x0 =>
  obind (vbin .eql x0.1 (.int .i64 0)) fun x1 =>
  some (.normal, [(0, v0), (4, v4), (6, v6), (7, v7), (11, v11), (105, x1)], x0.2)
@[go_sem] theorem rc_steadfastlaw04_FramesOnce_30 {base : Nat} {ρ : Env} {s : St} : rc D base (.reg (some [0, 4, 6, 7, 11, 105]) o_steadfastlaw04_FramesOnce_30) ρ s = R_steadfastlaw04_FramesOnce_30 base s (get ρ 0) (get ρ 4) (get ρ 6) (get ρ 7) (get ρ 11) := rc_reg_O.trans (by kernel_rfl)
@[go_sem] noncomputable def R_steadfastlaw04_FramesOnce_31 (base : Nat) (s : St) (v0 v4 v6 v7 v11 : V) : Option (Ex × Env × St) :=
  obind (sadv 0 v6 v11) fun x0 =>
  obind (stv base s 0 (.bool false) x0) fun s1 =>
  some (.normal, [(0, v0), (4, v4), (6, v6), (7, v7), (11, v11)], s1)
@[go_sem] theorem rc_steadfastlaw04_FramesOnce_31 {base : Nat} {ρ : Env} {s : St} : rc D base (.reg (some [0, 4, 6, 7, 11]) o_steadfastlaw04_FramesOnce_31) ρ s = R_steadfastlaw04_FramesOnce_31 base s (get ρ 0) (get ρ 4) (get ρ 6) (get ρ 7) (get ρ 11) := rc_reg_O.trans (by kernel_rfl)
@[go_sem] noncomputable def R_steadfastlaw04_FramesOnce_32 (_base : Nat) (s : St) (v0 v4 v6 v7 v11 : V) : Option (Ex × Env × St) :=
  obind (vbin .add v11 (.int .i64 1)) fun x0 =>
  some (.normal, [(0, v0), (4, v4), (6, v6), (7, v7), (11, x0)], s)
@[go_sem] theorem rc_steadfastlaw04_FramesOnce_32 {base : Nat} {ρ : Env} {s : St} : rc D base (.reg (some [0, 4, 6, 7, 11]) o_steadfastlaw04_FramesOnce_32) ρ s = R_steadfastlaw04_FramesOnce_32 base s (get ρ 0) (get ρ 4) (get ρ 6) (get ρ 7) (get ρ 11) := rc_reg_O.trans (by kernel_rfl)
@[go_sem] noncomputable def R_steadfastlaw04_FramesOnce_33 (_base : Nat) (s : St) (v0 v4 v6 v7 : V) : Option (Ex × Env × St) :=
  obind (vbin .add v7 (.int .i64 1)) fun x0 =>
  some (.normal, [(0, v0), (4, v4), (6, v6), (7, x0)], s)
@[go_sem] theorem rc_steadfastlaw04_FramesOnce_33 {base : Nat} {ρ : Env} {s : St} : rc D base (.reg (some [0, 4, 6, 7]) o_steadfastlaw04_FramesOnce_33) ρ s = R_steadfastlaw04_FramesOnce_33 base s (get ρ 0) (get ρ 4) (get ρ 6) (get ρ 7) := rc_reg_O.trans (by kernel_rfl)
@[go_sem] noncomputable def R_steadfastlaw04_FramesOnce_34 (_base : Nat) (s : St) : Option (Ex × Env × St) :=
  some (.normal, [(2, (.bool true))], s)
@[go_sem] theorem rc_steadfastlaw04_FramesOnce_34 {base : Nat} {ρ : Env} {s : St} : rc D base (.reg (some [2]) o_steadfastlaw04_FramesOnce_34) ρ s = R_steadfastlaw04_FramesOnce_34 base s := rc_reg_O.trans (by kernel_rfl)

@[go_sem] noncomputable def R_steadfastlaw04_FramesSettled_0 (_base : Nat) (s : St) (v0 : V) : Option (Ex × Env × St) :=
  some (.normal, [(0, v0)], s)
@[go_sem] theorem rc_steadfastlaw04_FramesSettled_0 {base : Nat} {ρ : Env} {s : St} : rc D base (.reg (some [0]) o_steadfastlaw04_FramesSettled_0) ρ s = R_steadfastlaw04_FramesSettled_0 base s (get ρ 0) := rc_reg_O.trans (by kernel_rfl)
@[go_sem] noncomputable def R_steadfastlaw04_FramesSettled_1 (_base : Nat) (s : St) (v0 : V) : Option (Ex × Env × St) :=
  obind (rf D f_steadfastlaw04_shown [] s) fun x0 =>
  some (.normal, [(0, v0), (3, x0.1)], x0.2)
@[go_sem] theorem rc_steadfastlaw04_FramesSettled_1 {base : Nat} {ρ : Env} {s : St} : rc D base (.reg (some [0, 3]) o_steadfastlaw04_FramesSettled_1) ρ s = R_steadfastlaw04_FramesSettled_1 base s (get ρ 0) := rc_reg_O.trans (by kernel_rfl)
@[go_sem] noncomputable def R_steadfastlaw04_FramesSettled_2 (_base : Nat) (s : St) (v0 v3 : V) : Option (Ex × Env × St) :=
  obind (rf D f_frames_New [(.int .i64 0), (.int .i64 32)] s) fun x0 =>
  obind (extv 0 x0.1) fun x1 =>
  obind (extv 1 x0.1) fun _x2 =>
  some (.normal, [(0, v0), (3, v3), (4, x1)], x0.2)
@[go_sem] theorem rc_steadfastlaw04_FramesSettled_2 {base : Nat} {ρ : Env} {s : St} : rc D base (.reg (some [0, 3, 4]) o_steadfastlaw04_FramesSettled_2) ρ s = R_steadfastlaw04_FramesSettled_2 base s (get ρ 0) (get ρ 3) := rc_reg_O.trans (by kernel_rfl)
@[go_sem] noncomputable def R_steadfastlaw04_FramesSettled_3 (_base : Nat) (s : St) (v0 v3 v4 : V) : Option (Ex × Env × St) :=
  obind (vun .not v3) fun x0 =>
  oguard x0 false (
    obind (eqv false 1 v4 .nilp) fun x1 =>
    some (.normal, [(0, v0), (4, v4), (22, x1)], s)) (
    some (.normal, [(0, v0), (4, v4), (22, (.bool true))], s)) (
    none)
@[go_sem] theorem rc_steadfastlaw04_FramesSettled_3 {base : Nat} {ρ : Env} {s : St} : rc D base (.reg (some [0, 4, 22]) o_steadfastlaw04_FramesSettled_3) ρ s = R_steadfastlaw04_FramesSettled_3 base s (get ρ 0) (get ρ 3) (get ρ 4) := rc_reg_O.trans (by kernel_rfl)
@[go_sem] noncomputable def R_steadfastlaw04_FramesSettled_4 (_base : Nat) (s : St) : Option (Ex × Env × St) :=
  some (.normal, [(2, (.bool false))], s)
@[go_sem] theorem rc_steadfastlaw04_FramesSettled_4 {base : Nat} {ρ : Env} {s : St} : rc D base (.reg (some [2]) o_steadfastlaw04_FramesSettled_4) ρ s = R_steadfastlaw04_FramesSettled_4 base s := rc_reg_O.trans (by kernel_rfl)
@[go_sem] noncomputable def R_steadfastlaw04_FramesSettled_5 (_base : Nat) (s : St) (v0 v4 : V) : Option (Ex × Env × St) :=
  some (.normal, [(0, v0), (4, v4), (6, (.int .i64 0))], s)
@[go_sem] theorem rc_steadfastlaw04_FramesSettled_5 {base : Nat} {ρ : Env} {s : St} : rc D base (.reg (some [0, 4, 6]) o_steadfastlaw04_FramesSettled_5) ρ s = R_steadfastlaw04_FramesSettled_5 base s (get ρ 0) (get ρ 4) := rc_reg_O.trans (by kernel_rfl)
@[go_sem] noncomputable def R_steadfastlaw04_FramesSettled_6 (_base : Nat) (s : St) (v0 v4 v6 : V) : Option (Ex × Env × St) :=
  obind (vbin .lss v6 (.int .i64 32)) fun x0 =>
  some (.normal, [(0, v0), (4, v4), (6, v6), (24, x0)], s)
@[go_sem] theorem rc_steadfastlaw04_FramesSettled_6 {base : Nat} {ρ : Env} {s : St} : rc D base (.reg (some [0, 4, 6, 24]) o_steadfastlaw04_FramesSettled_6) ρ s = R_steadfastlaw04_FramesSettled_6 base s (get ρ 0) (get ρ 4) (get ρ 6) := rc_reg_O.trans (by kernel_rfl)
@[go_sem] noncomputable def R_steadfastlaw04_FramesSettled_7 (_base : Nat) (s : St) (v0 v4 v6 : V) : Option (Ex × Env × St) :=
  obind (rf D f_frames_Frames_Alloc [v4] s) fun x0 =>
  some (.normal, [(0, v0), (4, v4), (6, v6)], x0.2)
@[go_sem] theorem rc_steadfastlaw04_FramesSettled_7 {base : Nat} {ρ : Env} {s : St} : rc D base (.reg (some [0, 4, 6]) o_steadfastlaw04_FramesSettled_7) ρ s = R_steadfastlaw04_FramesSettled_7 base s (get ρ 0) (get ρ 4) (get ρ 6) := rc_reg_O.trans (by kernel_rfl)
@[go_sem] noncomputable def R_steadfastlaw04_FramesSettled_8 (_base : Nat) (s : St) (v0 v4 v6 : V) : Option (Ex × Env × St) :=
  obind (vbin .add v6 (.int .i64 1)) fun x0 =>
  some (.normal, [(0, v0), (4, v4), (6, x0)], s)
@[go_sem] theorem rc_steadfastlaw04_FramesSettled_8 {base : Nat} {ρ : Env} {s : St} : rc D base (.reg (some [0, 4, 6]) o_steadfastlaw04_FramesSettled_8) ρ s = R_steadfastlaw04_FramesSettled_8 base s (get ρ 0) (get ρ 4) (get ρ 6) := rc_reg_O.trans (by kernel_rfl)
@[go_sem] noncomputable def R_steadfastlaw04_FramesSettled_9 (_base : Nat) (s : St) (v0 v4 : V) : Option (Ex × Env × St) :=
  some (.normal, [(0, v0), (4, v4), (7, (.int .i64 0))], s)
@[go_sem] theorem rc_steadfastlaw04_FramesSettled_9 {base : Nat} {ρ : Env} {s : St} : rc D base (.reg (some [0, 4, 7]) o_steadfastlaw04_FramesSettled_9) ρ s = R_steadfastlaw04_FramesSettled_9 base s (get ρ 0) (get ρ 4) := rc_reg_O.trans (by kernel_rfl)
@[go_sem] noncomputable def R_steadfastlaw04_FramesSettled_10 (_base : Nat) (s : St) (v0 v4 v7 : V) : Option (Ex × Env × St) :=
  some (.normal, [(0, v0), (4, v4), (7, v7), (8, (.int .i64 0))], s)
@[go_sem] theorem rc_steadfastlaw04_FramesSettled_10 {base : Nat} {ρ : Env} {s : St} : rc D base (.reg (some [0, 4, 7, 8]) o_steadfastlaw04_FramesSettled_10) ρ s = R_steadfastlaw04_FramesSettled_10 base s (get ρ 0) (get ρ 4) (get ρ 7) := rc_reg_O.trans (by kernel_rfl)
@[go_sem] noncomputable def R_steadfastlaw04_FramesSettled_11 (_base : Nat) (s : St) (v0 v4 v7 v8 : V) : Option (Ex × Env × St) :=
  obind (vbin .lss v8 (.int .i64 32)) fun x0 =>
  some (.normal, [(0, v0), (4, v4), (7, v7), (8, v8), (30, x0)], s)
@[go_sem] theorem rc_steadfastlaw04_FramesSettled_11 {base : Nat} {ρ : Env} {s : St} : rc D base (.reg (some [0, 4, 7, 8, 30]) o_steadfastlaw04_FramesSettled_11) ρ s = R_steadfastlaw04_FramesSettled_11 base s (get ρ 0) (get ρ 4) (get ρ 7) (get ρ 8) := rc_reg_O.trans (by kernel_rfl)
@[go_sem] noncomputable def R_steadfastlaw04_FramesSettled_12 (_base : Nat) (s : St) (v0 v4 v7 v8 : V) : Option (Ex × Env × St) :=
  obind (vbin .shr v0 v8) fun x0 =>
  obind (vbin .and x0 (.int .u64 1)) fun x1 =>
  obind (vbin .eql x1 (.int .u64 1)) fun x2 =>
  some (.normal, [(0, v0), (4, v4), (7, v7), (8, v8), (37, x2)], s)
@[go_sem] theorem rc_steadfastlaw04_FramesSettled_12 {base : Nat} {ρ : Env} {s : St} : rc D base (.reg (some [0, 4, 7, 8, 37]) o_steadfastlaw04_FramesSettled_12) ρ s = R_steadfastlaw04_FramesSettled_12 base s (get ρ 0) (get ρ 4) (get ρ 7) (get ρ 8) := rc_reg_O.trans (by kernel_rfl)
@[go_sem] noncomputable def R_steadfastlaw04_FramesSettled_13 (_base : Nat) (s : St) (v0 v4 v7 v8 : V) : Option (Ex × Env × St) :=
  obind (vbin .add v7 (.int .i64 1)) fun x0 =>
  some (.normal, [(0, v0), (4, v4), (7, x0), (8, v8)], s)
@[go_sem] theorem rc_steadfastlaw04_FramesSettled_13 {base : Nat} {ρ : Env} {s : St} : rc D base (.reg (some [0, 4, 7, 8]) o_steadfastlaw04_FramesSettled_13) ρ s = R_steadfastlaw04_FramesSettled_13 base s (get ρ 0) (get ρ 4) (get ρ 7) (get ρ 8) := rc_reg_O.trans (by kernel_rfl)
@[go_sem] noncomputable def R_steadfastlaw04_FramesSettled_14 (_base : Nat) (s : St) (v0 v4 v7 v8 : V) : Option (Ex × Env × St) :=
  obind (rf D f_frames_Frames_Later [v4, v8] s) fun x0 =>
  obind (vbin .neq x0.1 (.int .i64 0)) fun x1 =>
  oguard x1 false (
    obind (rf D f_frames_Frames_Later [v4, v8] x0.2) fun x2 =>
    obind (vbin .neq x2.1 (.int .i64 3)) fun x3 =>
    oguard x3 false (
      obind (rf D f_frames_Frames_State [v4, v8] x2.2) fun x4 =>
      obind (vbin .neq x4.1 (.int .i64 2)) fun x5 =>
      some (.normal, [(0, v0), (4, v4), (7, v7), (8, v8), (55, x5)], x4.2)) (
      some (.normal, [(0, v0), (4, v4), (7, v7), (8, v8), (55, (.bool true))], x2.2)) (
      none)) (
    some (.normal, [(0, v0), (4, v4), (7, v7), (8, v8), (55, (.bool true))], x0.2)) (
    none)
@[go_sem] theorem rc_steadfastlaw04_FramesSettled_14 {base : Nat} {ρ : Env} {s : St} : rc D base (.reg (some [0, 4, 7, 8, 55]) o_steadfastlaw04_FramesSettled_14) ρ s = R_steadfastlaw04_FramesSettled_14 base s (get ρ 0) (get ρ 4) (get ρ 7) (get ρ 8) := rc_reg_O.trans (by kernel_rfl)
@[go_sem] noncomputable def R_steadfastlaw04_FramesSettled_15 (_base : Nat) (s : St) : Option (Ex × Env × St) :=
  some (.normal, [(2, (.bool false))], s)
@[go_sem] theorem rc_steadfastlaw04_FramesSettled_15 {base : Nat} {ρ : Env} {s : St} : rc D base (.reg (some [2]) o_steadfastlaw04_FramesSettled_15) ρ s = R_steadfastlaw04_FramesSettled_15 base s := rc_reg_O.trans (by kernel_rfl)
@[go_sem] noncomputable def R_steadfastlaw04_FramesSettled_16 (_base : Nat) (s : St) (v0 v4 v7 v8 : V) : Option (Ex × Env × St) :=
  obind (vbin .add v8 (.int .i64 1)) fun x0 =>
  some (.normal, [(0, v0), (4, v4), (7, v7), (8, x0)], s)
@[go_sem] theorem rc_steadfastlaw04_FramesSettled_16 {base : Nat} {ρ : Env} {s : St} : rc D base (.reg (some [0, 4, 7, 8]) o_steadfastlaw04_FramesSettled_16) ρ s = R_steadfastlaw04_FramesSettled_16 base s (get ρ 0) (get ρ 4) (get ρ 7) (get ρ 8) := rc_reg_O.trans (by kernel_rfl)
@[go_sem] noncomputable def R_steadfastlaw04_FramesSettled_17 (_base : Nat) (s : St) (v0 v4 v7 : V) : Option (Ex × Env × St) :=
  obind (rf D f_frames_Frames_Alloc [v4] s) fun x0 =>
  obind (extv 0 x0.1) fun _x1 =>
  obind (extv 1 x0.1) fun x2 =>
  some (.normal, [(0, v0), (4, v4), (7, v7), (10, x2)], x0.2)
@[go_sem] theorem rc_steadfastlaw04_FramesSettled_17 {base : Nat} {ρ : Env} {s : St} : rc D base (.reg (some [0, 4, 7, 10]) o_steadfastlaw04_FramesSettled_17) ρ s = R_steadfastlaw04_FramesSettled_17 base s (get ρ 0) (get ρ 4) (get ρ 7) := rc_reg_O.trans (by kernel_rfl)
@[go_sem] noncomputable def R_steadfastlaw04_FramesSettled_18 (_base : Nat) (s : St) (v0 v4 v7 v10 : V) : Option (Ex × Env × St) :=
  obind (rf D f_frames_Frames_Settle [v4] s) fun x0 =>
  some (.normal, [(0, v0), (4, v4), (7, v7), (10, v10)], x0.2)
@[go_sem] theorem rc_steadfastlaw04_FramesSettled_18 {base : Nat} {ρ : Env} {s : St} : rc D base (.reg (some [0, 4, 7, 10]) o_steadfastlaw04_FramesSettled_18) ρ s = R_steadfastlaw04_FramesSettled_18 base s (get ρ 0) (get ρ 4) (get ρ 7) (get ρ 10) := rc_reg_O.trans (by kernel_rfl)
@[go_sem] noncomputable def R_steadfastlaw04_FramesSettled_19 (_base : Nat) (s : St) (v0 v4 v7 v10 : V) : Option (Ex × Env × St) :=
  obind (vbin .neq v10 (.int .i64 10)) fun x0 =>
  oguard x0 false (
    obind (rf D f_frames_Frames_Left [v4] s) fun x1 =>
    obind (vbin .neq x1.1 v7) fun x2 =>
    some (.normal, [(0, v0), (4, v4), (70, x2)], x1.2)) (
    some (.normal, [(0, v0), (4, v4), (70, (.bool true))], s)) (
    none)
@[go_sem] theorem rc_steadfastlaw04_FramesSettled_19 {base : Nat} {ρ : Env} {s : St} : rc D base (.reg (some [0, 4, 70]) o_steadfastlaw04_FramesSettled_19) ρ s = R_steadfastlaw04_FramesSettled_19 base s (get ρ 0) (get ρ 4) (get ρ 7) (get ρ 10) := rc_reg_O.trans (by kernel_rfl)
@[go_sem] noncomputable def R_steadfastlaw04_FramesSettled_20 (_base : Nat) (s : St) : Option (Ex × Env × St) :=
  some (.normal, [(2, (.bool false))], s)
@[go_sem] theorem rc_steadfastlaw04_FramesSettled_20 {base : Nat} {ρ : Env} {s : St} : rc D base (.reg (some [2]) o_steadfastlaw04_FramesSettled_20) ρ s = R_steadfastlaw04_FramesSettled_20 base s := rc_reg_O.trans (by kernel_rfl)
@[go_sem] noncomputable def R_steadfastlaw04_FramesSettled_21 (_base : Nat) (s : St) (v0 v4 : V) : Option (Ex × Env × St) :=
  some (.normal, [(0, v0), (4, v4), (11, (.int .i64 0))], s)
@[go_sem] theorem rc_steadfastlaw04_FramesSettled_21 {base : Nat} {ρ : Env} {s : St} : rc D base (.reg (some [0, 4, 11]) o_steadfastlaw04_FramesSettled_21) ρ s = R_steadfastlaw04_FramesSettled_21 base s (get ρ 0) (get ρ 4) := rc_reg_O.trans (by kernel_rfl)
@[go_sem] noncomputable def R_steadfastlaw04_FramesSettled_22 (_base : Nat) (s : St) (v0 v4 v11 : V) : Option (Ex × Env × St) :=
  obind (vbin .lss v11 (.int .i64 32)) fun x0 =>
  some (.normal, [(0, v0), (4, v4), (11, v11), (72, x0)], s)
@[go_sem] theorem rc_steadfastlaw04_FramesSettled_22 {base : Nat} {ρ : Env} {s : St} : rc D base (.reg (some [0, 4, 11, 72]) o_steadfastlaw04_FramesSettled_22) ρ s = R_steadfastlaw04_FramesSettled_22 base s (get ρ 0) (get ρ 4) (get ρ 11) := rc_reg_O.trans (by kernel_rfl)
@[go_sem] noncomputable def R_steadfastlaw04_FramesSettled_23 (base : Nat) (s : St) (v0 v4 v11 : V) : Option (Ex × Env × St) :=
  obind (pcallw D (pcut base [v4, v11]) base f_frames_Frames_State [v4, v11] s) fun x0 =>
  obind (vbin .eql x0 (.int .i64 0)) fun x1 =>
  obind (vbin .shr v0 v11) fun x2 =>
  obind (vbin .and x2 (.int .u64 1)) fun x3 =>
  obind (vbin .eql x3 (.int .u64 1)) fun x4 =>
  obind (eqv true 0 x1 x4) fun x5 =>
  some (.normal, [(0, v0), (4, v4), (11, v11), (84, x5)], s)
@[go_sem] theorem rc_steadfastlaw04_FramesSettled_23 {base : Nat} {ρ : Env} {s : St} : rc D base (.regd (some [0, 4, 11, 84]) o_steadfastlaw04_FramesSettled_23) ρ s = R_steadfastlaw04_FramesSettled_23 base s (get ρ 0) (get ρ 4) (get ρ 11) := rc_regd_O.trans (by kernel_rfl)
@[go_sem] noncomputable def R_steadfastlaw04_FramesSettled_24 (_base : Nat) (s : St) : Option (Ex × Env × St) :=
  some (.normal, [(2, (.bool false))], s)
@[go_sem] theorem rc_steadfastlaw04_FramesSettled_24 {base : Nat} {ρ : Env} {s : St} : rc D base (.reg (some [2]) o_steadfastlaw04_FramesSettled_24) ρ s = R_steadfastlaw04_FramesSettled_24 base s := rc_reg_O.trans (by kernel_rfl)
@[go_sem] noncomputable def R_steadfastlaw04_FramesSettled_25 (_base : Nat) (s : St) (v0 v4 v11 : V) : Option (Ex × Env × St) :=
  obind (vbin .add v11 (.int .i64 1)) fun x0 =>
  some (.normal, [(0, v0), (4, v4), (11, x0)], s)
@[go_sem] theorem rc_steadfastlaw04_FramesSettled_25 {base : Nat} {ρ : Env} {s : St} : rc D base (.reg (some [0, 4, 11]) o_steadfastlaw04_FramesSettled_25) ρ s = R_steadfastlaw04_FramesSettled_25 base s (get ρ 0) (get ρ 4) (get ρ 11) := rc_reg_O.trans (by kernel_rfl)
@[go_sem] noncomputable def R_steadfastlaw04_FramesSettled_26 (_base : Nat) (s : St) : Option (Ex × Env × St) :=
  some (.normal, [(2, (.bool true))], s)
@[go_sem] theorem rc_steadfastlaw04_FramesSettled_26 {base : Nat} {ρ : Env} {s : St} : rc D base (.reg (some [2]) o_steadfastlaw04_FramesSettled_26) ρ s = R_steadfastlaw04_FramesSettled_26 base s := rc_reg_O.trans (by kernel_rfl)

@[go_sem] noncomputable def R_steadfastlaw04_FramesLeft_0 (_base : Nat) (s : St) (v0 v1 : V) : Option (Ex × Env × St) :=
  some (.normal, [(0, v0), (1, v1)], s)
@[go_sem] theorem rc_steadfastlaw04_FramesLeft_0 {base : Nat} {ρ : Env} {s : St} : rc D base (.reg (some [0, 1]) o_steadfastlaw04_FramesLeft_0) ρ s = R_steadfastlaw04_FramesLeft_0 base s (get ρ 0) (get ρ 1) := rc_reg_O.trans (by kernel_rfl)
@[go_sem] noncomputable def R_steadfastlaw04_FramesLeft_1 (_base : Nat) (s : St) (v0 v1 : V) : Option (Ex × Env × St) :=
  obind (rf D f_steadfastlaw04_shown [] s) fun x0 =>
  some (.normal, [(0, v0), (1, v1), (5, x0.1)], x0.2)
@[go_sem] theorem rc_steadfastlaw04_FramesLeft_1 {base : Nat} {ρ : Env} {s : St} : rc D base (.reg (some [0, 1, 5]) o_steadfastlaw04_FramesLeft_1) ρ s = R_steadfastlaw04_FramesLeft_1 base s (get ρ 0) (get ρ 1) := rc_reg_O.trans (by kernel_rfl)
@[go_sem] noncomputable def R_steadfastlaw04_FramesLeft_2 (_base : Nat) (s : St) (v0 v1 v5 : V) : Option (Ex × Env × St) :=
  obind (rf D f_frames_New [(.int .i64 0), (.int .i64 16)] s) fun x0 =>
  obind (extv 0 x0.1) fun x1 =>
  obind (extv 1 x0.1) fun _x2 =>
  some (.normal, [(0, v0), (1, v1), (5, v5), (6, x1)], x0.2)
@[go_sem] theorem rc_steadfastlaw04_FramesLeft_2 {base : Nat} {ρ : Env} {s : St} : rc D base (.reg (some [0, 1, 5, 6]) o_steadfastlaw04_FramesLeft_2) ρ s = R_steadfastlaw04_FramesLeft_2 base s (get ρ 0) (get ρ 1) (get ρ 5) := rc_reg_O.trans (by kernel_rfl)
@[go_sem] noncomputable def R_steadfastlaw04_FramesLeft_3 (_base : Nat) (s : St) (v0 v1 v5 v6 : V) : Option (Ex × Env × St) :=
  obind (vun .not v5) fun x0 =>
  oguard x0 false (
    obind (eqv false 1 v6 .nilp) fun x1 =>
    some (.normal, [(0, v0), (1, v1), (6, v6), (26, x1)], s)) (
    some (.normal, [(0, v0), (1, v1), (6, v6), (26, (.bool true))], s)) (
    none)
@[go_sem] theorem rc_steadfastlaw04_FramesLeft_3 {base : Nat} {ρ : Env} {s : St} : rc D base (.reg (some [0, 1, 6, 26]) o_steadfastlaw04_FramesLeft_3) ρ s = R_steadfastlaw04_FramesLeft_3 base s (get ρ 0) (get ρ 1) (get ρ 5) (get ρ 6) := rc_reg_O.trans (by kernel_rfl)
@[go_sem] noncomputable def R_steadfastlaw04_FramesLeft_4 (_base : Nat) (s : St) : Option (Ex × Env × St) :=
  some (.normal, [(4, (.bool false))], s)
@[go_sem] theorem rc_steadfastlaw04_FramesLeft_4 {base : Nat} {ρ : Env} {s : St} : rc D base (.reg (some [4]) o_steadfastlaw04_FramesLeft_4) ρ s = R_steadfastlaw04_FramesLeft_4 base s := rc_reg_O.trans (by kernel_rfl)
@[go_sem] noncomputable def R_steadfastlaw04_FramesLeft_5 (_base : Nat) (s : St) (v0 v1 v6 : V) : Option (Ex × Env × St) :=
  obind (rf D f_steadfastlaw04_kind [v0, (.int .i64 17)] s) fun x0 =>
  some (.normal, [(1, v1), (6, v6), (8, x0.1)], x0.2)
@[go_sem] theorem rc_steadfastlaw04_FramesLeft_5 {base : Nat} {ρ : Env} {s : St} : rc D base (.reg (some [1, 6, 8]) o_steadfastlaw04_FramesLeft_5) ρ s = R_steadfastlaw04_FramesLeft_5 base s (get ρ 0) (get ρ 1) (get ρ 6) := rc_reg_O.trans (by kernel_rfl)
@[go_sem] noncomputable def R_steadfastlaw04_FramesLeft_6 (_base : Nat) (s : St) (v1 v6 v8 : V) : Option (Ex × Env × St) :=
  some (.normal, [(1, v1), (6, v6), (8, v8), (9, (.int .i64 0))], s)
@[go_sem] theorem rc_steadfastlaw04_FramesLeft_6 {base : Nat} {ρ : Env} {s : St} : rc D base (.reg (some [1, 6, 8, 9]) o_steadfastlaw04_FramesLeft_6) ρ s = R_steadfastlaw04_FramesLeft_6 base s (get ρ 1) (get ρ 6) (get ρ 8) := rc_reg_O.trans (by kernel_rfl)
@[go_sem] noncomputable def R_steadfastlaw04_FramesLeft_7 (_base : Nat) (s : St) (v1 v6 v8 v9 : V) : Option (Ex × Env × St) :=
  obind (vbin .lss v9 v8) fun x0 =>
  some (.normal, [(1, v1), (6, v6), (8, v8), (9, v9), (31, x0)], s)
@[go_sem] theorem rc_steadfastlaw04_FramesLeft_7 {base : Nat} {ρ : Env} {s : St} : rc D base (.reg (some [1, 6, 8, 9, 31]) o_steadfastlaw04_FramesLeft_7) ρ s = R_steadfastlaw04_FramesLeft_7 base s (get ρ 1) (get ρ 6) (get ρ 8) (get ρ 9) := rc_reg_O.trans (by kernel_rfl)
@[go_sem] noncomputable def R_steadfastlaw04_FramesLeft_8 (_base : Nat) (s : St) (v1 v6 v8 v9 : V) : Option (Ex × Env × St) :=
  obind (rf D f_frames_Frames_Alloc [v6] s) fun x0 =>
  obind (extv 0 x0.1) fun x1 =>
  obind (extv 1 x0.1) fun x2 =>
  some (.normal, [(1, v1), (6, v6), (8, v8), (9, v9), (10, x1), (11, x2)], x0.2)
@[go_sem] theorem rc_steadfastlaw04_FramesLeft_8 {base : Nat} {ρ : Env} {s : St} : rc D base (.reg (some [1, 6, 8, 9, 10, 11]) o_steadfastlaw04_FramesLeft_8) ρ s = R_steadfastlaw04_FramesLeft_8 base s (get ρ 1) (get ρ 6) (get ρ 8) (get ρ 9) := rc_reg_O.trans (by kernel_rfl)
@[go_sem] noncomputable def R_steadfastlaw04_FramesLeft_9 (_base : Nat) (s : St) (v1 v6 v8 v9 v10 v11 : V) : Option (Ex × Env × St) :=
  obind (vbin .neq v11 (.int .i64 0)) fun x0 =>
  oguard x0 false (
    obind (vbin .neq v10 v9) fun x1 =>
    oguard x1 false (
      obind (rf D f_frames_Frames_Left [v6] s) fun x2 =>
      obind (vbin .sub (.int .i64 15) v9) fun x3 =>
      obind (vbin .neq x2.1 x3) fun x4 =>
      some (.normal, [(1, v1), (6, v6), (8, v8), (9, v9), (52, x4)], x2.2)) (
      some (.normal, [(1, v1), (6, v6), (8, v8), (9, v9), (52, (.bool true))], s)) (
      none)) (
    some (.normal, [(1, v1), (6, v6), (8, v8), (9, v9), (52, (.bool true))], s)) (
    none)
@[go_sem] theorem rc_steadfastlaw04_FramesLeft_9 {base : Nat} {ρ : Env} {s : St} : rc D base (.reg (some [1, 6, 8, 9, 52]) o_steadfastlaw04_FramesLeft_9) ρ s = R_steadfastlaw04_FramesLeft_9 base s (get ρ 1) (get ρ 6) (get ρ 8) (get ρ 9) (get ρ 10) (get ρ 11) := rc_reg_O.trans (by kernel_rfl)
@[go_sem] noncomputable def R_steadfastlaw04_FramesLeft_10 (_base : Nat) (s : St) : Option (Ex × Env × St) :=
  some (.normal, [(4, (.bool false))], s)
@[go_sem] theorem rc_steadfastlaw04_FramesLeft_10 {base : Nat} {ρ : Env} {s : St} : rc D base (.reg (some [4]) o_steadfastlaw04_FramesLeft_10) ρ s = R_steadfastlaw04_FramesLeft_10 base s := rc_reg_O.trans (by kernel_rfl)
@[go_sem] noncomputable def R_steadfastlaw04_FramesLeft_11 (_base : Nat) (s : St) (v1 v6 v8 v9 : V) : Option (Ex × Env × St) :=
  obind (vbin .add v9 (.int .i64 1)) fun x0 =>
  some (.normal, [(1, v1), (6, v6), (8, v8), (9, x0)], s)
@[go_sem] theorem rc_steadfastlaw04_FramesLeft_11 {base : Nat} {ρ : Env} {s : St} : rc D base (.reg (some [1, 6, 8, 9]) o_steadfastlaw04_FramesLeft_11) ρ s = R_steadfastlaw04_FramesLeft_11 base s (get ρ 1) (get ρ 6) (get ρ 8) (get ρ 9) := rc_reg_O.trans (by kernel_rfl)
@[go_sem] noncomputable def R_steadfastlaw04_FramesLeft_12 (_base : Nat) (s : St) (v1 v6 v8 : V) : Option (Ex × Env × St) :=
  obind (vbin .eql v8 (.int .i64 0)) fun x0 =>
  some (.normal, [(1, v1), (6, v6), (8, v8), (54, x0)], s)
@[go_sem] theorem rc_steadfastlaw04_FramesLeft_12 {base : Nat} {ρ : Env} {s : St} : rc D base (.reg (some [1, 6, 8, 54]) o_steadfastlaw04_FramesLeft_12) ρ s = R_steadfastlaw04_FramesLeft_12 base s (get ρ 1) (get ρ 6) (get ρ 8) := rc_reg_O.trans (by kernel_rfl)
@[go_sem] noncomputable def R_steadfastlaw04_FramesLeft_13 (_base : Nat) (s : St) (v6 : V) : Option (Ex × Env × St) :=
  obind (rf D f_frames_Frames_Free [v6, (.int .i64 0)] s) fun x0 =>
  obind (vbin .eql x0.1 (.int .i64 3)) fun x1 =>
  some (.normal, [(4, x1)], x0.2)
@[go_sem] theorem rc_steadfastlaw04_FramesLeft_13 {base : Nat} {ρ : Env} {s : St} : rc D base (.reg (some [4]) o_steadfastlaw04_FramesLeft_13) ρ s = R_steadfastlaw04_FramesLeft_13 base s (get ρ 6) := rc_reg_O.trans (by kernel_rfl)
@[go_sem] noncomputable def R_steadfastlaw04_FramesLeft_14 (_base : Nat) (s : St) (v1 v6 v8 : V) : Option (Ex × Env × St) :=
  obind (rf D f_steadfastlaw04_kind [v1, v8] s) fun x0 =>
  some (.normal, [(6, v6), (8, v8), (12, x0.1)], x0.2)
@[go_sem] theorem rc_steadfastlaw04_FramesLeft_14 {base : Nat} {ρ : Env} {s : St} : rc D base (.reg (some [6, 8, 12]) o_steadfastlaw04_FramesLeft_14) ρ s = R_steadfastlaw04_FramesLeft_14 base s (get ρ 1) (get ρ 6) (get ρ 8) := rc_reg_O.trans (by kernel_rfl)
@[go_sem] noncomputable def R_steadfastlaw04_FramesLeft_15 (_base : Nat) (s : St) (v6 v8 v12 : V) : Option (Ex × Env × St) :=
  obind (rf D f_frames_Frames_Later [v6, v12] s) fun x0 =>
  some (.normal, [(6, v6), (8, v8), (12, v12), (13, x0.1)], x0.2)
@[go_sem] theorem rc_steadfastlaw04_FramesLeft_15 {base : Nat} {ρ : Env} {s : St} : rc D base (.reg (some [6, 8, 12, 13]) o_steadfastlaw04_FramesLeft_15) ρ s = R_steadfastlaw04_FramesLeft_15 base s (get ρ 6) (get ρ 8) (get ρ 12) := rc_reg_O.trans (by kernel_rfl)
@[go_sem] noncomputable def R_steadfastlaw04_FramesLeft_16 (_base : Nat) (s : St) (v6 v8 v12 v13 : V) : Option (Ex × Env × St) :=
  obind (rf D f_frames_Frames_Left [v6] s) fun x0 =>
  some (.normal, [(6, v6), (8, v8), (12, v12), (13, v13), (14, x0.1)], x0.2)
@[go_sem] theorem rc_steadfastlaw04_FramesLeft_16 {base : Nat} {ρ : Env} {s : St} : rc D base (.reg (some [6, 8, 12, 13, 14]) o_steadfastlaw04_FramesLeft_16) ρ s = R_steadfastlaw04_FramesLeft_16 base s (get ρ 6) (get ρ 8) (get ρ 12) (get ρ 13) := rc_reg_O.trans (by kernel_rfl)
@[go_sem] noncomputable def R_steadfastlaw04_FramesLeft_17 (_base : Nat) (s : St) (v6 v8 v12 v13 v14 : V) : Option (Ex × Env × St) :=
  obind (rf D f_frames_Frames_Free [v6, v12] s) fun x0 =>
  some (.normal, [(6, v6), (8, v8), (12, v12), (13, v13), (14, v14), (15, x0.1)], x0.2)
@[go_sem] theorem rc_steadfastlaw04_FramesLeft_17 {base : Nat} {ρ : Env} {s : St} : rc D base (.reg (some [6, 8, 12, 13, 14, 15]) o_steadfastlaw04_FramesLeft_17) ρ s = R_steadfastlaw04_FramesLeft_17 base s (get ρ 6) (get ρ 8) (get ρ 12) (get ρ 13) (get ρ 14) := rc_reg_O.trans (by kernel_rfl)
@[go_sem] noncomputable def R_steadfastlaw04_FramesLeft_18 (_base : Nat) (s : St) (v6 v8 v12 v13 v14 v15 : V) : Option (Ex × Env × St) :=
  obind (rf D f_frames_Frames_Settle [v6] s) fun x0 =>
  some (.normal, [(6, v6), (8, v8), (12, v12), (13, v13), (14, v14), (15, v15)], x0.2)
@[go_sem] theorem rc_steadfastlaw04_FramesLeft_18 {base : Nat} {ρ : Env} {s : St} : rc D base (.reg (some [6, 8, 12, 13, 14, 15]) o_steadfastlaw04_FramesLeft_18) ρ s = R_steadfastlaw04_FramesLeft_18 base s (get ρ 6) (get ρ 8) (get ρ 12) (get ρ 13) (get ρ 14) (get ρ 15) := rc_reg_O.trans (by kernel_rfl)
@[go_sem] noncomputable def R_steadfastlaw04_FramesLeft_19 (_base : Nat) (s : St) (v6 v8 v12 v13 v14 v15 : V) : Option (Ex × Env × St) :=
  obind (vbin .eql v13 (.int .i64 0)) fun x0 =>
  oguard x0 true (
    obind (vbin .sub (.int .i64 16) v8) fun x1 =>
    obind (vbin .eql v14 x1) fun x2 =>
    oguard x2 true (
      obind (vbin .eql v15 (.int .i64 3)) fun x3 =>
      oguard x3 true (
        obind (rf D f_frames_Frames_Left [v6] s) fun x4 =>
        obind (vbin .sub (.int .i64 17) v8) fun x5 =>
        obind (vbin .eql x4.1 x5) fun x6 =>
        oguard x6 true (
          obind (rf D f_frames_Frames_State [v6, v12] x4.2) fun x7 =>
          obind (vbin .eql x7.1 (.int .i64 0)) fun x8 =>
          oguard x8 true (
            obind (rf D f_frames_Frames_Take [v6, v12] x7.2) fun x9 =>
            obind (vbin .eql x9.1 (.int .i64 0)) fun x10 =>
            oguard x10 true (
              obind (rf D f_frames_Frames_Take [v6, v12] x9.2) fun x11 =>
              obind (vbin .eql x11.1 (.int .i64 3)) fun x12 =>
              some (.normal, [(4, x12)], x11.2)) (
              some (.normal, [(4, (.bool false))], x9.2)) (
              none)) (
            some (.normal, [(4, (.bool false))], x7.2)) (
            none)) (
          some (.normal, [(4, (.bool false))], x4.2)) (
          none)) (
        some (.normal, [(4, (.bool false))], s)) (
        none)) (
      some (.normal, [(4, (.bool false))], s)) (
      none)) (
    some (.normal, [(4, (.bool false))], s)) (
    none)
@[go_sem] theorem rc_steadfastlaw04_FramesLeft_19 {base : Nat} {ρ : Env} {s : St} : rc D base (.reg (some [4]) o_steadfastlaw04_FramesLeft_19) ρ s = R_steadfastlaw04_FramesLeft_19 base s (get ρ 6) (get ρ 8) (get ρ 12) (get ρ 13) (get ρ 14) (get ρ 15) := rc_reg_O.trans (by kernel_rfl)

@[go_sem] noncomputable def R_steadfastlaw04_FramesFirst_0 (_base : Nat) (s : St) (v0 : V) : Option (Ex × Env × St) :=
  some (.normal, [(0, v0)], s)
@[go_sem] theorem rc_steadfastlaw04_FramesFirst_0 {base : Nat} {ρ : Env} {s : St} : rc D base (.reg (some [0]) o_steadfastlaw04_FramesFirst_0) ρ s = R_steadfastlaw04_FramesFirst_0 base s (get ρ 0) := rc_reg_O.trans (by kernel_rfl)
@[go_sem] noncomputable def R_steadfastlaw04_FramesFirst_1 (_base : Nat) (s : St) (v0 : V) : Option (Ex × Env × St) :=
  obind (rf D f_steadfastlaw04_shown [] s) fun x0 =>
  some (.normal, [(0, v0), (3, x0.1)], x0.2)
@[go_sem] theorem rc_steadfastlaw04_FramesFirst_1 {base : Nat} {ρ : Env} {s : St} : rc D base (.reg (some [0, 3]) o_steadfastlaw04_FramesFirst_1) ρ s = R_steadfastlaw04_FramesFirst_1 base s (get ρ 0) := rc_reg_O.trans (by kernel_rfl)
@[go_sem] noncomputable def R_steadfastlaw04_FramesFirst_2 (_base : Nat) (s : St) (v0 v3 : V) : Option (Ex × Env × St) :=
  obind (rf D f_frames_New [(.int .i64 0), (.int .i64 32)] s) fun x0 =>
  obind (extv 0 x0.1) fun x1 =>
  obind (extv 1 x0.1) fun _x2 =>
  some (.normal, [(0, v0), (3, v3), (4, x1)], x0.2)
@[go_sem] theorem rc_steadfastlaw04_FramesFirst_2 {base : Nat} {ρ : Env} {s : St} : rc D base (.reg (some [0, 3, 4]) o_steadfastlaw04_FramesFirst_2) ρ s = R_steadfastlaw04_FramesFirst_2 base s (get ρ 0) (get ρ 3) := rc_reg_O.trans (by kernel_rfl)
@[go_sem] noncomputable def R_steadfastlaw04_FramesFirst_3 (_base : Nat) (s : St) (v0 v3 v4 : V) : Option (Ex × Env × St) :=
  obind (vun .not v3) fun x0 =>
  oguard x0 false (
    obind (eqv false 1 v4 .nilp) fun x1 =>
    some (.normal, [(0, v0), (4, v4), (20, x1)], s)) (
    some (.normal, [(0, v0), (4, v4), (20, (.bool true))], s)) (
    none)
@[go_sem] theorem rc_steadfastlaw04_FramesFirst_3 {base : Nat} {ρ : Env} {s : St} : rc D base (.reg (some [0, 4, 20]) o_steadfastlaw04_FramesFirst_3) ρ s = R_steadfastlaw04_FramesFirst_3 base s (get ρ 0) (get ρ 3) (get ρ 4) := rc_reg_O.trans (by kernel_rfl)
@[go_sem] noncomputable def R_steadfastlaw04_FramesFirst_4 (_base : Nat) (s : St) : Option (Ex × Env × St) :=
  some (.normal, [(2, (.bool false))], s)
@[go_sem] theorem rc_steadfastlaw04_FramesFirst_4 {base : Nat} {ρ : Env} {s : St} : rc D base (.reg (some [2]) o_steadfastlaw04_FramesFirst_4) ρ s = R_steadfastlaw04_FramesFirst_4 base s := rc_reg_O.trans (by kernel_rfl)
@[go_sem] noncomputable def R_steadfastlaw04_FramesFirst_5 (_base : Nat) (s : St) (v0 v4 : V) : Option (Ex × Env × St) :=
  some (.normal, [(0, v0), (4, v4), (6, (.int .i64 (-1)))], s)
@[go_sem] theorem rc_steadfastlaw04_FramesFirst_5 {base : Nat} {ρ : Env} {s : St} : rc D base (.reg (some [0, 4, 6]) o_steadfastlaw04_FramesFirst_5) ρ s = R_steadfastlaw04_FramesFirst_5 base s (get ρ 0) (get ρ 4) := rc_reg_O.trans (by kernel_rfl)
@[go_sem] noncomputable def R_steadfastlaw04_FramesFirst_6 (_base : Nat) (s : St) (v0 v4 v6 : V) : Option (Ex × Env × St) :=
  some (.normal, [(0, v0), (4, v4), (6, v6), (7, (.int .i64 0))], s)
@[go_sem] theorem rc_steadfastlaw04_FramesFirst_6 {base : Nat} {ρ : Env} {s : St} : rc D base (.reg (some [0, 4, 6, 7]) o_steadfastlaw04_FramesFirst_6) ρ s = R_steadfastlaw04_FramesFirst_6 base s (get ρ 0) (get ρ 4) (get ρ 6) := rc_reg_O.trans (by kernel_rfl)
@[go_sem] noncomputable def R_steadfastlaw04_FramesFirst_7 (_base : Nat) (s : St) (v0 v4 v6 v7 : V) : Option (Ex × Env × St) :=
  obind (vbin .lss v7 (.int .i64 32)) fun x0 =>
  some (.normal, [(0, v0), (4, v4), (6, v6), (7, v7), (22, x0)], s)
@[go_sem] theorem rc_steadfastlaw04_FramesFirst_7 {base : Nat} {ρ : Env} {s : St} : rc D base (.reg (some [0, 4, 6, 7, 22]) o_steadfastlaw04_FramesFirst_7) ρ s = R_steadfastlaw04_FramesFirst_7 base s (get ρ 0) (get ρ 4) (get ρ 6) (get ρ 7) := rc_reg_O.trans (by kernel_rfl)
@[go_sem] noncomputable def R_steadfastlaw04_FramesFirst_8 (_base : Nat) (s : St) (v0 v4 v6 v7 : V) : Option (Ex × Env × St) :=
  obind (vbin .shr v0 v7) fun x0 =>
  obind (vbin .and x0 (.int .u64 1)) fun x1 =>
  obind (vbin .eql x1 (.int .u64 1)) fun x2 =>
  some (.normal, [(0, v0), (4, v4), (6, v6), (7, v7), (29, x2)], s)
@[go_sem] theorem rc_steadfastlaw04_FramesFirst_8 {base : Nat} {ρ : Env} {s : St} : rc D base (.reg (some [0, 4, 6, 7, 29]) o_steadfastlaw04_FramesFirst_8) ρ s = R_steadfastlaw04_FramesFirst_8 base s (get ρ 0) (get ρ 4) (get ρ 6) (get ρ 7) := rc_reg_O.trans (by kernel_rfl)
@[go_sem] noncomputable def R_steadfastlaw04_FramesFirst_9 (_base : Nat) (s : St) (v0 v4 v6 v7 : V) : Option (Ex × Env × St) :=
  obind (rf D f_frames_Frames_Take [v4, v7] s) fun x0 =>
  obind (vbin .neq x0.1 (.int .i64 0)) fun x1 =>
  oguard x1 false (
    obind (rf D f_frames_Frames_Take [v4, v7] x0.2) fun x2 =>
    obind (vbin .neq x2.1 (.int .i64 3)) fun x3 =>
    oguard x3 false (
      obind (rf D f_frames_Frames_State [v4, v7] x2.2) fun x4 =>
      obind (vbin .neq x4.1 (.int .i64 1)) fun x5 =>
      some (.normal, [(0, v0), (4, v4), (6, v6), (7, v7), (45, x5)], x4.2)) (
      some (.normal, [(0, v0), (4, v4), (6, v6), (7, v7), (45, (.bool true))], x2.2)) (
      none)) (
    some (.normal, [(0, v0), (4, v4), (6, v6), (7, v7), (45, (.bool true))], x0.2)) (
    none)
@[go_sem] theorem rc_steadfastlaw04_FramesFirst_9 {base : Nat} {ρ : Env} {s : St} : rc D base (.reg (some [0, 4, 6, 7, 45]) o_steadfastlaw04_FramesFirst_9) ρ s = R_steadfastlaw04_FramesFirst_9 base s (get ρ 0) (get ρ 4) (get ρ 6) (get ρ 7) := rc_reg_O.trans (by kernel_rfl)
@[go_sem] noncomputable def R_steadfastlaw04_FramesFirst_10 (_base : Nat) (s : St) : Option (Ex × Env × St) :=
  some (.normal, [(2, (.bool false))], s)
@[go_sem] theorem rc_steadfastlaw04_FramesFirst_10 {base : Nat} {ρ : Env} {s : St} : rc D base (.reg (some [2]) o_steadfastlaw04_FramesFirst_10) ρ s = R_steadfastlaw04_FramesFirst_10 base s := rc_reg_O.trans (by kernel_rfl)
@[go_sem] noncomputable def R_steadfastlaw04_FramesFirst_11 (_base : Nat) (s : St) (v0 v4 v6 v7 : V) : Option (Ex × Env × St) :=
  obind (vbin .lss v6 (.int .i64 0)) fun x0 =>
  some (.normal, [(0, v0), (4, v4), (6, v6), (7, v7), (47, x0)], s)
@[go_sem] theorem rc_steadfastlaw04_FramesFirst_11 {base : Nat} {ρ : Env} {s : St} : rc D base (.reg (some [0, 4, 6, 7, 47]) o_steadfastlaw04_FramesFirst_11) ρ s = R_steadfastlaw04_FramesFirst_11 base s (get ρ 0) (get ρ 4) (get ρ 6) (get ρ 7) := rc_reg_O.trans (by kernel_rfl)
@[go_sem] noncomputable def R_steadfastlaw04_FramesFirst_12 (_base : Nat) (s : St) (v0 v4 v7 : V) : Option (Ex × Env × St) :=
  some (.normal, [(0, v0), (4, v4), (6, v7), (7, v7)], s)
@[go_sem] theorem rc_steadfastlaw04_FramesFirst_12 {base : Nat} {ρ : Env} {s : St} : rc D base (.reg (some [0, 4, 6, 7]) o_steadfastlaw04_FramesFirst_12) ρ s = R_steadfastlaw04_FramesFirst_12 base s (get ρ 0) (get ρ 4) (get ρ 7) := rc_reg_O.trans (by kernel_rfl)
@[go_sem] noncomputable def R_steadfastlaw04_FramesFirst_13 (_base : Nat) (s : St) (v0 v4 v6 v7 : V) : Option (Ex × Env × St) :=
  obind (vbin .add v7 (.int .i64 1)) fun x0 =>
  some (.normal, [(0, v0), (4, v4), (6, v6), (7, x0)], s)
@[go_sem] theorem rc_steadfastlaw04_FramesFirst_13 {base : Nat} {ρ : Env} {s : St} : rc D base (.reg (some [0, 4, 6, 7]) o_steadfastlaw04_FramesFirst_13) ρ s = R_steadfastlaw04_FramesFirst_13 base s (get ρ 0) (get ρ 4) (get ρ 6) (get ρ 7) := rc_reg_O.trans (by kernel_rfl)
@[go_sem] noncomputable def R_steadfastlaw04_FramesFirst_14 (_base : Nat) (s : St) (v4 v6 : V) : Option (Ex × Env × St) :=
  obind (rf D f_frames_Frames_Alloc [v4] s) fun x0 =>
  obind (extv 0 x0.1) fun x1 =>
  obind (extv 1 x0.1) fun x2 =>
  some (.normal, [(4, v4), (6, v6), (8, x1), (9, x2)], x0.2)
@[go_sem] theorem rc_steadfastlaw04_FramesFirst_14 {base : Nat} {ρ : Env} {s : St} : rc D base (.reg (some [4, 6, 8, 9]) o_steadfastlaw04_FramesFirst_14) ρ s = R_steadfastlaw04_FramesFirst_14 base s (get ρ 4) (get ρ 6) := rc_reg_O.trans (by kernel_rfl)
@[go_sem] noncomputable def R_steadfastlaw04_FramesFirst_15 (_base : Nat) (s : St) (v4 v6 v8 v9 : V) : Option (Ex × Env × St) :=
  obind (vbin .lss v6 (.int .i64 0)) fun x0 =>
  some (.normal, [(4, v4), (6, v6), (8, v8), (9, v9), (55, x0)], s)
@[go_sem] theorem rc_steadfastlaw04_FramesFirst_15 {base : Nat} {ρ : Env} {s : St} : rc D base (.reg (some [4, 6, 8, 9, 55]) o_steadfastlaw04_FramesFirst_15) ρ s = R_steadfastlaw04_FramesFirst_15 base s (get ρ 4) (get ρ 6) (get ρ 8) (get ρ 9) := rc_reg_O.trans (by kernel_rfl)
@[go_sem] noncomputable def R_steadfastlaw04_FramesFirst_16 (_base : Nat) (s : St) (v4 v9 : V) : Option (Ex × Env × St) :=
  obind (vbin .eql v9 (.int .i64 10)) fun x0 =>
  oguard x0 true (
    obind (rf D f_frames_Frames_Left [v4] s) fun x1 =>
    obind (vbin .eql x1.1 (.int .i64 0)) fun x2 =>
    some (.normal, [(2, x2)], x1.2)) (
    some (.normal, [(2, (.bool false))], s)) (
    none)
@[go_sem] theorem rc_steadfastlaw04_FramesFirst_16 {base : Nat} {ρ : Env} {s : St} : rc D base (.reg (some [2]) o_steadfastlaw04_FramesFirst_16) ρ s = R_steadfastlaw04_FramesFirst_16 base s (get ρ 4) (get ρ 9) := rc_reg_O.trans (by kernel_rfl)
@[go_sem] noncomputable def R_steadfastlaw04_FramesFirst_17 (_base : Nat) (s : St) (v4 v6 v8 v9 : V) : Option (Ex × Env × St) :=
  obind (vbin .eql v9 (.int .i64 0)) fun x0 =>
  oguard x0 true (
    obind (vbin .eql v8 v6) fun x1 =>
    oguard x1 true (
      obind (rf D f_frames_Frames_State [v4, v8] s) fun x2 =>
      obind (vbin .eql x2.1 (.int .i64 1)) fun x3 =>
      some (.normal, [(2, x3)], x2.2)) (
      some (.normal, [(2, (.bool false))], s)) (
      none)) (
    some (.normal, [(2, (.bool false))], s)) (
    none)
@[go_sem] theorem rc_steadfastlaw04_FramesFirst_17 {base : Nat} {ρ : Env} {s : St} : rc D base (.reg (some [2]) o_steadfastlaw04_FramesFirst_17) ρ s = R_steadfastlaw04_FramesFirst_17 base s (get ρ 4) (get ρ 6) (get ρ 8) (get ρ 9) := rc_reg_O.trans (by kernel_rfl)

@[go_sem] noncomputable def R_steadfastlaw04_FramesPlay_0 (_base : Nat) (s : St) (v0 v1 v2 : V) : Option (Ex × Env × St) :=
  some (.normal, [(0, v0), (1, v1), (2, v2)], s)
@[go_sem] theorem rc_steadfastlaw04_FramesPlay_0 {base : Nat} {ρ : Env} {s : St} : rc D base (.reg (some [0, 1, 2]) o_steadfastlaw04_FramesPlay_0) ρ s = R_steadfastlaw04_FramesPlay_0 base s (get ρ 0) (get ρ 1) (get ρ 2) := rc_reg_O.trans (by kernel_rfl)
@[go_sem] noncomputable def R_steadfastlaw04_FramesPlay_1 (_base : Nat) (s : St) (v0 v1 v2 : V) : Option (Ex × Env × St) :=
  obind (rf D f_steadfastlaw04_shown [] s) fun x0 =>
  some (.normal, [(0, v0), (1, v1), (2, v2), (7, x0.1)], x0.2)
@[go_sem] theorem rc_steadfastlaw04_FramesPlay_1 {base : Nat} {ρ : Env} {s : St} : rc D base (.reg (some [0, 1, 2, 7]) o_steadfastlaw04_FramesPlay_1) ρ s = R_steadfastlaw04_FramesPlay_1 base s (get ρ 0) (get ρ 1) (get ρ 2) := rc_reg_O.trans (by kernel_rfl)
@[go_sem] noncomputable def R_steadfastlaw04_FramesPlay_2 (_base : Nat) (s : St) (v0 v1 v2 v7 : V) : Option (Ex × Env × St) :=
  obind (rf D f_frames_New [v0, v1] s) fun x0 =>
  obind (extv 0 x0.1) fun x1 =>
  obind (extv 1 x0.1) fun x2 =>
  some (.normal, [(0, v0), (1, v1), (2, v2), (7, v7), (8, x1), (9, x2)], x0.2)
@[go_sem] theorem rc_steadfastlaw04_FramesPlay_2 {base : Nat} {ρ : Env} {s : St} : rc D base (.reg (some [0, 1, 2, 7, 8, 9]) o_steadfastlaw04_FramesPlay_2) ρ s = R_steadfastlaw04_FramesPlay_2 base s (get ρ 0) (get ρ 1) (get ρ 2) (get ρ 7) := rc_reg_O.trans (by kernel_rfl)
@[go_sem] noncomputable def R_steadfastlaw04_FramesPlay_3 (_base : Nat) (s : St) (v0 v1 v2 v7 v8 v9 : V) : Option (Ex × Env × St) :=
  obind (rf D f_steadfastref04_New [v0, v1] s) fun x0 =>
  obind (extv 0 x0.1) fun x1 =>
  obind (extv 1 x0.1) fun x2 =>
  some (.normal, [(0, v0), (1, v1), (2, v2), (7, v7), (8, v8), (9, v9), (10, x1), (11, x2)], x0.2)
@[go_sem] theorem rc_steadfastlaw04_FramesPlay_3 {base : Nat} {ρ : Env} {s : St} : rc D base (.reg (some [0, 1, 2, 7, 8, 9, 10, 11]) o_steadfastlaw04_FramesPlay_3) ρ s = R_steadfastlaw04_FramesPlay_3 base s (get ρ 0) (get ρ 1) (get ρ 2) (get ρ 7) (get ρ 8) (get ρ 9) := rc_reg_O.trans (by kernel_rfl)
@[go_sem] noncomputable def R_steadfastlaw04_FramesPlay_4 (_base : Nat) (s : St) (v0 v1 v2 v7 v8 v9 v10 v11 : V) : Option (Ex × Env × St) :=
  obind (vun .not v7) fun x0 =>
  oguard x0 false (
    obind (vbin .neq v9 v11) fun x1 =>
    oguard x1 false (
      obind (eqv false 1 v8 .nilp) fun x2 =>
      obind (vbin .neq v9 (.int .i64 0)) fun x3 =>
      obind (eqv true 0 x2 x3) fun x4 =>
      some (.normal, [(0, v0), (1, v1), (2, v2), (8, v8), (10, v10), (46, x4)], s)) (
      some (.normal, [(0, v0), (1, v1), (2, v2), (8, v8), (10, v10), (46, (.bool true))], s)) (
      none)) (
    some (.normal, [(0, v0), (1, v1), (2, v2), (8, v8), (10, v10), (46, (.bool true))], s)) (
    none)
@[go_sem] theorem rc_steadfastlaw04_FramesPlay_4 {base : Nat} {ρ : Env} {s : St} : rc D base (.reg (some [0, 1, 2, 8, 10, 46]) o_steadfastlaw04_FramesPlay_4) ρ s = R_steadfastlaw04_FramesPlay_4 base s (get ρ 0) (get ρ 1) (get ρ 2) (get ρ 7) (get ρ 8) (get ρ 9) (get ρ 10) (get ρ 11) := rc_reg_O.trans (by kernel_rfl)
@[go_sem] noncomputable def R_steadfastlaw04_FramesPlay_5 (_base : Nat) (s : St) : Option (Ex × Env × St) :=
  some (.normal, [(6, (.bool false))], s)
@[go_sem] theorem rc_steadfastlaw04_FramesPlay_5 {base : Nat} {ρ : Env} {s : St} : rc D base (.reg (some [6]) o_steadfastlaw04_FramesPlay_5) ρ s = R_steadfastlaw04_FramesPlay_5 base s := rc_reg_O.trans (by kernel_rfl)
@[go_sem] noncomputable def R_steadfastlaw04_FramesPlay_6 (_base : Nat) (s : St) (v0 v1 v2 v8 v10 : V) : Option (Ex × Env × St) :=
  obind (eqv false 1 v8 .nilp) fun x0 =>
  some (.normal, [(0, v0), (1, v1), (2, v2), (8, v8), (10, v10), (48, x0)], s)
@[go_sem] theorem rc_steadfastlaw04_FramesPlay_6 {base : Nat} {ρ : Env} {s : St} : rc D base (.reg (some [0, 1, 2, 8, 10, 48]) o_steadfastlaw04_FramesPlay_6) ρ s = R_steadfastlaw04_FramesPlay_6 base s (get ρ 0) (get ρ 1) (get ρ 2) (get ρ 8) (get ρ 10) := rc_reg_O.trans (by kernel_rfl)
@[go_sem] noncomputable def R_steadfastlaw04_FramesPlay_7 (_base : Nat) (s : St) : Option (Ex × Env × St) :=
  some (.normal, [(6, (.bool true))], s)
@[go_sem] theorem rc_steadfastlaw04_FramesPlay_7 {base : Nat} {ρ : Env} {s : St} : rc D base (.reg (some [6]) o_steadfastlaw04_FramesPlay_7) ρ s = R_steadfastlaw04_FramesPlay_7 base s := rc_reg_O.trans (by kernel_rfl)
@[go_sem] noncomputable def R_steadfastlaw04_FramesPlay_8 (_base : Nat) (s : St) (v0 v1 v2 v8 v10 : V) : Option (Ex × Env × St) :=
  some (.normal, [(0, v0), (1, v1), (2, v2), (8, v8), (10, v10), (12, (.int .i64 0))], s)
@[go_sem] theorem rc_steadfastlaw04_FramesPlay_8 {base : Nat} {ρ : Env} {s : St} : rc D base (.reg (some [0, 1, 2, 8, 10, 12]) o_steadfastlaw04_FramesPlay_8) ρ s = R_steadfastlaw04_FramesPlay_8 base s (get ρ 0) (get ρ 1) (get ρ 2) (get ρ 8) (get ρ 10) := rc_reg_O.trans (by kernel_rfl)
@[go_sem] noncomputable def R_steadfastlaw04_FramesPlay_9 (_base : Nat) (s : St) (v0 v1 v2 v8 v10 v12 : V) : Option (Ex × Env × St) :=
  obind (V.slen false v2) fun x0 =>
  obind (vbin .lss v12 (.int .i64 x0)) fun x1 =>
  oguard x1 true (
    obind (vbin .lss v12 (.int .i64 150)) fun x2 =>
    some (.normal, [(0, v0), (1, v1), (2, v2), (8, v8), (10, v10), (12, v12), (56, x2)], s)) (
    some (.normal, [(0, v0), (1, v1), (2, v2), (8, v8), (10, v10), (12, v12), (56, (.bool false))], s)) (
    none)
@[go_sem] theorem rc_steadfastlaw04_FramesPlay_9 {base : Nat} {ρ : Env} {s : St} : rc D base (.reg (some [0, 1, 2, 8, 10, 12, 56]) o_steadfastlaw04_FramesPlay_9) ρ s = R_steadfastlaw04_FramesPlay_9 base s (get ρ 0) (get ρ 1) (get ρ 2) (get ρ 8) (get ρ 10) (get ρ 12) := rc_reg_O.trans (by kernel_rfl)
@[go_sem] noncomputable def R_steadfastlaw04_FramesPlay_10 (base : Nat) (s : St) (v0 v1 v2 v8 v10 v12 : V) : Option (Ex × Env × St) :=
  obind (sadv 34 v2 v12) fun x0 =>
  obind (ldv s 34 x0) fun x1 =>
  let x2 : V := .ptr (St.fresh s false) [] 34; let s2 : St := St.new s false (.agg 34 [(.int .i64 0), (.int .i64 0)])
  obind (stv base s2 34 x1 x2) fun s3 =>
  some (.normal, [(0, v0), (1, v1), (2, v2), (8, v8), (10, v10), (12, v12), (13, x2)], s3)
@[go_sem] theorem rc_steadfastlaw04_FramesPlay_10 {base : Nat} {ρ : Env} {s : St} : rc D base (.reg (some [0, 1, 2, 8, 10, 12, 13]) o_steadfastlaw04_FramesPlay_10) ρ s = R_steadfastlaw04_FramesPlay_10 base s (get ρ 0) (get ρ 1) (get ρ 2) (get ρ 8) (get ρ 10) (get ρ 12) := rc_reg_O.trans (by kernel_rfl)
@[go_sem] noncomputable def R_steadfastlaw04_FramesPlay_11 (_base : Nat) (s : St) (v0 v1 v2 v8 v10 v12 v13 : V) : Option (Ex × Env × St) :=
  some (.normal, [(0, v0), (1, v1), (2, v2), (8, v8), (10, v10), (12, v12), (13, v13), (14, (.int .i64 0))], s)
@[go_sem] theorem rc_steadfastlaw04_FramesPlay_11 {base : Nat} {ρ : Env} {s : St} : rc D base (.reg (some [0, 1, 2, 8, 10, 12, 13, 14]) o_steadfastlaw04_FramesPlay_11) ρ s = R_steadfastlaw04_FramesPlay_11 base s (get ρ 0) (get ρ 1) (get ρ 2) (get ρ 8) (get ρ 10) (get ρ 12) (get ρ 13) := rc_reg_O.trans (by kernel_rfl)
@[go_sem] noncomputable def R_steadfastlaw04_FramesPlay_12 (_base : Nat) (s : St) (v0 v1 v2 v8 v10 v12 v13 v14 : V) : Option (Ex × Env × St) :=
  some (.normal, [(0, v0), (1, v1), (2, v2), (8, v8), (10, v10), (12, v12), (13, v13), (14, v14), (15, (.int .i64 0))], s)
@[go_sem] theorem rc_steadfastlaw04_FramesPlay_12 {base : Nat} {ρ : Env} {s : St} : rc D base (.reg (some [0, 1, 2, 8, 10, 12, 13, 14, 15]) o_steadfastlaw04_FramesPlay_12) ρ s = R_steadfastlaw04_FramesPlay_12 base s (get ρ 0) (get ρ 1) (get ρ 2) (get ρ 8) (get ρ 10) (get ρ 12) (get ρ 13) (get ρ 14) := rc_reg_O.trans (by kernel_rfl)
@[go_sem] noncomputable def R_steadfastlaw04_FramesPlay_13 (_base : Nat) (s : St) (v0 v1 v2 v8 v10 v12 v13 v14 v15 : V) : Option (Ex × Env × St) :=
  some (.normal, [(0, v0), (1, v1), (2, v2), (8, v8), (10, v10), (12, v12), (13, v13), (14, v14), (15, v15), (16, (.int .i64 0))], s)
@[go_sem] theorem rc_steadfastlaw04_FramesPlay_13 {base : Nat} {ρ : Env} {s : St} : rc D base (.reg (some [0, 1, 2, 8, 10, 12, 13, 14, 15, 16]) o_steadfastlaw04_FramesPlay_13) ρ s = R_steadfastlaw04_FramesPlay_13 base s (get ρ 0) (get ρ 1) (get ρ 2) (get ρ 8) (get ρ 10) (get ρ 12) (get ρ 13) (get ρ 14) (get ρ 15) := rc_reg_O.trans (by kernel_rfl)
@[go_sem] noncomputable def R_steadfastlaw04_FramesPlay_14 (_base : Nat) (s : St) (v0 v1 v2 v8 v10 v12 v13 v14 v15 v16 : V) : Option (Ex × Env × St) :=
  some (.normal, [(0, v0), (1, v1), (2, v2), (8, v8), (10, v10), (12, v12), (13, v13), (14, v14), (15, v15), (16, v16), (17, (.int .i64 0))], s)
@[go_sem] theorem rc_steadfastlaw04_FramesPlay_14 {base : Nat} {ρ : Env} {s : St} : rc D base (.reg (some [0, 1, 2, 8, 10, 12, 13, 14, 15, 16, 17]) o_steadfastlaw04_FramesPlay_14) ρ s = R_steadfastlaw04_FramesPlay_14 base s (get ρ 0) (get ρ 1) (get ρ 2) (get ρ 8) (get ρ 10) (get ρ 12) (get ρ 13) (get ρ 14) (get ρ 15) (get ρ 16) := rc_reg_O.trans (by kernel_rfl)
@[go_sem] noncomputable def R_steadfastlaw04_FramesPlay_15 (_base : Nat) (s : St) (v0 v1 v2 v8 v10 v12 v13 v14 v15 v16 v17 : V) : Option (Ex × Env × St) :=
  obind (fadv 34 0 10 v13) fun x0 =>
  obind (ldv s 10 x0) fun x1 =>
  obind (rf D f_steadfastlaw04_kind [x1, (.int .i64 8)] s) fun x2 =>
  some (.normal, [(0, v0), (1, v1), (2, v2), (8, v8), (10, v10), (12, v12), (13, v13), (14, v14), (15, v15), (16, v16), (17, v17), (65, x2.1)], x2.2)
@[go_sem] theorem rc_steadfastlaw04_FramesPlay_15 {base : Nat} {ρ : Env} {s : St} : rc D base (.reg (some [0, 1, 2, 8, 10, 12, 13, 14, 15, 16, 17, 65]) o_steadfastlaw04_FramesPlay_15) ρ s = R_steadfastlaw04_FramesPlay_15 base s (get ρ 0) (get ρ 1) (get ρ 2) (get ρ 8) (get ρ 10) (get ρ 12) (get ρ 13) (get ρ 14) (get ρ 15) (get ρ 16) (get ρ 17) := rc_reg_O.trans (by kernel_rfl)
@[go_sem] noncomputable def R_steadfastlaw04_FramesPlay_16 (_base : Nat) (s : St) (v0 v1 v2 v8 v10 v12 v13 v14 v15 v16 v17 v65 : V) : Option (Ex × Env × St) :=
  obind (vbin .eql v65 (.int .i64 0)) fun x0 =>
  some (.normal, [(0, v0), (1, v1), (2, v2), (8, v8), (10, v10), (12, v12), (13, v13), (14, v14), (15, v15), (16, v16), (17, v17), (65, v65), (66, x0)], s)
@[go_sem] theorem rc_steadfastlaw04_FramesPlay_16 {base : Nat} {ρ : Env} {s : St} : rc D base (.reg (some [0, 1, 2, 8, 10, 12, 13, 14, 15, 16, 17, 65, 66]) o_steadfastlaw04_FramesPlay_16) ρ s = R_steadfastlaw04_FramesPlay_16 base s (get ρ 0) (get ρ 1) (get ρ 2) (get ρ 8) (get ρ 10) (get ρ 12) (get ρ 13) (get ρ 14) (get ρ 15) (get ρ 16) (get ρ 17) (get ρ 65) := rc_reg_O.trans (by kernel_rfl)
@[go_sem] noncomputable def R_steadfastlaw04_FramesPlay_17 (_base : Nat) (s : St) (v0 v1 v2 v8 v10 v12 v13 v14 v15 v16 v17 v65 : V) : Option (Ex × Env × St) :=
  obind (vbin .eql v65 (.int .i64 1)) fun x0 =>
  some (.normal, [(0, v0), (1, v1), (2, v2), (8, v8), (10, v10), (12, v12), (13, v13), (14, v14), (15, v15), (16, v16), (17, v17), (65, v65), (66, x0)], s)
@[go_sem] theorem rc_steadfastlaw04_FramesPlay_17 {base : Nat} {ρ : Env} {s : St} : rc D base (.reg (some [0, 1, 2, 8, 10, 12, 13, 14, 15, 16, 17, 65, 66]) o_steadfastlaw04_FramesPlay_17) ρ s = R_steadfastlaw04_FramesPlay_17 base s (get ρ 0) (get ρ 1) (get ρ 2) (get ρ 8) (get ρ 10) (get ρ 12) (get ρ 13) (get ρ 14) (get ρ 15) (get ρ 16) (get ρ 17) (get ρ 65) := rc_reg_O.trans (by kernel_rfl)
@[go_sem] noncomputable def R_steadfastlaw04_FramesPlay_18 (_base : Nat) (s : St) (v0 v1 v2 v8 v10 v12 v13 v14 v15 v16 v17 v65 : V) : Option (Ex × Env × St) :=
  obind (vbin .eql v65 (.int .i64 2)) fun x0 =>
  some (.normal, [(0, v0), (1, v1), (2, v2), (8, v8), (10, v10), (12, v12), (13, v13), (14, v14), (15, v15), (16, v16), (17, v17), (65, v65), (66, x0)], s)
@[go_sem] theorem rc_steadfastlaw04_FramesPlay_18 {base : Nat} {ρ : Env} {s : St} : rc D base (.reg (some [0, 1, 2, 8, 10, 12, 13, 14, 15, 16, 17, 65, 66]) o_steadfastlaw04_FramesPlay_18) ρ s = R_steadfastlaw04_FramesPlay_18 base s (get ρ 0) (get ρ 1) (get ρ 2) (get ρ 8) (get ρ 10) (get ρ 12) (get ρ 13) (get ρ 14) (get ρ 15) (get ρ 16) (get ρ 17) (get ρ 65) := rc_reg_O.trans (by kernel_rfl)
@[go_sem] noncomputable def R_steadfastlaw04_FramesPlay_19 (_base : Nat) (s : St) (v0 v1 v2 v8 v10 v12 v13 : V) : Option (Ex × Env × St) :=
  obind (rf D f_frames_Frames_Alloc [v8] s) fun x0 =>
  obind (extv 0 x0.1) fun x1 =>
  obind (extv 1 x0.1) fun x2 =>
  some (.normal, [(0, v0), (1, v1), (2, v2), (8, v8), (10, v10), (12, v12), (13, v13), (14, x1), (16, x2)], x0.2)
@[go_sem] theorem rc_steadfastlaw04_FramesPlay_19 {base : Nat} {ρ : Env} {s : St} : rc D base (.reg (some [0, 1, 2, 8, 10, 12, 13, 14, 16]) o_steadfastlaw04_FramesPlay_19) ρ s = R_steadfastlaw04_FramesPlay_19 base s (get ρ 0) (get ρ 1) (get ρ 2) (get ρ 8) (get ρ 10) (get ρ 12) (get ρ 13) := rc_reg_O.trans (by kernel_rfl)
@[go_sem] noncomputable def R_steadfastlaw04_FramesPlay_20 (_base : Nat) (s : St) (v0 v1 v2 v8 v10 v12 v13 v14 v16 : V) : Option (Ex × Env × St) :=
  obind (rf D f_steadfastref04_Frames_Alloc [v10] s) fun x0 =>
  obind (extv 0 x0.1) fun x1 =>
  obind (extv 1 x0.1) fun x2 =>
  some (.normal, [(0, v0), (1, v1), (2, v2), (8, v8), (10, v10), (12, v12), (13, v13), (14, v14), (15, x1), (16, v16), (17, x2)], x0.2)
@[go_sem] theorem rc_steadfastlaw04_FramesPlay_20 {base : Nat} {ρ : Env} {s : St} : rc D base (.reg (some [0, 1, 2, 8, 10, 12, 13, 14, 15, 16, 17]) o_steadfastlaw04_FramesPlay_20) ρ s = R_steadfastlaw04_FramesPlay_20 base s (get ρ 0) (get ρ 1) (get ρ 2) (get ρ 8) (get ρ 10) (get ρ 12) (get ρ 13) (get ρ 14) (get ρ 16) := rc_reg_O.trans (by kernel_rfl)
@[go_sem] noncomputable def R_steadfastlaw04_FramesPlay_21 (_base : Nat) (s : St) (v0 v1 v2 v8 v10 v12 v13 v14 v15 v16 v17 v65 : V) : Option (Ex × Env × St) :=
  obind (vbin .eql v65 (.int .i64 3)) fun x0 =>
  some (.normal, [(0, v0), (1, v1), (2, v2), (8, v8), (10, v10), (12, v12), (13, v13), (14, v14), (15, v15), (16, v16), (17, v17), (65, v65), (80, x0)], s)
@[go_sem] theorem rc_steadfastlaw04_FramesPlay_21 {base : Nat} {ρ : Env} {s : St} : rc D base (.reg (some [0, 1, 2, 8, 10, 12, 13, 14, 15, 16, 17, 65, 80]) o_steadfastlaw04_FramesPlay_21) ρ s = R_steadfastlaw04_FramesPlay_21 base s (get ρ 0) (get ρ 1) (get ρ 2) (get ρ 8) (get ρ 10) (get ρ 12) (get ρ 13) (get ρ 14) (get ρ 15) (get ρ 16) (get ρ 17) (get ρ 65) := rc_reg_O.trans (by kernel_rfl)
@[go_sem] noncomputable def R_steadfastlaw04_FramesPlay_22 (_base : Nat) (s : St) (v0 v1 v2 v8 v10 v12 v13 v14 v15 : V) : Option (Ex × Env × St) :=
  obind (fadv 34 1 10 v13) fun x0 =>
  obind (ldv s 10 x0) fun x1 =>
  obind (rf D f_frames_Frames_Take [v8, x1] s) fun x2 =>
  some (.normal, [(0, v0), (1, v1), (2, v2), (8, v8), (10, v10), (12, v12), (13, v13), (14, v14), (15, v15), (16, x2.1)], x2.2)
@[go_sem] theorem rc_steadfastlaw04_FramesPlay_22 {base : Nat} {ρ : Env} {s : St} : rc D base (.reg (some [0, 1, 2, 8, 10, 12, 13, 14, 15, 16]) o_steadfastlaw04_FramesPlay_22) ρ s = R_steadfastlaw04_FramesPlay_22 base s (get ρ 0) (get ρ 1) (get ρ 2) (get ρ 8) (get ρ 10) (get ρ 12) (get ρ 13) (get ρ 14) (get ρ 15) := rc_reg_O.trans (by kernel_rfl)
@[go_sem] noncomputable def R_steadfastlaw04_FramesPlay_23 (_base : Nat) (s : St) (v0 v1 v2 v8 v10 v12 v13 v14 v15 v16 : V) : Option (Ex × Env × St) :=
  obind (fadv 34 1 10 v13) fun x0 =>
  obind (ldv s 10 x0) fun x1 =>
  obind (rf D f_steadfastref04_Frames_Take [v10, x1] s) fun x2 =>
  some (.normal, [(0, v0), (1, v1), (2, v2), (8, v8), (10, v10), (12, v12), (13, v13), (14, v14), (15, v15), (16, v16), (17, x2.1)], x2.2)
@[go_sem] theorem rc_steadfastlaw04_FramesPlay_23 {base : Nat} {ρ : Env} {s : St} : rc D base (.reg (some [0, 1, 2, 8, 10, 12, 13, 14, 15, 16, 17]) o_steadfastlaw04_FramesPlay_23) ρ s = R_steadfastlaw04_FramesPlay_23 base s (get ρ 0) (get ρ 1) (get ρ 2) (get ρ 8) (get ρ 10) (get ρ 12) (get ρ 13) (get ρ 14) (get ρ 15) (get ρ 16) := rc_reg_O.trans (by kernel_rfl)
@[go_sem] noncomputable def R_steadfastlaw04_FramesPlay_24 (_base : Nat) (s : St) (v0 v1 v2 v8 v10 v12 v13 v14 v15 v16 v17 v65 : V) : Option (Ex × Env × St) :=
  obind (vbin .eql v65 (.int .i64 4)) fun x0 =>
  some (.normal, [(0, v0), (1, v1), (2, v2), (8, v8), (10, v10), (12, v12), (13, v13), (14, v14), (15, v15), (16, v16), (17, v17), (65, v65), (90, x0)], s)
@[go_sem] theorem rc_steadfastlaw04_FramesPlay_24 {base : Nat} {ρ : Env} {s : St} : rc D base (.reg (some [0, 1, 2, 8, 10, 12, 13, 14, 15, 16, 17, 65, 90]) o_steadfastlaw04_FramesPlay_24) ρ s = R_steadfastlaw04_FramesPlay_24 base s (get ρ 0) (get ρ 1) (get ρ 2) (get ρ 8) (get ρ 10) (get ρ 12) (get ρ 13) (get ρ 14) (get ρ 15) (get ρ 16) (get ρ 17) (get ρ 65) := rc_reg_O.trans (by kernel_rfl)
@[go_sem] noncomputable def R_steadfastlaw04_FramesPlay_25 (_base : Nat) (s : St) (v0 v1 v2 v8 v10 v12 v13 v14 v15 : V) : Option (Ex × Env × St) :=
  obind (fadv 34 1 10 v13) fun x0 =>
  obind (ldv s 10 x0) fun x1 =>
  obind (rf D f_frames_Frames_Free [v8, x1] s) fun x2 =>
  some (.normal, [(0, v0), (1, v1), (2, v2), (8, v8), (10, v10), (12, v12), (13, v13), (14, v14), (15, v15), (16, x2.1)], x2.2)
@[go_sem] theorem rc_steadfastlaw04_FramesPlay_25 {base : Nat} {ρ : Env} {s : St} : rc D base (.reg (some [0, 1, 2, 8, 10, 12, 13, 14, 15, 16]) o_steadfastlaw04_FramesPlay_25) ρ s = R_steadfastlaw04_FramesPlay_25 base s (get ρ 0) (get ρ 1) (get ρ 2) (get ρ 8) (get ρ 10) (get ρ 12) (get ρ 13) (get ρ 14) (get ρ 15) := rc_reg_O.trans (by kernel_rfl)
@[go_sem] noncomputable def R_steadfastlaw04_FramesPlay_26 (_base : Nat) (s : St) (v0 v1 v2 v8 v10 v12 v13 v14 v15 v16 : V) : Option (Ex × Env × St) :=
  obind (fadv 34 1 10 v13) fun x0 =>
  obind (ldv s 10 x0) fun x1 =>
  obind (rf D f_steadfastref04_Frames_Free [v10, x1] s) fun x2 =>
  some (.normal, [(0, v0), (1, v1), (2, v2), (8, v8), (10, v10), (12, v12), (13, v13), (14, v14), (15, v15), (16, v16), (17, x2.1)], x2.2)
@[go_sem] theorem rc_steadfastlaw04_FramesPlay_26 {base : Nat} {ρ : Env} {s : St} : rc D base (.reg (some [0, 1, 2, 8, 10, 12, 13, 14, 15, 16, 17]) o_steadfastlaw04_FramesPlay_26) ρ s = R_steadfastlaw04_FramesPlay_26 base s (get ρ 0) (get ρ 1) (get ρ 2) (get ρ 8) (get ρ 10) (get ρ 12) (get ρ 13) (get ρ 14) (get ρ 15) (get ρ 16) := rc_reg_O.trans (by kernel_rfl)
@[go_sem] noncomputable def R_steadfastlaw04_FramesPlay_27 (_base : Nat) (s : St) (v0 v1 v2 v8 v10 v12 v13 v14 v15 v16 v17 v65 : V) : Option (Ex × Env × St) :=
  obind (vbin .eql v65 (.int .i64 5)) fun x0 =>
  some (.normal, [(0, v0), (1, v1), (2, v2), (8, v8), (10, v10), (12, v12), (13, v13), (14, v14), (15, v15), (16, v16), (17, v17), (65, v65), (100, x0)], s)
@[go_sem] theorem rc_steadfastlaw04_FramesPlay_27 {base : Nat} {ρ : Env} {s : St} : rc D base (.reg (some [0, 1, 2, 8, 10, 12, 13, 14, 15, 16, 17, 65, 100]) o_steadfastlaw04_FramesPlay_27) ρ s = R_steadfastlaw04_FramesPlay_27 base s (get ρ 0) (get ρ 1) (get ρ 2) (get ρ 8) (get ρ 10) (get ρ 12) (get ρ 13) (get ρ 14) (get ρ 15) (get ρ 16) (get ρ 17) (get ρ 65) := rc_reg_O.trans (by kernel_rfl)
@[go_sem] noncomputable def R_steadfastlaw04_FramesPlay_28 (_base : Nat) (s : St) (v0 v1 v2 v8 v10 v12 v13 v14 v15 : V) : Option (Ex × Env × St) :=
  obind (fadv 34 1 10 v13) fun x0 =>
  obind (ldv s 10 x0) fun x1 =>
  obind (rf D f_frames_Frames_Later [v8, x1] s) fun x2 =>
  some (.normal, [(0, v0), (1, v1), (2, v2), (8, v8), (10, v10), (12, v12), (13, v13), (14, v14), (15, v15), (16, x2.1)], x2.2)
@[go_sem] theorem rc_steadfastlaw04_FramesPlay_28 {base : Nat} {ρ : Env} {s : St} : rc D base (.reg (some [0, 1, 2, 8, 10, 12, 13, 14, 15, 16]) o_steadfastlaw04_FramesPlay_28) ρ s = R_steadfastlaw04_FramesPlay_28 base s (get ρ 0) (get ρ 1) (get ρ 2) (get ρ 8) (get ρ 10) (get ρ 12) (get ρ 13) (get ρ 14) (get ρ 15) := rc_reg_O.trans (by kernel_rfl)
@[go_sem] noncomputable def R_steadfastlaw04_FramesPlay_29 (_base : Nat) (s : St) (v0 v1 v2 v8 v10 v12 v13 v14 v15 v16 : V) : Option (Ex × Env × St) :=
  obind (fadv 34 1 10 v13) fun x0 =>
  obind (ldv s 10 x0) fun x1 =>
  obind (rf D f_steadfastref04_Frames_Later [v10, x1] s) fun x2 =>
  some (.normal, [(0, v0), (1, v1), (2, v2), (8, v8), (10, v10), (12, v12), (13, v13), (14, v14), (15, v15), (16, v16), (17, x2.1)], x2.2)
@[go_sem] theorem rc_steadfastlaw04_FramesPlay_29 {base : Nat} {ρ : Env} {s : St} : rc D base (.reg (some [0, 1, 2, 8, 10, 12, 13, 14, 15, 16, 17]) o_steadfastlaw04_FramesPlay_29) ρ s = R_steadfastlaw04_FramesPlay_29 base s (get ρ 0) (get ρ 1) (get ρ 2) (get ρ 8) (get ρ 10) (get ρ 12) (get ρ 13) (get ρ 14) (get ρ 15) (get ρ 16) := rc_reg_O.trans (by kernel_rfl)
@[go_sem] noncomputable def R_steadfastlaw04_FramesPlay_30 (_base : Nat) (s : St) (v0 v1 v2 v8 v10 v12 v13 v14 v15 v16 v17 v65 : V) : Option (Ex × Env × St) :=
  obind (vbin .eql v65 (.int .i64 6)) fun x0 =>
  some (.normal, [(0, v0), (1, v1), (2, v2), (8, v8), (10, v10), (12, v12), (13, v13), (14, v14), (15, v15), (16, v16), (17, v17), (65, v65), (110, x0)], s)
@[go_sem] theorem rc_steadfastlaw04_FramesPlay_30 {base : Nat} {ρ : Env} {s : St} : rc D base (.reg (some [0, 1, 2, 8, 10, 12, 13, 14, 15, 16, 17, 65, 110]) o_steadfastlaw04_FramesPlay_30) ρ s = R_steadfastlaw04_FramesPlay_30 base s (get ρ 0) (get ρ 1) (get ρ 2) (get ρ 8) (get ρ 10) (get ρ 12) (get ρ 13) (get ρ 14) (get ρ 15) (get ρ 16) (get ρ 17) (get ρ 65) := rc_reg_O.trans (by kernel_rfl)
@[go_sem] noncomputable def R_steadfastlaw04_FramesPlay_31 (_base : Nat) (s : St) (v0 v1 v2 v8 v10 v12 v13 v14 v15 v16 v17 : V) : Option (Ex × Env × St) :=
  obind (rf D f_frames_Frames_Settle [v8] s) fun x0 =>
  some (.normal, [(0, v0), (1, v1), (2, v2), (8, v8), (10, v10), (12, v12), (13, v13), (14, v14), (15, v15), (16, v16), (17, v17)], x0.2)
@[go_sem] theorem rc_steadfastlaw04_FramesPlay_31 {base : Nat} {ρ : Env} {s : St} : rc D base (.reg (some [0, 1, 2, 8, 10, 12, 13, 14, 15, 16, 17]) o_steadfastlaw04_FramesPlay_31) ρ s = R_steadfastlaw04_FramesPlay_31 base s (get ρ 0) (get ρ 1) (get ρ 2) (get ρ 8) (get ρ 10) (get ρ 12) (get ρ 13) (get ρ 14) (get ρ 15) (get ρ 16) (get ρ 17) := rc_reg_O.trans (by kernel_rfl)
@[go_sem] noncomputable def R_steadfastlaw04_FramesPlay_32 (_base : Nat) (s : St) (v0 v1 v2 v8 v10 v12 v13 v14 v15 v16 v17 : V) : Option (Ex × Env × St) :=
  obind (rf D f_steadfastref04_Frames_Settle [v10] s) fun x0 =>
  some (.normal, [(0, v0), (1, v1), (2, v2), (8, v8), (10, v10), (12, v12), (13, v13), (14, v14), (15, v15), (16, v16), (17, v17)], x0.2)
@[go_sem] theorem rc_steadfastlaw04_FramesPlay_32 {base : Nat} {ρ : Env} {s : St} : rc D base (.reg (some [0, 1, 2, 8, 10, 12, 13, 14, 15, 16, 17]) o_steadfastlaw04_FramesPlay_32) ρ s = R_steadfastlaw04_FramesPlay_32 base s (get ρ 0) (get ρ 1) (get ρ 2) (get ρ 8) (get ρ 10) (get ρ 12) (get ρ 13) (get ρ 14) (get ρ 15) (get ρ 16) (get ρ 17) := rc_reg_O.trans (by kernel_rfl)
@[go_sem] noncomputable def R_steadfastlaw04_FramesPlay_33 (_base : Nat) (s : St) (v0 v1 v2 v8 v10 v12 v13 v14 v15 v16 v17 v65 : V) : Option (Ex × Env × St) :=
  obind (vbin .eql v65 (.int .i64 7)) fun x0 =>
  some (.normal, [(0, v0), (1, v1), (2, v2), (8, v8), (10, v10), (12, v12), (13, v13), (14, v14), (15, v15), (16, v16), (17, v17), (116, x0)], s)
@[go_sem] theorem rc_steadfastlaw04_FramesPlay_33 {base : Nat} {ρ : Env} {s : St} : rc D base (.reg (some [0, 1, 2, 8, 10, 12, 13, 14, 15, 16, 17, 116]) o_steadfastlaw04_FramesPlay_33) ρ s = R_steadfastlaw04_FramesPlay_33 base s (get ρ 0) (get ρ 1) (get ρ 2) (get ρ 8) (get ρ 10) (get ρ 12) (get ρ 13) (get ρ 14) (get ρ 15) (get ρ 16) (get ρ 17) (get ρ 65) := rc_reg_O.trans (by kernel_rfl)
@[go_sem] noncomputable def R_steadfastlaw04_FramesPlay_34 (_base : Nat) (s : St) (v0 v1 v2 v8 v10 v12 v13 v14 v15 v16 v17 : V) : Option (Ex × Env × St) :=
  some (.normal, [(0, v0), (1, v1), (2, v2), (8, v8), (10, v10), (12, v12), (13, v13), (14, v14), (15, v15), (16, v16), (17, v17), (18, v8)], s)
@[go_sem] theorem rc_steadfastlaw04_FramesPlay_34 {base : Nat} {ρ : Env} {s : St} : rc D base (.reg (some [0, 1, 2, 8, 10, 12, 13, 14, 15, 16, 17, 18]) o_steadfastlaw04_FramesPlay_34) ρ s = R_steadfastlaw04_FramesPlay_34 base s (get ρ 0) (get ρ 1) (get ρ 2) (get ρ 8) (get ρ 10) (get ρ 12) (get ρ 13) (get ρ 14) (get ρ 15) (get ρ 16) (get ρ 17) := rc_reg_O.trans (by kernel_rfl)
@[go_sem] noncomputable def R_steadfastlaw04_FramesPlay_35 (_base : Nat) (s : St) (v0 v1 v2 v8 v10 v12 v13 v14 v15 v16 v17 v18 : V) : Option (Ex × Env × St) :=
  obind (rf D f_frames_Frames_Clone [v8] s) fun x0 =>
  some (.normal, [(0, v0), (1, v1), (2, v2), (8, x0.1), (10, v10), (12, v12), (13, v13), (14, v14), (15, v15), (16, v16), (17, v17), (18, v18)], x0.2)
@[go_sem] theorem rc_steadfastlaw04_FramesPlay_35 {base : Nat} {ρ : Env} {s : St} : rc D base (.reg (some [0, 1, 2, 8, 10, 12, 13, 14, 15, 16, 17, 18]) o_steadfastlaw04_FramesPlay_35) ρ s = R_steadfastlaw04_FramesPlay_35 base s (get ρ 0) (get ρ 1) (get ρ 2) (get ρ 8) (get ρ 10) (get ρ 12) (get ρ 13) (get ρ 14) (get ρ 15) (get ρ 16) (get ρ 17) (get ρ 18) := rc_reg_O.trans (by kernel_rfl)
@[go_sem] noncomputable def R_steadfastlaw04_FramesPlay_36 (_base : Nat) (s : St) (v0 v1 v2 v8 v10 v12 v13 v14 v15 v16 v17 v18 : V) : Option (Ex × Env × St) :=
  obind (eqv false 1 v8 .nilp) fun x0 =>
  some (.normal, [(0, v0), (1, v1), (2, v2), (8, v8), (10, v10), (12, v12), (13, v13), (14, v14), (15, v15), (16, v16), (17, v17), (18, v18), (122, x0)], s)
@[go_sem] theorem rc_steadfastlaw04_FramesPlay_36 {base : Nat} {ρ : Env} {s : St} : rc D base (.reg (some [0, 1, 2, 8, 10, 12, 13, 14, 15, 16, 17, 18, 122]) o_steadfastlaw04_FramesPlay_36) ρ s = R_steadfastlaw04_FramesPlay_36 base s (get ρ 0) (get ρ 1) (get ρ 2) (get ρ 8) (get ρ 10) (get ρ 12) (get ρ 13) (get ρ 14) (get ρ 15) (get ρ 16) (get ρ 17) (get ρ 18) := rc_reg_O.trans (by kernel_rfl)
@[go_sem] noncomputable def R_steadfastlaw04_FramesPlay_37 (_base : Nat) (s : St) : Option (Ex × Env × St) :=
  some (.normal, [(6, (.bool false))], s)
@[go_sem] theorem rc_steadfastlaw04_FramesPlay_37 {base : Nat} {ρ : Env} {s : St} : rc D base (.reg (some [6]) o_steadfastlaw04_FramesPlay_37) ρ s = R_steadfastlaw04_FramesPlay_37 base s := rc_reg_O.trans (by kernel_rfl)
@[go_sem] noncomputable def R_steadfastlaw04_FramesPlay_38 (_base : Nat) (s : St) (v0 v1 v2 v8 v10 v12 v13 v14 v15 v16 v17 v18 : V) : Option (Ex × Env × St) :=
  obind (rf D f_frames_Frames_Alloc [v18] s) fun x0 =>
  some (.normal, [(0, v0), (1, v1), (2, v2), (8, v8), (10, v10), (12, v12), (13, v13), (14, v14), (15, v15), (16, v16), (17, v17), (18, v18)], x0.2)
@[go_sem] theorem rc_steadfastlaw04_FramesPlay_38 {base : Nat} {ρ : Env} {s : St} : rc D base (.reg (some [0, 1, 2, 8, 10, 12, 13, 14, 15, 16, 17, 18]) o_steadfastlaw04_FramesPlay_38) ρ s = R_steadfastlaw04_FramesPlay_38 base s (get ρ 0) (get ρ 1) (get ρ 2) (get ρ 8) (get ρ 10) (get ρ 12) (get ρ 13) (get ρ 14) (get ρ 15) (get ρ 16) (get ρ 17) (get ρ 18) := rc_reg_O.trans (by kernel_rfl)
@[go_sem] noncomputable def R_steadfastlaw04_FramesPlay_39 (_base : Nat) (s : St) (v0 v1 v2 v8 v10 v12 v13 v14 v15 v16 v17 v18 : V) : Option (Ex × Env × St) :=
  obind (rf D f_frames_Frames_Alloc [v18] s) fun x0 =>
  some (.normal, [(0, v0), (1, v1), (2, v2), (8, v8), (10, v10), (12, v12), (13, v13), (14, v14), (15, v15), (16, v16), (17, v17), (18, v18)], x0.2)
@[go_sem] theorem rc_steadfastlaw04_FramesPlay_39 {base : Nat} {ρ : Env} {s : St} : rc D base (.reg (some [0, 1, 2, 8, 10, 12, 13, 14, 15, 16, 17, 18]) o_steadfastlaw04_FramesPlay_39) ρ s = R_steadfastlaw04_FramesPlay_39 base s (get ρ 0) (get ρ 1) (get ρ 2) (get ρ 8) (get ρ 10) (get ρ 12) (get ρ 13) (get ρ 14) (get ρ 15) (get ρ 16) (get ρ 17) (get ρ 18) := rc_reg_O.trans (by kernel_rfl)
@[go_sem] noncomputable def R_steadfastlaw04_FramesPlay_40 (_base : Nat) (s : St) (v0 v1 v2 v8 v10 v12 v13 v14 v15 v16 v17 v18 : V) : Option (Ex × Env × St) :=
  obind (rf D f_frames_Frames_Settle [v18] s) fun x0 =>
  some (.normal, [(0, v0), (1, v1), (2, v2), (8, v8), (10, v10), (12, v12), (13, v13), (14, v14), (15, v15), (16, v16), (17, v17)], x0.2)
@[go_sem] theorem rc_steadfastlaw04_FramesPlay_40 {base : Nat} {ρ : Env} {s : St} : rc D base (.reg (some [0, 1, 2, 8, 10, 12, 13, 14, 15, 16, 17]) o_steadfastlaw04_FramesPlay_40) ρ s = R_steadfastlaw04_FramesPlay_40 base s (get ρ 0) (get ρ 1) (get ρ 2) (get ρ 8) (get ρ 10) (get ρ 12) (get ρ 13) (get ρ 14) (get ρ 15) (get ρ 16) (get ρ 17) (get ρ 18) := rc_reg_O.trans (by kernel_rfl)
@[go_sem] noncomputable def R_steadfastlaw04_FramesPlay_41 (base : Nat) (s : St) (v0 v1 v2 v8 v10 v12 v13 v14 v15 v16 v17 : V) : Option (Ex × Env × St) :=
  obind (vbin .neq v14 v15) fun x0 =>
  oguard x0 false (
    obind (vbin .neq v16 v17) fun x1 =>
    oguard x1 false (
      obind (pcallw D (pcut base [v8]) base f_frames_Frames_Left [v8] s) fun x2 =>
      obind (pcallw D (pcut base [v10]) base f_steadfastref04_Frames_Left [v10] s) fun x3 =>
      obind (vbin .neq x2 x3) fun x4 =>
      oguard x4 false (
        obind (fadv 34 1 10 v13) fun x5 =>
        obind (ldv s 10 x5) fun x6 =>
        obind (pcallw D (pcut base [v8, x6]) base f_frames_Frames_State [v8, x6] s) fun x7 =>
        obind (fadv 34 1 10 v13) fun x8 =>
        obind (ldv s 10 x8) fun x9 =>
        obind (pcallw D (pcut base [v10, x9]) base f_steadfastref04_Frames_State [v10, x9] s) fun x10 =>
        obind (vbin .neq x7 x10) fun x11 =>
        some (.normal, [(0, v0), (1, v1), (2, v2), (8, v8), (10, v10), (12, v12), (154, x11)], s)) (
        some (.normal, [(0, v0), (1, v1), (2, v2), (8, v8), (10, v10), (12, v12), (154, (.bool true))], s)) (
        none)) (
      some (.normal, [(0, v0), (1, v1), (2, v2), (8, v8), (10, v10), (12, v12), (154, (.bool true))], s)) (
      none)) (
    some (.normal, [(0, v0), (1, v1), (2, v2), (8, v8), (10, v10), (12, v12), (154, (.bool true))], s)) (
    none)
@[go_sem] theorem rc_steadfastlaw04_FramesPlay_41 {base : Nat} {ρ : Env} {s : St} : rc D base (.regd (some [0, 1, 2, 8, 10, 12, 154]) o_steadfastlaw04_FramesPlay_41) ρ s = R_steadfastlaw04_FramesPlay_41 base s (get ρ 0) (get ρ 1) (get ρ 2) (get ρ 8) (get ρ 10) (get ρ 12) (get ρ 13) (get ρ 14) (get ρ 15) (get ρ 16) (get ρ 17) := rc_regd_O.trans (by kernel_rfl)
@[go_sem] noncomputable def R_steadfastlaw04_FramesPlay_42 (_base : Nat) (s : St) : Option (Ex × Env × St) :=
  some (.normal, [(6, (.bool false))], s)
@[go_sem] theorem rc_steadfastlaw04_FramesPlay_42 {base : Nat} {ρ : Env} {s : St} : rc D base (.reg (some [6]) o_steadfastlaw04_FramesPlay_42) ρ s = R_steadfastlaw04_FramesPlay_42 base s := rc_reg_O.trans (by kernel_rfl)
@[go_sem] noncomputable def R_steadfastlaw04_FramesPlay_43 (_base : Nat) (s : St) (v0 v1 v2 v8 v10 v12 : V) : Option (Ex × Env × St) :=
  obind (vbin .add v12 (.int .i64 1)) fun x0 =>
  some (.normal, [(0, v0), (1, v1), (2, v2), (8, v8), (10, v10), (12, x0)], s)
@[go_sem] theorem rc_steadfastlaw04_FramesPlay_43 {base : Nat} {ρ : Env} {s : St} : rc D base (.reg (some [0, 1, 2, 8, 10, 12]) o_steadfastlaw04_FramesPlay_43) ρ s = R_steadfastlaw04_FramesPlay_43 base s (get ρ 0) (get ρ 1) (get ρ 2) (get ρ 8) (get ρ 10) (get ρ 12) := rc_reg_O.trans (by kernel_rfl)
@[go_sem] noncomputable def R_steadfastlaw04_FramesPlay_44 (_base : Nat) (s : St) (v0 v1 v8 v10 : V) : Option (Ex × Env × St) :=
  some (.normal, [(0, v0), (1, v1), (8, v8), (10, v10), (19, (.int .i64 0))], s)
@[go_sem] theorem rc_steadfastlaw04_FramesPlay_44 {base : Nat} {ρ : Env} {s : St} : rc D base (.reg (some [0, 1, 8, 10, 19]) o_steadfastlaw04_FramesPlay_44) ρ s = R_steadfastlaw04_FramesPlay_44 base s (get ρ 0) (get ρ 1) (get ρ 8) (get ρ 10) := rc_reg_O.trans (by kernel_rfl)
@[go_sem] noncomputable def R_steadfastlaw04_FramesPlay_45 (_base : Nat) (s : St) (v0 v1 v8 v10 v19 : V) : Option (Ex × Env × St) :=
  obind (nilv v10) fun x0 =>
  obind (fadv 21 1 1 x0) fun x1 =>
  obind (ldv s 1 x1) fun x2 =>
  obind (V.slen false x2) fun x3 =>
  obind (vbin .lss v19 (.int .i64 x3)) fun x4 =>
  some (.normal, [(0, v0), (1, v1), (8, v8), (10, v10), (19, v19), (161, x4)], s)
@[go_sem] theorem rc_steadfastlaw04_FramesPlay_45 {base : Nat} {ρ : Env} {s : St} : rc D base (.reg (some [0, 1, 8, 10, 19, 161]) o_steadfastlaw04_FramesPlay_45) ρ s = R_steadfastlaw04_FramesPlay_45 base s (get ρ 0) (get ρ 1) (get ρ 8) (get ρ 10) (get ρ 19) := rc_reg_O.trans (by kernel_rfl)
@[go_sem] noncomputable def R_steadfastlaw04_FramesPlay_46 (base : Nat) (s : St) (v0 v1 v8 v10 v19 : V) : Option (Ex × Env × St) :=
  obind (vbin .add v0 v19) fun x0 =>
  obind (pcallw D (pcut base [v8, x0]) base f_frames_Frames_State [v8, x0] s) fun x1 =>
  obind (nilv v10) fun x2 =>
  obind (fadv 21 1 1 x2) fun x3 =>
  obind (ldv s 1 x3) fun x4 =>
  obind (sadv 10 x4 v19) fun x5 =>
  obind (ldv s 10 x5) fun x6 =>
  obind (vbin .neq x1 x6) fun x7 =>
  some (.normal, [(0, v0), (1, v1), (8, v8), (10, v10), (19, v19), (176, x7)], s)
@[go_sem] theorem rc_steadfastlaw04_FramesPlay_46 {base : Nat} {ρ : Env} {s : St} : rc D base (.regd (some [0, 1, 8, 10, 19, 176]) o_steadfastlaw04_FramesPlay_46) ρ s = R_steadfastlaw04_FramesPlay_46 base s (get ρ 0) (get ρ 1) (get ρ 8) (get ρ 10) (get ρ 19) := rc_regd_O.trans (by kernel_rfl)
@[go_sem] noncomputable def R_steadfastlaw04_FramesPlay_47 (_base : Nat) (s : St) : Option (Ex × Env × St) :=
  some (.normal, [(6, (.bool false))], s)
@[go_sem] theorem rc_steadfastlaw04_FramesPlay_47 {base : Nat} {ρ : Env} {s : St} : rc D base (.reg (some [6]) o_steadfastlaw04_FramesPlay_47) ρ s = R_steadfastlaw04_FramesPlay_47 base s := rc_reg_O.trans (by kernel_rfl)
@[go_sem] noncomputable def R_steadfastlaw04_FramesPlay_48 (_base : Nat) (s : St) (v0 v1 v8 v10 v19 : V) : Option (Ex × Env × St) :=
  obind (vbin .add v19 (.int .i64 1)) fun x0 =>
  some (.normal, [(0, v0), (1, v1), (8, v8), (10, v10), (19, x0)], s)
@[go_sem] theorem rc_steadfastlaw04_FramesPlay_48 {base : Nat} {ρ : Env} {s : St} : rc D base (.reg (some [0, 1, 8, 10, 19]) o_steadfastlaw04_FramesPlay_48) ρ s = R_steadfastlaw04_FramesPlay_48 base s (get ρ 0) (get ρ 1) (get ρ 8) (get ρ 10) (get ρ 19) := rc_reg_O.trans (by kernel_rfl)
@[go_sem] noncomputable def R_steadfastlaw04_FramesPlay_49 (_base : Nat) (s : St) (v0 v1 v8 : V) : Option (Ex × Env × St) :=
  obind (vbin .sub v0 (.int .i64 1)) fun x0 =>
  obind (rf D f_frames_Frames_State [v8, x0] s) fun x1 =>
  obind (vbin .eql x1.1 (.int .i64 (-1))) fun x2 =>
  oguard x2 true (
    obind (rf D f_frames_Frames_State [v8, v1] x1.2) fun x3 =>
    obind (vbin .eql x3.1 (.int .i64 (-1))) fun x4 =>
    some (.normal, [(6, x4)], x3.2)) (
    some (.normal, [(6, (.bool false))], x1.2)) (
    none)
@[go_sem] theorem rc_steadfastlaw04_FramesPlay_49 {base : Nat} {ρ : Env} {s : St} : rc D base (.reg (some [6]) o_steadfastlaw04_FramesPlay_49) ρ s = R_steadfastlaw04_FramesPlay_49 base s (get ρ 0) (get ρ 1) (get ρ 8) := rc_reg_O.trans (by kernel_rfl)

@[go_sem] noncomputable def R_steadfastlaw04_shown_0 (_base : Nat) (s : St) : Option (Ex × Env × St) :=
  some (.normal, [], s)
@[go_sem] theorem rc_steadfastlaw04_shown_0 {base : Nat} {ρ : Env} {s : St} : rc D base (.reg (some []) o_steadfastlaw04_shown_0) ρ s = R_steadfastlaw04_shown_0 base s := rc_reg_O.trans (by kernel_rfl)
@[go_sem] noncomputable def R_steadfastlaw04_shown_1 (_base : Nat) (s : St) : Option (Ex × Env × St) :=
  obind (rf D f_frames_New [(.int .i64 2), (.int .i64 5)] s) fun x0 =>
  obind (extv 0 x0.1) fun x1 =>
  obind (extv 1 x0.1) fun x2 =>
  some (.normal, [(1, x1), (2, x2)], x0.2)
@[go_sem] theorem rc_steadfastlaw04_shown_1 {base : Nat} {ρ : Env} {s : St} : rc D base (.reg (some [1, 2]) o_steadfastlaw04_shown_1) ρ s = R_steadfastlaw04_shown_1 base s := rc_reg_O.trans (by kernel_rfl)
@[go_sem] noncomputable def R_steadfastlaw04_shown_2 (_base : Nat) (s : St) (v1 v2 : V) : Option (Ex × Env × St) :=
  obind (eqv false 1 v1 .nilp) fun x0 =>
  oguard x0 false (
    obind (vbin .neq v2 (.int .i64 0)) fun x1 =>
    some (.normal, [(1, v1), (23, x1)], s)) (
    some (.normal, [(1, v1), (23, (.bool true))], s)) (
    none)
@[go_sem] theorem rc_steadfastlaw04_shown_2 {base : Nat} {ρ : Env} {s : St} : rc D base (.reg (some [1, 23]) o_steadfastlaw04_shown_2) ρ s = R_steadfastlaw04_shown_2 base s (get ρ 1) (get ρ 2) := rc_reg_O.trans (by kernel_rfl)
@[go_sem] noncomputable def R_steadfastlaw04_shown_3 (_base : Nat) (s : St) : Option (Ex × Env × St) :=
  some (.normal, [(0, (.bool false))], s)
@[go_sem] theorem rc_steadfastlaw04_shown_3 {base : Nat} {ρ : Env} {s : St} : rc D base (.reg (some [0]) o_steadfastlaw04_shown_3) ρ s = R_steadfastlaw04_shown_3 base s := rc_reg_O.trans (by kernel_rfl)
@[go_sem] noncomputable def R_steadfastlaw04_shown_4 (_base : Nat) (s : St) (v1 : V) : Option (Ex × Env × St) :=
  obind (rf D f_frames_Frames_Alloc [v1] s) fun x0 =>
  obind (extv 0 x0.1) fun x1 =>
  obind (extv 1 x0.1) fun _x2 =>
  some (.normal, [(1, v1), (3, x1)], x0.2)
@[go_sem] theorem rc_steadfastlaw04_shown_4 {base : Nat} {ρ : Env} {s : St} : rc D base (.reg (some [1, 3]) o_steadfastlaw04_shown_4) ρ s = R_steadfastlaw04_shown_4 base s (get ρ 1) := rc_reg_O.trans (by kernel_rfl)
@[go_sem] noncomputable def R_steadfastlaw04_shown_5 (_base : Nat) (s : St) (v1 v3 : V) : Option (Ex × Env × St) :=
  obind (rf D f_frames_Frames_Alloc [v1] s) fun x0 =>
  obind (extv 0 x0.1) fun x1 =>
  obind (extv 1 x0.1) fun _x2 =>
  some (.normal, [(1, v1), (3, v3), (5, x1)], x0.2)
@[go_sem] theorem rc_steadfastlaw04_shown_5 {base : Nat} {ρ : Env} {s : St} : rc D base (.reg (some [1, 3, 5]) o_steadfastlaw04_shown_5) ρ s = R_steadfastlaw04_shown_5 base s (get ρ 1) (get ρ 3) := rc_reg_O.trans (by kernel_rfl)
@[go_sem] noncomputable def R_steadfastlaw04_shown_6 (_base : Nat) (s : St) (v1 v3 v5 : V) : Option (Ex × Env × St) :=
  obind (rf D f_frames_Frames_Later [v1, (.int .i64 2)] s) fun x0 =>
  some (.normal, [(1, v1), (3, v3), (5, v5), (7, x0.1)], x0.2)
@[go_sem] theorem rc_steadfastlaw04_shown_6 {base : Nat} {ρ : Env} {s : St} : rc D base (.reg (some [1, 3, 5, 7]) o_steadfastlaw04_shown_6) ρ s = R_steadfastlaw04_shown_6 base s (get ρ 1) (get ρ 3) (get ρ 5) := rc_reg_O.trans (by kernel_rfl)
@[go_sem] noncomputable def R_steadfastlaw04_shown_7 (_base : Nat) (s : St) (v1 v3 v5 v7 : V) : Option (Ex × Env × St) :=
  obind (rf D f_frames_Frames_Alloc [v1] s) fun x0 =>
  obind (extv 0 x0.1) fun x1 =>
  obind (extv 1 x0.1) fun _x2 =>
  some (.normal, [(1, v1), (3, v3), (5, v5), (7, v7), (8, x1)], x0.2)
@[go_sem] theorem rc_steadfastlaw04_shown_7 {base : Nat} {ρ : Env} {s : St} : rc D base (.reg (some [1, 3, 5, 7, 8]) o_steadfastlaw04_shown_7) ρ s = R_steadfastlaw04_shown_7 base s (get ρ 1) (get ρ 3) (get ρ 5) (get ρ 7) := rc_reg_O.trans (by kernel_rfl)
@[go_sem] noncomputable def R_steadfastlaw04_shown_8 (_base : Nat) (s : St) (v1 v3 v5 v7 v8 : V) : Option (Ex × Env × St) :=
  obind (rf D f_frames_Frames_Alloc [v1] s) fun x0 =>
  obind (extv 0 x0.1) fun _x1 =>
  obind (extv 1 x0.1) fun x2 =>
  some (.normal, [(1, v1), (3, v3), (5, v5), (7, v7), (8, v8), (11, x2)], x0.2)
@[go_sem] theorem rc_steadfastlaw04_shown_8 {base : Nat} {ρ : Env} {s : St} : rc D base (.reg (some [1, 3, 5, 7, 8, 11]) o_steadfastlaw04_shown_8) ρ s = R_steadfastlaw04_shown_8 base s (get ρ 1) (get ρ 3) (get ρ 5) (get ρ 7) (get ρ 8) := rc_reg_O.trans (by kernel_rfl)
@[go_sem] noncomputable def R_steadfastlaw04_shown_9 (_base : Nat) (s : St) (v1 v3 v5 v7 v8 v11 : V) : Option (Ex × Env × St) :=
  obind (rf D f_frames_Frames_Settle [v1] s) fun x0 =>
  some (.normal, [(1, v1), (3, v3), (5, v5), (7, v7), (8, v8), (11, v11)], x0.2)
@[go_sem] theorem rc_steadfastlaw04_shown_9 {base : Nat} {ρ : Env} {s : St} : rc D base (.reg (some [1, 3, 5, 7, 8, 11]) o_steadfastlaw04_shown_9) ρ s = R_steadfastlaw04_shown_9 base s (get ρ 1) (get ρ 3) (get ρ 5) (get ρ 7) (get ρ 8) (get ρ 11) := rc_reg_O.trans (by kernel_rfl)
@[go_sem] noncomputable def R_steadfastlaw04_shown_10 (_base : Nat) (s : St) (v1 v3 v5 v7 v8 v11 : V) : Option (Ex × Env × St) :=
  obind (rf D f_frames_Frames_Alloc [v1] s) fun x0 =>
  obind (extv 0 x0.1) fun x1 =>
  obind (extv 1 x0.1) fun _x2 =>
  some (.normal, [(1, v1), (3, v3), (5, v5), (7, v7), (8, v8), (11, v11), (12, x1)], x0.2)
@[go_sem] theorem rc_steadfastlaw04_shown_10 {base : Nat} {ρ : Env} {s : St} : rc D base (.reg (some [1, 3, 5, 7, 8, 11, 12]) o_steadfastlaw04_shown_10) ρ s = R_steadfastlaw04_shown_10 base s (get ρ 1) (get ρ 3) (get ρ 5) (get ρ 7) (get ρ 8) (get ρ 11) := rc_reg_O.trans (by kernel_rfl)
@[go_sem] noncomputable def R_steadfastlaw04_shown_11 (_base : Nat) (s : St) (v1 v3 v5 v7 v8 v11 v12 : V) : Option (Ex × Env × St) :=
  obind (vbin .eql v3 (.int .i64 2)) fun x0 =>
  oguard x0 true (
    obind (vbin .eql v5 (.int .i64 3)) fun x1 =>
    oguard x1 true (
      obind (vbin .eql v7 (.int .i64 0)) fun x2 =>
      oguard x2 true (
        obind (vbin .eql v8 (.int .i64 4)) fun x3 =>
        oguard x3 true (
          obind (vbin .eql v11 (.int .i64 10)) fun x4 =>
          oguard x4 true (
            obind (vbin .eql v12 (.int .i64 2)) fun x5 =>
            oguard x5 true (
              obind (rf D f_frames_Frames_Free [v1, (.int .i64 9)] s) fun x6 =>
              obind (vbin .eql x6.1 (.int .i64 1)) fun x7 =>
              some (.normal, [(0, x7)], x6.2)) (
              some (.normal, [(0, (.bool false))], s)) (
              none)) (
            some (.normal, [(0, (.bool false))], s)) (
            none)) (
          some (.normal, [(0, (.bool false))], s)) (
          none)) (
        some (.normal, [(0, (.bool false))], s)) (
        none)) (
      some (.normal, [(0, (.bool false))], s)) (
      none)) (
    some (.normal, [(0, (.bool false))], s)) (
    none)
@[go_sem] theorem rc_steadfastlaw04_shown_11 {base : Nat} {ρ : Env} {s : St} : rc D base (.reg (some [0]) o_steadfastlaw04_shown_11) ρ s = R_steadfastlaw04_shown_11 base s (get ρ 1) (get ρ 3) (get ρ 5) (get ρ 7) (get ρ 8) (get ρ 11) (get ρ 12) := rc_reg_O.trans (by kernel_rfl)

@[go_sem] noncomputable def R_frames_New_0 (_base : Nat) (s : St) (v0 v1 : V) : Option (Ex × Env × St) :=
  some (.normal, [(0, v0), (1, v1)], s)
@[go_sem] theorem rc_frames_New_0 {base : Nat} {ρ : Env} {s : St} : rc D base (.reg (some [0, 1]) o_frames_New_0) ρ s = R_frames_New_0 base s (get ρ 0) (get ρ 1) := rc_reg_O.trans (by kernel_rfl)
@[go_sem] noncomputable def R_frames_New_1 (_base : Nat) (s : St) (v0 v1 : V) : Option (Ex × Env × St) :=
  obind (vbin .lss v0 (.int .i64 0)) fun x0 =>
  oguard x0 false (
    obind (vbin .gtr v0 v1) fun x1 =>
    oguard x1 false (
      obind (vbin .gtr v1 (.int .i64 1024)) fun x2 =>
      some (.normal, [(0, v0), (1, v1), (18, x2)], s)) (
      some (.normal, [(0, v0), (1, v1), (18, (.bool true))], s)) (
      none)) (
    some (.normal, [(0, v0), (1, v1), (18, (.bool true))], s)) (
    none)
@[go_sem] theorem rc_frames_New_1 {base : Nat} {ρ : Env} {s : St} : rc D base (.reg (some [0, 1, 18]) o_frames_New_1) ρ s = R_frames_New_1 base s (get ρ 0) (get ρ 1) := rc_reg_O.trans (by kernel_rfl)
@[go_sem] noncomputable def R_frames_New_2 (_base : Nat) (s : St) : Option (Ex × Env × St) :=
  some (.normal, [(4, .nilp), (5, (.int .i64 1))], s)
@[go_sem] theorem rc_frames_New_2 {base : Nat} {ρ : Env} {s : St} : rc D base (.reg (some [4, 5]) o_frames_New_2) ρ s = R_frames_New_2 base s := rc_reg_O.trans (by kernel_rfl)
@[go_sem] noncomputable def R_frames_New_3 (_base : Nat) (s : St) (v0 v1 : V) : Option (Ex × Env × St) :=
  obind (setParts [(.int .i64 0), (.int .i64 0), (.agg 78 (List.replicate 16 (.int .u64 0))), (.agg 78 (List.replicate 16 (.int .u64 0)))] [(0, v0), (1, v1)]) fun x0 =>
  if V.ok (.agg 80 x0) && mayNew true (.agg 80 x0) then let x1 : V := .ptr (St.fresh s true) [] (V.tag (.agg 80 x0)); let s1 : St := St.new s true (.agg 80 x0)
  some (.normal, [(0, v0), (1, v1), (6, x1)], s1)
  else none
@[go_sem] theorem rc_frames_New_3 {base : Nat} {ρ : Env} {s : St} : rc D base (.reg (some [0, 1, 6]) o_frames_New_3) ρ s = R_frames_New_3 base s (get ρ 0) (get ρ 1) := rc_reg_O.trans (by kernel_rfl)
@[go_sem] noncomputable def R_frames_New_4 (_base : Nat) (s : St) (v0 v1 v6 : V) : Option (Ex × Env × St) :=
  obind (vbin .sub v1 v0) fun x0 =>
  some (.normal, [(0, v0), (6, v6), (25, x0), (26, (.int .i64 0))], s)
@[go_sem] theorem rc_frames_New_4 {base : Nat} {ρ : Env} {s : St} : rc D base (.reg (some [0, 6, 25, 26]) o_frames_New_4) ρ s = R_frames_New_4 base s (get ρ 0) (get ρ 1) (get ρ 6) := rc_reg_O.trans (by kernel_rfl)
@[go_sem] noncomputable def R_frames_New_5 (_base : Nat) (s : St) (v0 v6 v25 v26 : V) : Option (Ex × Env × St) :=
  obind (vbin .lss v26 v25) fun x0 =>
  some (.normal, [(0, v0), (6, v6), (25, v25), (26, v26), (27, x0)], s)
@[go_sem] theorem rc_frames_New_5 {base : Nat} {ρ : Env} {s : St} : rc D base (.reg (some [0, 6, 25, 26, 27]) o_frames_New_5) ρ s = R_frames_New_5 base s (get ρ 0) (get ρ 6) (get ρ 25) (get ρ 26) := rc_reg_O.trans (by kernel_rfl)
@[go_sem] noncomputable def R_frames_New_6 (_base : Nat) (s : St) (v0 v6 v25 v26 : V) : Option (Ex × Env × St) :=
  some (.normal, [(0, v0), (6, v6), (7, v26), (25, v25), (26, v26)], s)
@[go_sem] theorem rc_frames_New_6 {base : Nat} {ρ : Env} {s : St} : rc D base (.reg (some [0, 6, 7, 25, 26]) o_frames_New_6) ρ s = R_frames_New_6 base s (get ρ 0) (get ρ 6) (get ρ 25) (get ρ 26) := rc_reg_O.trans (by kernel_rfl)
@[go_sem] noncomputable def R_frames_New_7 (_base : Nat) (s : St) (v0 v6 v7 v25 v26 : V) : Option (Ex × Env × St) :=
  obind (nilv v6) fun x0 =>
  obind (fadv 80 2 78 x0) fun x1 =>
  obind (vbin .add v0 v7) fun x2 =>
  obind (rf D f_frames_set_turn [x1, x2] s) fun x3 =>
  some (.normal, [(0, v0), (6, v6), (25, v25), (26, v26)], x3.2)
@[go_sem] theorem rc_frames_New_7 {base : Nat} {ρ : Env} {s : St} : rc D base (.reg (some [0, 6, 25, 26]) o_frames_New_7) ρ s = R_frames_New_7 base s (get ρ 0) (get ρ 6) (get ρ 7) (get ρ 25) (get ρ 26) := rc_reg_O.trans (by kernel_rfl)
@[go_sem] noncomputable def R_frames_New_8 (_base : Nat) (s : St) (v0 v6 v25 v26 : V) : Option (Ex × Env × St) :=
  obind (vbin .add v26 (.int .i64 1)) fun x0 =>
  some (.normal, [(0, v0), (6, v6), (25, v25), (26, x0)], s)
@[go_sem] theorem rc_frames_New_8 {base : Nat} {ρ : Env} {s : St} : rc D base (.reg (some [0, 6, 25, 26]) o_frames_New_8) ρ s = R_frames_New_8 base s (get ρ 0) (get ρ 6) (get ρ 25) (get ρ 26) := rc_reg_O.trans (by kernel_rfl)
@[go_sem] noncomputable def R_frames_New_9 (_base : Nat) (s : St) (v6 : V) : Option (Ex × Env × St) :=
  some (.normal, [(4, v6), (5, (.int .i64 0))], s)
@[go_sem] theorem rc_frames_New_9 {base : Nat} {ρ : Env} {s : St} : rc D base (.reg (some [4, 5]) o_frames_New_9) ρ s = R_frames_New_9 base s (get ρ 6) := rc_reg_O.trans (by kernel_rfl)

@[go_sem] noncomputable def R_steadfastlaw04_kind_0 (_base : Nat) (s : St) (v0 v1 : V) : Option (Ex × Env × St) :=
  some (.normal, [(0, v0), (1, v1)], s)
@[go_sem] theorem rc_steadfastlaw04_kind_0 {base : Nat} {ρ : Env} {s : St} : rc D base (.reg (some [0, 1]) o_steadfastlaw04_kind_0) ρ s = R_steadfastlaw04_kind_0 base s (get ρ 0) (get ρ 1) := rc_reg_O.trans (by kernel_rfl)
@[go_sem] noncomputable def R_steadfastlaw04_kind_1 (_base : Nat) (s : St) (v0 v1 : V) : Option (Ex × Env × St) :=
  obind (vbin .lss v0 (.int .i64 0)) fun x0 =>
  some (.normal, [(0, v0), (1, v1), (6, x0)], s)
@[go_sem] theorem rc_steadfastlaw04_kind_1 {base : Nat} {ρ : Env} {s : St} : rc D base (.reg (some [0, 1, 6]) o_steadfastlaw04_kind_1) ρ s = R_steadfastlaw04_kind_1 base s (get ρ 0) (get ρ 1) := rc_reg_O.trans (by kernel_rfl)
@[go_sem] noncomputable def R_steadfastlaw04_kind_2 (_base : Nat) (s : St) (v0 v1 : V) : Option (Ex × Env × St) :=
  obind (vbin .add v0 (.int .i64 1)) fun x0 =>
  obind (vun .neg x0) fun x1 =>
  some (.normal, [(0, x1), (1, v1)], s)
@[go_sem] theorem rc_steadfastlaw04_kind_2 {base : Nat} {ρ : Env} {s : St} : rc D base (.reg (some [0, 1]) o_steadfastlaw04_kind_2) ρ s = R_steadfastlaw04_kind_2 base s (get ρ 0) (get ρ 1) := rc_reg_O.trans (by kernel_rfl)
@[go_sem] noncomputable def R_steadfastlaw04_kind_3 (_base : Nat) (s : St) (v0 v1 : V) : Option (Ex × Env × St) :=
  obind (vbin .rem v0 v1) fun x0 =>
  some (.normal, [(4, x0)], s)
@[go_sem] theorem rc_steadfastlaw04_kind_3 {base : Nat} {ρ : Env} {s : St} : rc D base (.reg (some [4]) o_steadfastlaw04_kind_3) ρ s = R_steadfastlaw04_kind_3 base s (get ρ 0) (get ρ 1) := rc_reg_O.trans (by kernel_rfl)

@[go_sem] noncomputable def R_frames_Frames_Alloc_0 (_base : Nat) (s : St) (v0 : V) : Option (Ex × Env × St) :=
  some (.normal, [(0, v0)], s)
@[go_sem] theorem rc_frames_Frames_Alloc_0 {base : Nat} {ρ : Env} {s : St} : rc D base (.reg (some [0]) o_frames_Frames_Alloc_0) ρ s = R_frames_Frames_Alloc_0 base s (get ρ 0) := rc_reg_O.trans (by kernel_rfl)
@[go_sem] noncomputable def R_frames_Frames_Alloc_1 (_base : Nat) (s : St) (v0 : V) : Option (Ex × Env × St) :=
  obind (nilv v0) fun x0 =>
  obind (fadv 80 2 78 x0) fun x1 =>
  obind (ldv s 78 x1) fun x2 =>
  some (.normal, [(0, v0), (10, x2), (11, (.int .i64 0))], s)
@[go_sem] theorem rc_frames_Frames_Alloc_1 {base : Nat} {ρ : Env} {s : St} : rc D base (.reg (some [0, 10, 11]) o_frames_Frames_Alloc_1) ρ s = R_frames_Frames_Alloc_1 base s (get ρ 0) := rc_reg_O.trans (by kernel_rfl)
@[go_sem] noncomputable def R_frames_Frames_Alloc_2 (_base : Nat) (s : St) (v0 v10 v11 : V) : Option (Ex × Env × St) :=
  obind (vbin .lss v11 (.int .i64 16)) fun x0 =>
  some (.normal, [(0, v0), (10, v10), (11, v11), (12, x0)], s)
@[go_sem] theorem rc_frames_Frames_Alloc_2 {base : Nat} {ρ : Env} {s : St} : rc D base (.reg (some [0, 10, 11, 12]) o_frames_Frames_Alloc_2) ρ s = R_frames_Frames_Alloc_2 base s (get ρ 0) (get ρ 10) (get ρ 11) := rc_reg_O.trans (by kernel_rfl)
@[go_sem] noncomputable def R_frames_Frames_Alloc_3 (_base : Nat) (s : St) (v0 v10 v11 : V) : Option (Ex × Env × St) :=
  obind (idxv 78 16 v10 v11) fun x0 =>
  some (.normal, [(0, v0), (4, v11), (5, x0), (10, v10), (11, v11)], s)
@[go_sem] theorem rc_frames_Frames_Alloc_3 {base : Nat} {ρ : Env} {s : St} : rc D base (.reg (some [0, 4, 5, 10, 11]) o_frames_Frames_Alloc_3) ρ s = R_frames_Frames_Alloc_3 base s (get ρ 0) (get ρ 10) (get ρ 11) := rc_reg_O.trans (by kernel_rfl)
@[go_sem] noncomputable def R_frames_Frames_Alloc_4 (_base : Nat) (s : St) (v0 v4 v5 v10 v11 : V) : Option (Ex × Env × St) :=
  obind (vbin .neq v5 (.int .u64 0)) fun x0 =>
  some (.normal, [(0, v0), (4, v4), (5, v5), (10, v10), (11, v11), (16, x0)], s)
@[go_sem] theorem rc_frames_Frames_Alloc_4 {base : Nat} {ρ : Env} {s : St} : rc D base (.reg (some [0, 4, 5, 10, 11, 16]) o_frames_Frames_Alloc_4) ρ s = R_frames_Frames_Alloc_4 base s (get ρ 0) (get ρ 4) (get ρ 5) (get ρ 10) (get ρ 11) := rc_reg_O.trans (by kernel_rfl)
@[go_sem] noncomputable def R_frames_Frames_Alloc_5 (_base : Nat) (s : St) (v0 v4 v5 : V) : Option (Ex × Env × St) :=
  obind (vbin .mul (.int .i64 64) v4) fun x0 =>
  obind (rf D f_math_bits_TrailingZeros64 [v5] s) fun x1 =>
  obind (vbin .add x0 x1.1) fun x2 =>
  some (.normal, [(0, v0), (6, x2)], x1.2)
@[go_sem] theorem rc_frames_Frames_Alloc_5 {base : Nat} {ρ : Env} {s : St} : rc D base (.reg (some [0, 6]) o_frames_Frames_Alloc_5) ρ s = R_frames_Frames_Alloc_5 base s (get ρ 0) (get ρ 4) (get ρ 5) := rc_reg_O.trans (by kernel_rfl)
@[go_sem] noncomputable def R_frames_Frames_Alloc_6 (_base : Nat) (s : St) (v0 v6 : V) : Option (Ex × Env × St) :=
  obind (nilv v0) fun x0 =>
  obind (fadv 80 2 78 x0) fun x1 =>
  obind (rf D f_frames_set_turn [x1, v6] s) fun x2 =>
  some (.normal, [(6, v6)], x2.2)
@[go_sem] theorem rc_frames_Frames_Alloc_6 {base : Nat} {ρ : Env} {s : St} : rc D base (.reg (some [6]) o_frames_Frames_Alloc_6) ρ s = R_frames_Frames_Alloc_6 base s (get ρ 0) (get ρ 6) := rc_reg_O.trans (by kernel_rfl)
@[go_sem] noncomputable def R_frames_Frames_Alloc_7 (_base : Nat) (s : St) (v6 : V) : Option (Ex × Env × St) :=
  some (.normal, [(2, v6), (3, (.int .i64 0))], s)
@[go_sem] theorem rc_frames_Frames_Alloc_7 {base : Nat} {ρ : Env} {s : St} : rc D base (.reg (some [2, 3]) o_frames_Frames_Alloc_7) ρ s = R_frames_Frames_Alloc_7 base s (get ρ 6) := rc_reg_O.trans (by kernel_rfl)
@[go_sem] noncomputable def R_frames_Frames_Alloc_8 (_base : Nat) (s : St) (v0 v10 v11 : V) : Option (Ex × Env × St) :=
  obind (vbin .add v11 (.int .i64 1)) fun x0 =>
  some (.normal, [(0, v0), (10, v10), (11, x0)], s)
@[go_sem] theorem rc_frames_Frames_Alloc_8 {base : Nat} {ρ : Env} {s : St} : rc D base (.reg (some [0, 10, 11]) o_frames_Frames_Alloc_8) ρ s = R_frames_Frames_Alloc_8 base s (get ρ 0) (get ρ 10) (get ρ 11) := rc_reg_O.trans (by kernel_rfl)
@[go_sem] noncomputable def R_frames_Frames_Alloc_9 (_base : Nat) (s : St) : Option (Ex × Env × St) :=
  some (.normal, [(2, (.int .i64 0)), (3, (.int .i64 10))], s)
@[go_sem] theorem rc_frames_Frames_Alloc_9 {base : Nat} {ρ : Env} {s : St} : rc D base (.reg (some [2, 3]) o_frames_Frames_Alloc_9) ρ s = R_frames_Frames_Alloc_9 base s := rc_reg_O.trans (by kernel_rfl)

@[go_sem] noncomputable def R_frames_Frames_Left_0 (_base : Nat) (s : St) (v0 : V) : Option (Ex × Env × St) :=
  some (.normal, [(0, v0)], s)
@[go_sem] theorem rc_frames_Frames_Left_0 {base : Nat} {ρ : Env} {s : St} : rc D base (.reg (some [0]) o_frames_Frames_Left_0) ρ s = R_frames_Frames_Left_0 base s (get ρ 0) := rc_reg_O.trans (by kernel_rfl)
@[go_sem] noncomputable def R_frames_Frames_Left_1 (_base : Nat) (s : St) (v0 : V) : Option (Ex × Env × St) :=
  some (.normal, [(0, v0), (3, (.int .i64 0))], s)
@[go_sem] theorem rc_frames_Frames_Left_1 {base : Nat} {ρ : Env} {s : St} : rc D base (.reg (some [0, 3]) o_frames_Frames_Left_1) ρ s = R_frames_Frames_Left_1 base s (get ρ 0) := rc_reg_O.trans (by kernel_rfl)
@[go_sem] noncomputable def R_frames_Frames_Left_2 (_base : Nat) (s : St) (v0 v3 : V) : Option (Ex × Env × St) :=
  obind (nilv v0) fun x0 =>
  obind (fadv 80 2 78 x0) fun x1 =>
  obind (ldv s 78 x1) fun x2 =>
  some (.normal, [(3, v3), (9, x2), (10, (.int .i64 0))], s)
@[go_sem] theorem rc_frames_Frames_Left_2 {base : Nat} {ρ : Env} {s : St} : rc D base (.reg (some [3, 9, 10]) o_frames_Frames_Left_2) ρ s = R_frames_Frames_Left_2 base s (get ρ 0) (get ρ 3) := rc_reg_O.trans (by kernel_rfl)
@[go_sem] noncomputable def R_frames_Frames_Left_3 (_base : Nat) (s : St) (v3 v9 v10 : V) : Option (Ex × Env × St) :=
  obind (vbin .lss v10 (.int .i64 16)) fun x0 =>
  some (.normal, [(3, v3), (9, v9), (10, v10), (11, x0)], s)
@[go_sem] theorem rc_frames_Frames_Left_3 {base : Nat} {ρ : Env} {s : St} : rc D base (.reg (some [3, 9, 10, 11]) o_frames_Frames_Left_3) ρ s = R_frames_Frames_Left_3 base s (get ρ 3) (get ρ 9) (get ρ 10) := rc_reg_O.trans (by kernel_rfl)
@[go_sem] noncomputable def R_frames_Frames_Left_4 (_base : Nat) (s : St) (v3 v9 v10 : V) : Option (Ex × Env × St) :=
  obind (idxv 78 16 v9 v10) fun x0 =>
  some (.normal, [(3, v3), (5, x0), (9, v9), (10, v10)], s)
@[go_sem] theorem rc_frames_Frames_Left_4 {base : Nat} {ρ : Env} {s : St} : rc D base (.reg (some [3, 5, 9, 10]) o_frames_Frames_Left_4) ρ s = R_frames_Frames_Left_4 base s (get ρ 3) (get ρ 9) (get ρ 10) := rc_reg_O.trans (by kernel_rfl)
@[go_sem] noncomputable def R_frames_Frames_Left_5 (_base : Nat) (s : St) (v3 v5 v9 v10 : V) : Option (Ex × Env × St) :=
  obind (rf D f_math_bits_OnesCount64 [v5] s) fun x0 =>
  obind (vbin .add v3 x0.1) fun x1 =>
  some (.normal, [(3, x1), (9, v9), (10, v10)], x0.2)
@[go_sem] theorem rc_frames_Frames_Left_5 {base : Nat} {ρ : Env} {s : St} : rc D base (.reg (some [3, 9, 10]) o_frames_Frames_Left_5) ρ s = R_frames_Frames_Left_5 base s (get ρ 3) (get ρ 5) (get ρ 9) (get ρ 10) := rc_reg_O.trans (by kernel_rfl)
@[go_sem] noncomputable def R_frames_Frames_Left_6 (_base : Nat) (s : St) (v3 v9 v10 : V) : Option (Ex × Env × St) :=
  obind (vbin .add v10 (.int .i64 1)) fun x0 =>
  some (.normal, [(3, v3), (9, v9), (10, x0)], s)
@[go_sem] theorem rc_frames_Frames_Left_6 {base : Nat} {ρ : Env} {s : St} : rc D base (.reg (some [3, 9, 10]) o_frames_Frames_Left_6) ρ s = R_frames_Frames_Left_6 base s (get ρ 3) (get ρ 9) (get ρ 10) := rc_reg_O.trans (by kernel_rfl)
@[go_sem] noncomputable def R_frames_Frames_Left_7 (_base : Nat) (s : St) (v3 : V) : Option (Ex × Env × St) :=
  some (.normal, [(2, v3)], s)
@[go_sem] theorem rc_frames_Frames_Left_7 {base : Nat} {ρ : Env} {s : St} : rc D base (.reg (some [2]) o_frames_Frames_Left_7) ρ s = R_frames_Frames_Left_7 base s (get ρ 3) := rc_reg_O.trans (by kernel_rfl)

@[go_sem] noncomputable def R_frames_Frames_Free_0 (_base : Nat) (s : St) (v0 v1 : V) : Option (Ex × Env × St) :=
  some (.normal, [(0, v0), (1, v1)], s)
@[go_sem] theorem rc_frames_Frames_Free_0 {base : Nat} {ρ : Env} {s : St} : rc D base (.reg (some [0, 1]) o_frames_Frames_Free_0) ρ s = R_frames_Frames_Free_0 base s (get ρ 0) (get ρ 1) := rc_reg_O.trans (by kernel_rfl)
@[go_sem] noncomputable def R_frames_Frames_Free_1 (_base : Nat) (s : St) (v0 v1 : V) : Option (Ex × Env × St) :=
  obind (rf D f_frames_Frames_in [v0, v1, (.int .i64 1)] s) fun x0 =>
  some (.normal, [(0, v0), (1, v1), (5, x0.1)], x0.2)
@[go_sem] theorem rc_frames_Frames_Free_1 {base : Nat} {ρ : Env} {s : St} : rc D base (.reg (some [0, 1, 5]) o_frames_Frames_Free_1) ρ s = R_frames_Frames_Free_1 base s (get ρ 0) (get ρ 1) := rc_reg_O.trans (by kernel_rfl)
@[go_sem] noncomputable def R_frames_Frames_Free_2 (_base : Nat) (s : St) (v0 v1 v5 : V) : Option (Ex × Env × St) :=
  obind (vbin .eql v5 (.int .i64 0)) fun x0 =>
  some (.normal, [(0, v0), (1, v1), (5, v5), (10, x0)], s)
@[go_sem] theorem rc_frames_Frames_Free_2 {base : Nat} {ρ : Env} {s : St} : rc D base (.reg (some [0, 1, 5, 10]) o_frames_Frames_Free_2) ρ s = R_frames_Frames_Free_2 base s (get ρ 0) (get ρ 1) (get ρ 5) := rc_reg_O.trans (by kernel_rfl)
@[go_sem] noncomputable def R_frames_Frames_Free_3 (_base : Nat) (s : St) (v0 v1 v5 : V) : Option (Ex × Env × St) :=
  obind (nilv v0) fun x0 =>
  obind (fadv 80 2 78 x0) fun x1 =>
  obind (rf D f_frames_set_turn [x1, v1] s) fun x2 =>
  some (.normal, [(5, v5)], x2.2)
@[go_sem] theorem rc_frames_Frames_Free_3 {base : Nat} {ρ : Env} {s : St} : rc D base (.reg (some [5]) o_frames_Frames_Free_3) ρ s = R_frames_Frames_Free_3 base s (get ρ 0) (get ρ 1) (get ρ 5) := rc_reg_O.trans (by kernel_rfl)
@[go_sem] noncomputable def R_frames_Frames_Free_4 (_base : Nat) (s : St) (v5 : V) : Option (Ex × Env × St) :=
  some (.normal, [(4, v5)], s)
@[go_sem] theorem rc_frames_Frames_Free_4 {base : Nat} {ρ : Env} {s : St} : rc D base (.reg (some [4]) o_frames_Frames_Free_4) ρ s = R_frames_Frames_Free_4 base s (get ρ 5) := rc_reg_O.trans (by kernel_rfl)

@[go_sem] noncomputable def R_frames_Frames_Later_0 (_base : Nat) (s : St) (v0 v1 : V) : Option (Ex × Env × St) :=
  some (.normal, [(0, v0), (1, v1)], s)
@[go_sem] theorem rc_frames_Frames_Later_0 {base : Nat} {ρ : Env} {s : St} : rc D base (.reg (some [0, 1]) o_frames_Frames_Later_0) ρ s = R_frames_Frames_Later_0 base s (get ρ 0) (get ρ 1) := rc_reg_O.trans (by kernel_rfl)
@[go_sem] noncomputable def R_frames_Frames_Later_1 (_base : Nat) (s : St) (v0 v1 : V) : Option (Ex × Env × St) :=
  obind (rf D f_frames_Frames_in [v0, v1, (.int .i64 1)] s) fun x0 =>
  some (.normal, [(0, v0), (1, v1), (5, x0.1)], x0.2)
@[go_sem] theorem rc_frames_Frames_Later_1 {base : Nat} {ρ : Env} {s : St} : rc D base (.reg (some [0, 1, 5]) o_frames_Frames_Later_1) ρ s = R_frames_Frames_Later_1 base s (get ρ 0) (get ρ 1) := rc_reg_O.trans (by kernel_rfl)
@[go_sem] noncomputable def R_frames_Frames_Later_2 (_base : Nat) (s : St) (v0 v1 v5 : V) : Option (Ex × Env × St) :=
  obind (vbin .eql v5 (.int .i64 0)) fun x0 =>
  some (.normal, [(0, v0), (1, v1), (5, v5), (10, x0)], s)
@[go_sem] theorem rc_frames_Frames_Later_2 {base : Nat} {ρ : Env} {s : St} : rc D base (.reg (some [0, 1, 5, 10]) o_frames_Frames_Later_2) ρ s = R_frames_Frames_Later_2 base s (get ρ 0) (get ρ 1) (get ρ 5) := rc_reg_O.trans (by kernel_rfl)
@[go_sem] noncomputable def R_frames_Frames_Later_3 (_base : Nat) (s : St) (v0 v1 v5 : V) : Option (Ex × Env × St) :=
  obind (nilv v0) fun x0 =>
  obind (fadv 80 3 78 x0) fun x1 =>
  obind (rf D f_frames_set_turn [x1, v1] s) fun x2 =>
  some (.normal, [(5, v5)], x2.2)
@[go_sem] theorem rc_frames_Frames_Later_3 {base : Nat} {ρ : Env} {s : St} : rc D base (.reg (some [5]) o_frames_Frames_Later_3) ρ s = R_frames_Frames_Later_3 base s (get ρ 0) (get ρ 1) (get ρ 5) := rc_reg_O.trans (by kernel_rfl)
@[go_sem] noncomputable def R_frames_Frames_Later_4 (_base : Nat) (s : St) (v5 : V) : Option (Ex × Env × St) :=
  some (.normal, [(4, v5)], s)
@[go_sem] theorem rc_frames_Frames_Later_4 {base : Nat} {ρ : Env} {s : St} : rc D base (.reg (some [4]) o_frames_Frames_Later_4) ρ s = R_frames_Frames_Later_4 base s (get ρ 5) := rc_reg_O.trans (by kernel_rfl)

@[go_sem] noncomputable def R_frames_Frames_Settle_0 (_base : Nat) (s : St) (v0 : V) : Option (Ex × Env × St) :=
  obind (nilv v0) fun x0 =>
  obind (fadv 80 3 78 x0) fun x1 =>
  obind (ldv s 78 x1) fun x2 =>
  some (.normal, [(0, v0), (7, x2), (8, (.int .i64 0))], s)
@[go_sem] theorem rc_frames_Frames_Settle_0 {base : Nat} {ρ : Env} {s : St} : rc D base (.reg (some [0, 7, 8]) o_frames_Frames_Settle_0) ρ s = R_frames_Frames_Settle_0 base s (get ρ 0) := rc_reg_O.trans (by kernel_rfl)
@[go_sem] noncomputable def R_frames_Frames_Settle_1 (_base : Nat) (s : St) (v0 v7 v8 : V) : Option (Ex × Env × St) :=
  obind (vbin .lss v8 (.int .i64 16)) fun x0 =>
  some (.normal, [(0, v0), (7, v7), (8, v8), (9, x0)], s)
@[go_sem] theorem rc_frames_Frames_Settle_1 {base : Nat} {ρ : Env} {s : St} : rc D base (.reg (some [0, 7, 8, 9]) o_frames_Frames_Settle_1) ρ s = R_frames_Frames_Settle_1 base s (get ρ 0) (get ρ 7) (get ρ 8) := rc_reg_O.trans (by kernel_rfl)
@[go_sem] noncomputable def R_frames_Frames_Settle_2 (_base : Nat) (s : St) (v0 v7 v8 : V) : Option (Ex × Env × St) :=
  obind (idxv 78 16 v7 v8) fun x0 =>
  some (.normal, [(0, v0), (2, v8), (3, x0), (7, v7), (8, v8)], s)
@[go_sem] theorem rc_frames_Frames_Settle_2 {base : Nat} {ρ : Env} {s : St} : rc D base (.reg (some [0, 2, 3, 7, 8]) o_frames_Frames_Settle_2) ρ s = R_frames_Frames_Settle_2 base s (get ρ 0) (get ρ 7) (get ρ 8) := rc_reg_O.trans (by kernel_rfl)
@[go_sem] noncomputable def R_frames_Frames_Settle_3 (base : Nat) (s : St) (v0 v2 v3 v7 v8 : V) : Option (Ex × Env × St) :=
  obind (nilv v0) fun x0 =>
  obind (fadv 80 2 78 x0) fun x1 =>
  obind (iadv 78 16 18 x1 v2) fun x2 =>
  obind (ldv s 18 x2) fun x3 =>
  obind (vbin .or x3 v3) fun x4 =>
  obind (nilv v0) fun x5 =>
  obind (fadv 80 2 78 x5) fun x6 =>
  obind (iadv 78 16 18 x6 v2) fun x7 =>
  obind (stv base s 18 x4 x7) fun s8 =>
  some (.normal, [(0, v0), (7, v7), (8, v8)], s8)
@[go_sem] theorem rc_frames_Frames_Settle_3 {base : Nat} {ρ : Env} {s : St} : rc D base (.regd (some [0, 7, 8]) o_frames_Frames_Settle_3) ρ s = R_frames_Frames_Settle_3 base s (get ρ 0) (get ρ 2) (get ρ 3) (get ρ 7) (get ρ 8) := rc_regd_O.trans (by kernel_rfl)
@[go_sem] noncomputable def R_frames_Frames_Settle_4 (_base : Nat) (s : St) (v0 v7 v8 : V) : Option (Ex × Env × St) :=
  obind (vbin .add v8 (.int .i64 1)) fun x0 =>
  some (.normal, [(0, v0), (7, v7), (8, x0)], s)
@[go_sem] theorem rc_frames_Frames_Settle_4 {base : Nat} {ρ : Env} {s : St} : rc D base (.reg (some [0, 7, 8]) o_frames_Frames_Settle_4) ρ s = R_frames_Frames_Settle_4 base s (get ρ 0) (get ρ 7) (get ρ 8) := rc_reg_O.trans (by kernel_rfl)
@[go_sem] noncomputable def R_frames_Frames_Settle_5 (base : Nat) (s : St) (v0 : V) : Option (Ex × Env × St) :=
  obind (setParts (List.replicate 16 (.int .u64 0)) []) fun x0 =>
  obind (nilv v0) fun x1 =>
  obind (fadv 80 3 78 x1) fun x2 =>
  obind (stv base s 78 (.agg 78 x0) x2) fun s3 =>
  some (.normal, [], s3)
@[go_sem] theorem rc_frames_Frames_Settle_5 {base : Nat} {ρ : Env} {s : St} : rc D base (.reg (some []) o_frames_Frames_Settle_5) ρ s = R_frames_Frames_Settle_5 base s (get ρ 0) := rc_reg_O.trans (by kernel_rfl)

@[go_sem] noncomputable def R_frames_Frames_State_0 (_base : Nat) (s : St) (v0 v1 : V) : Option (Ex × Env × St) :=
  some (.normal, [(0, v0), (1, v1)], s)
@[go_sem] theorem rc_frames_Frames_State_0 {base : Nat} {ρ : Env} {s : St} : rc D base (.reg (some [0, 1]) o_frames_Frames_State_0) ρ s = R_frames_Frames_State_0 base s (get ρ 0) (get ρ 1) := rc_reg_O.trans (by kernel_rfl)
@[go_sem] noncomputable def R_frames_Frames_State_1 (_base : Nat) (s : St) (v0 v1 : V) : Option (Ex × Env × St) :=
  obind (nilv v0) fun x0 =>
  obind (fadv 80 0 10 x0) fun x1 =>
  obind (ldv s 10 x1) fun x2 =>
  obind (vbin .lss v1 x2) fun x3 =>
  some (.normal, [(0, v0), (1, v1), (5, x3)], s)
@[go_sem] theorem rc_frames_Frames_State_1 {base : Nat} {ρ : Env} {s : St} : rc D base (.reg (some [0, 1, 5]) o_frames_Frames_State_1) ρ s = R_frames_Frames_State_1 base s (get ρ 0) (get ρ 1) := rc_reg_O.trans (by kernel_rfl)
@[go_sem] noncomputable def R_frames_Frames_State_2 (_base : Nat) (s : St) (v0 v1 : V) : Option (Ex × Env × St) :=
  obind (nilv v0) fun x0 =>
  obind (fadv 80 1 10 x0) fun x1 =>
  obind (ldv s 10 x1) fun x2 =>
  obind (vbin .geq v1 x2) fun x3 =>
  some (.normal, [(0, v0), (1, v1), (5, x3)], s)
@[go_sem] theorem rc_frames_Frames_State_2 {base : Nat} {ρ : Env} {s : St} : rc D base (.reg (some [0, 1, 5]) o_frames_Frames_State_2) ρ s = R_frames_Frames_State_2 base s (get ρ 0) (get ρ 1) := rc_reg_O.trans (by kernel_rfl)
@[go_sem] noncomputable def R_frames_Frames_State_3 (_base : Nat) (s : St) : Option (Ex × Env × St) :=
  some (.normal, [(4, (.int .i64 (-1)))], s)
@[go_sem] theorem rc_frames_Frames_State_3 {base : Nat} {ρ : Env} {s : St} : rc D base (.reg (some [4]) o_frames_Frames_State_3) ρ s = R_frames_Frames_State_3 base s := rc_reg_O.trans (by kernel_rfl)
@[go_sem] noncomputable def R_frames_Frames_State_4 (_base : Nat) (s : St) (v0 v1 : V) : Option (Ex × Env × St) :=
  obind (nilv v0) fun x0 =>
  obind (fadv 80 2 78 x0) fun x1 =>
  obind (rf D f_frames_set_has [x1, v1] s) fun x2 =>
  some (.normal, [(0, v0), (1, v1), (18, x2.1)], x2.2)
@[go_sem] theorem rc_frames_Frames_State_4 {base : Nat} {ρ : Env} {s : St} : rc D base (.reg (some [0, 1, 18]) o_frames_Frames_State_4) ρ s = R_frames_Frames_State_4 base s (get ρ 0) (get ρ 1) := rc_reg_O.trans (by kernel_rfl)
@[go_sem] noncomputable def R_frames_Frames_State_5 (_base : Nat) (s : St) : Option (Ex × Env × St) :=
  some (.normal, [(4, (.int .i64 0))], s)
@[go_sem] theorem rc_frames_Frames_State_5 {base : Nat} {ρ : Env} {s : St} : rc D base (.reg (some [4]) o_frames_Frames_State_5) ρ s = R_frames_Frames_State_5 base s := rc_reg_O.trans (by kernel_rfl)
@[go_sem] noncomputable def R_frames_Frames_State_6 (_base : Nat) (s : St) (v0 v1 : V) : Option (Ex × Env × St) :=
  obind (nilv v0) fun x0 =>
  obind (fadv 80 3 78 x0) fun x1 =>
  obind (rf D f_frames_set_has [x1, v1] s) fun x2 =>
  some (.normal, [(24, x2.1)], x2.2)
@[go_sem] theorem rc_frames_Frames_State_6 {base : Nat} {ρ : Env} {s : St} : rc D base (.reg (some [24]) o_frames_Frames_State_6) ρ s = R_frames_Frames_State_6 base s (get ρ 0) (get ρ 1) := rc_reg_O.trans (by kernel_rfl)
@[go_sem] noncomputable def R_frames_Frames_State_7 (_base : Nat) (s : St) : Option (Ex × Env × St) :=
  some (.normal, [(4, (.int .i64 2))], s)
@[go_sem] theorem rc_frames_Frames_State_7 {base : Nat} {ρ : Env} {s : St} : rc D base (.reg (some [4]) o_frames_Frames_State_7) ρ s = R_frames_Frames_State_7 base s := rc_reg_O.trans (by kernel_rfl)
@[go_sem] noncomputable def R_frames_Frames_State_8 (_base : Nat) (s : St) : Option (Ex × Env × St) :=
  some (.normal, [(4, (.int .i64 1))], s)
@[go_sem] theorem rc_frames_Frames_State_8 {base : Nat} {ρ : Env} {s : St} : rc D base (.reg (some [4]) o_frames_Frames_State_8) ρ s = R_frames_Frames_State_8 base s := rc_reg_O.trans (by kernel_rfl)

@[go_sem] noncomputable def R_frames_Frames_Take_0 (_base : Nat) (s : St) (v0 v1 : V) : Option (Ex × Env × St) :=
  some (.normal, [(0, v0), (1, v1)], s)
@[go_sem] theorem rc_frames_Frames_Take_0 {base : Nat} {ρ : Env} {s : St} : rc D base (.reg (some [0, 1]) o_frames_Frames_Take_0) ρ s = R_frames_Frames_Take_0 base s (get ρ 0) (get ρ 1) := rc_reg_O.trans (by kernel_rfl)
@[go_sem] noncomputable def R_frames_Frames_Take_1 (_base : Nat) (s : St) (v0 v1 : V) : Option (Ex × Env × St) :=
  obind (rf D f_frames_Frames_in [v0, v1, (.int .i64 0)] s) fun x0 =>
  some (.normal, [(0, v0), (1, v1), (5, x0.1)], x0.2)
@[go_sem] theorem rc_frames_Frames_Take_1 {base : Nat} {ρ : Env} {s : St} : rc D base (.reg (some [0, 1, 5]) o_frames_Frames_Take_1) ρ s = R_frames_Frames_Take_1 base s (get ρ 0) (get ρ 1) := rc_reg_O.trans (by kernel_rfl)
@[go_sem] noncomputable def R_frames_Frames_Take_2 (_base : Nat) (s : St) (v0 v1 v5 : V) : Option (Ex × Env × St) :=
  obind (vbin .eql v5 (.int .i64 0)) fun x0 =>
  some (.normal, [(0, v0), (1, v1), (5, v5), (10, x0)], s)
@[go_sem] theorem rc_frames_Frames_Take_2 {base : Nat} {ρ : Env} {s : St} : rc D base (.reg (some [0, 1, 5, 10]) o_frames_Frames_Take_2) ρ s = R_frames_Frames_Take_2 base s (get ρ 0) (get ρ 1) (get ρ 5) := rc_reg_O.trans (by kernel_rfl)
@[go_sem] noncomputable def R_frames_Frames_Take_3 (_base : Nat) (s : St) (v0 v1 v5 : V) : Option (Ex × Env × St) :=
  obind (nilv v0) fun x0 =>
  obind (fadv 80 2 78 x0) fun x1 =>
  obind (rf D f_frames_set_turn [x1, v1] s) fun x2 =>
  some (.normal, [(5, v5)], x2.2)
@[go_sem] theorem rc_frames_Frames_Take_3 {base : Nat} {ρ : Env} {s : St} : rc D base (.reg (some [5]) o_frames_Frames_Take_3) ρ s = R_frames_Frames_Take_3 base s (get ρ 0) (get ρ 1) (get ρ 5) := rc_reg_O.trans (by kernel_rfl)
@[go_sem] noncomputable def R_frames_Frames_Take_4 (_base : Nat) (s : St) (v5 : V) : Option (Ex × Env × St) :=
  some (.normal, [(4, v5)], s)
@[go_sem] theorem rc_frames_Frames_Take_4 {base : Nat} {ρ : Env} {s : St} : rc D base (.reg (some [4]) o_frames_Frames_Take_4) ρ s = R_frames_Frames_Take_4 base s (get ρ 5) := rc_reg_O.trans (by kernel_rfl)

@[go_sem] noncomputable def R_steadfastref04_New_0 (_base : Nat) (s : St) (v0 v1 : V) : Option (Ex × Env × St) :=
  some (.normal, [(0, v0), (1, v1)], s)
@[go_sem] theorem rc_steadfastref04_New_0 {base : Nat} {ρ : Env} {s : St} : rc D base (.reg (some [0, 1]) o_steadfastref04_New_0) ρ s = R_steadfastref04_New_0 base s (get ρ 0) (get ρ 1) := rc_reg_O.trans (by kernel_rfl)
@[go_sem] noncomputable def R_steadfastref04_New_1 (_base : Nat) (s : St) (v0 v1 : V) : Option (Ex × Env × St) :=
  obind (vbin .lss v0 (.int .i64 0)) fun x0 =>
  oguard x0 false (
    obind (vbin .gtr v0 v1) fun x1 =>
    oguard x1 false (
      obind (vbin .gtr v1 (.int .i64 1024)) fun x2 =>
      some (.normal, [(0, v0), (1, v1), (16, x2)], s)) (
      some (.normal, [(0, v0), (1, v1), (16, (.bool true))], s)) (
      none)) (
    some (.normal, [(0, v0), (1, v1), (16, (.bool true))], s)) (
    none)
@[go_sem] theorem rc_steadfastref04_New_1 {base : Nat} {ρ : Env} {s : St} : rc D base (.reg (some [0, 1, 16]) o_steadfastref04_New_1) ρ s = R_steadfastref04_New_1 base s (get ρ 0) (get ρ 1) := rc_reg_O.trans (by kernel_rfl)
@[go_sem] noncomputable def R_steadfastref04_New_2 (_base : Nat) (s : St) : Option (Ex × Env × St) :=
  some (.normal, [(4, .nilp), (5, (.int .i64 1))], s)
@[go_sem] theorem rc_steadfastref04_New_2 {base : Nat} {ρ : Env} {s : St} : rc D base (.reg (some [4, 5]) o_steadfastref04_New_2) ρ s = R_steadfastref04_New_2 base s := rc_reg_O.trans (by kernel_rfl)
@[go_sem] noncomputable def R_steadfastref04_New_3 (_base : Nat) (s : St) (v0 v1 : V) : Option (Ex × Env × St) :=
  obind (vbin .sub v1 v0) fun x0 =>
  obind (mkslv true 38 10 (.int .i64 0) s x0 x0) fun x1 =>
  obind (setParts [(.int .i64 0), .nils] [(0, v0), (1, x1.1)]) fun x2 =>
  if V.ok (.agg 21 x2) && mayNew true (.agg 21 x2) then let x3 : V := .ptr (St.fresh x1.2 true) [] (V.tag (.agg 21 x2)); let s3 : St := St.new x1.2 true (.agg 21 x2)
  some (.normal, [(4, x3), (5, (.int .i64 0))], s3)
  else none
@[go_sem] theorem rc_steadfastref04_New_3 {base : Nat} {ρ : Env} {s : St} : rc D base (.reg (some [4, 5]) o_steadfastref04_New_3) ρ s = R_steadfastref04_New_3 base s (get ρ 0) (get ρ 1) := rc_reg_O.trans (by kernel_rfl)

@[go_sem] noncomputable def R_steadfastref04_Frames_Alloc_0 (_base : Nat) (s : St) (v0 : V) : Option (Ex × Env × St) :=
  some (.normal, [(0, v0)], s)
@[go_sem] theorem rc_steadfastref04_Frames_Alloc_0 {base : Nat} {ρ : Env} {s : St} : rc D base (.reg (some [0]) o_steadfastref04_Frames_Alloc_0) ρ s = R_steadfastref04_Frames_Alloc_0 base s (get ρ 0) := rc_reg_O.trans (by kernel_rfl)
@[go_sem] noncomputable def R_steadfastref04_Frames_Alloc_1 (_base : Nat) (s : St) (v0 : V) : Option (Ex × Env × St) :=
  some (.normal, [(0, v0), (4, (.int .i64 0))], s)
@[go_sem] theorem rc_steadfastref04_Frames_Alloc_1 {base : Nat} {ρ : Env} {s : St} : rc D base (.reg (some [0, 4]) o_steadfastref04_Frames_Alloc_1) ρ s = R_steadfastref04_Frames_Alloc_1 base s (get ρ 0) := rc_reg_O.trans (by kernel_rfl)
@[go_sem] noncomputable def R_steadfastref04_Frames_Alloc_2 (_base : Nat) (s : St) (v0 v4 : V) : Option (Ex × Env × St) :=
  obind (nilv v0) fun x0 =>
  obind (fadv 21 1 1 x0) fun x1 =>
  obind (ldv s 1 x1) fun x2 =>
  obind (V.slen false x2) fun x3 =>
  obind (vbin .lss v4 (.int .i64 x3)) fun x4 =>
  some (.normal, [(0, v0), (4, v4), (11, x4)], s)
@[go_sem] theorem rc_steadfastref04_Frames_Alloc_2 {base : Nat} {ρ : Env} {s : St} : rc D base (.reg (some [0, 4, 11]) o_steadfastref04_Frames_Alloc_2) ρ s = R_steadfastref04_Frames_Alloc_2 base s (get ρ 0) (get ρ 4) := rc_reg_O.trans (by kernel_rfl)
@[go_sem] noncomputable def R_steadfastref04_Frames_Alloc_3 (_base : Nat) (s : St) (v0 v4 : V) : Option (Ex × Env × St) :=
  obind (nilv v0) fun x0 =>
  obind (fadv 21 1 1 x0) fun x1 =>
  obind (ldv s 1 x1) fun x2 =>
  obind (sadv 10 x2 v4) fun x3 =>
  obind (ldv s 10 x3) fun x4 =>
  obind (vbin .eql x4 (.int .i64 0)) fun x5 =>
  some (.normal, [(0, v0), (4, v4), (21, x5)], s)
@[go_sem] theorem rc_steadfastref04_Frames_Alloc_3 {base : Nat} {ρ : Env} {s : St} : rc D base (.reg (some [0, 4, 21]) o_steadfastref04_Frames_Alloc_3) ρ s = R_steadfastref04_Frames_Alloc_3 base s (get ρ 0) (get ρ 4) := rc_reg_O.trans (by kernel_rfl)
@[go_sem] noncomputable def R_steadfastref04_Frames_Alloc_4 (base : Nat) (s : St) (v0 v4 : V) : Option (Ex × Env × St) :=
  obind (nilv v0) fun x0 =>
  obind (fadv 21 1 1 x0) fun x1 =>
  obind (ldv s 1 x1) fun x2 =>
  obind (sadv 10 x2 v4) fun x3 =>
  obind (stv base s 10 (.int .i64 1) x3) fun s4 =>
  some (.normal, [(0, v0), (4, v4)], s4)
@[go_sem] theorem rc_steadfastref04_Frames_Alloc_4 {base : Nat} {ρ : Env} {s : St} : rc D base (.reg (some [0, 4]) o_steadfastref04_Frames_Alloc_4) ρ s = R_steadfastref04_Frames_Alloc_4 base s (get ρ 0) (get ρ 4) := rc_reg_O.trans (by kernel_rfl)
@[go_sem] noncomputable def R_steadfastref04_Frames_Alloc_5 (_base : Nat) (s : St) (v0 v4 : V) : Option (Ex × Env × St) :=
  obind (nilv v0) fun x0 =>
  obind (fadv 21 0 10 x0) fun x1 =>
  obind (ldv s 10 x1) fun x2 =>
  obind (vbin .add x2 v4) fun x3 =>
  some (.normal, [(2, x3), (3, (.int .i64 0))], s)
@[go_sem] theorem rc_steadfastref04_Frames_Alloc_5 {base : Nat} {ρ : Env} {s : St} : rc D base (.reg (some [2, 3]) o_steadfastref04_Frames_Alloc_5) ρ s = R_steadfastref04_Frames_Alloc_5 base s (get ρ 0) (get ρ 4) := rc_reg_O.trans (by kernel_rfl)
@[go_sem] noncomputable def R_steadfastref04_Frames_Alloc_6 (_base : Nat) (s : St) (v0 v4 : V) : Option (Ex × Env × St) :=
  obind (vbin .add v4 (.int .i64 1)) fun x0 =>
  some (.normal, [(0, v0), (4, x0)], s)
@[go_sem] theorem rc_steadfastref04_Frames_Alloc_6 {base : Nat} {ρ : Env} {s : St} : rc D base (.reg (some [0, 4]) o_steadfastref04_Frames_Alloc_6) ρ s = R_steadfastref04_Frames_Alloc_6 base s (get ρ 0) (get ρ 4) := rc_reg_O.trans (by kernel_rfl)
@[go_sem] noncomputable def R_steadfastref04_Frames_Alloc_7 (_base : Nat) (s : St) : Option (Ex × Env × St) :=
  some (.normal, [(2, (.int .i64 0)), (3, (.int .i64 10))], s)
@[go_sem] theorem rc_steadfastref04_Frames_Alloc_7 {base : Nat} {ρ : Env} {s : St} : rc D base (.reg (some [2, 3]) o_steadfastref04_Frames_Alloc_7) ρ s = R_steadfastref04_Frames_Alloc_7 base s := rc_reg_O.trans (by kernel_rfl)

@[go_sem] noncomputable def R_steadfastref04_Frames_Take_0 (_base : Nat) (s : St) (v0 v1 : V) : Option (Ex × Env × St) :=
  some (.normal, [(0, v0), (1, v1)], s)
@[go_sem] theorem rc_steadfastref04_Frames_Take_0 {base : Nat} {ρ : Env} {s : St} : rc D base (.reg (some [0, 1]) o_steadfastref04_Frames_Take_0) ρ s = R_steadfastref04_Frames_Take_0 base s (get ρ 0) (get ρ 1) := rc_reg_O.trans (by kernel_rfl)
@[go_sem] noncomputable def R_steadfastref04_Frames_Take_1 (_base : Nat) (s : St) (v0 v1 : V) : Option (Ex × Env × St) :=
  obind (rf D f_steadfastref04_Frames_turn [v0, v1, (.int .i64 0), (.int .i64 1)] s) fun x0 =>
  some (.normal, [(4, x0.1)], x0.2)
@[go_sem] theorem rc_steadfastref04_Frames_Take_1 {base : Nat} {ρ : Env} {s : St} : rc D base (.reg (some [4]) o_steadfastref04_Frames_Take_1) ρ s = R_steadfastref04_Frames_Take_1 base s (get ρ 0) (get ρ 1) := rc_reg_O.trans (by kernel_rfl)

@[go_sem] noncomputable def R_steadfastref04_Frames_Free_0 (_base : Nat) (s : St) (v0 v1 : V) : Option (Ex × Env × St) :=
  some (.normal, [(0, v0), (1, v1)], s)
@[go_sem] theorem rc_steadfastref04_Frames_Free_0 {base : Nat} {ρ : Env} {s : St} : rc D base (.reg (some [0, 1]) o_steadfastref04_Frames_Free_0) ρ s = R_steadfastref04_Frames_Free_0 base s (get ρ 0) (get ρ 1) := rc_reg_O.trans (by kernel_rfl)
@[go_sem] noncomputable def R_steadfastref04_Frames_Free_1 (_base : Nat) (s : St) (v0 v1 : V) : Option (Ex × Env × St) :=
  obind (rf D f_steadfastref04_Frames_turn [v0, v1, (.int .i64 1), (.int .i64 0)] s) fun x0 =>
  some (.normal, [(4, x0.1)], x0.2)
@[go_sem] theorem rc_steadfastref04_Frames_Free_1 {base : Nat} {ρ : Env} {s : St} : rc D base (.reg (some [4]) o_steadfastref04_Frames_Free_1) ρ s = R_steadfastref04_Frames_Free_1 base s (get ρ 0) (get ρ 1) := rc_reg_O.trans (by kernel_rfl)

@[go_sem] noncomputable def R_steadfastref04_Frames_Later_0 (_base : Nat) (s : St) (v0 v1 : V) : Option (Ex × Env × St) :=
  some (.normal, [(0, v0), (1, v1)], s)
@[go_sem] theorem rc_steadfastref04_Frames_Later_0 {base : Nat} {ρ : Env} {s : St} : rc D base (.reg (some [0, 1]) o_steadfastref04_Frames_Later_0) ρ s = R_steadfastref04_Frames_Later_0 base s (get ρ 0) (get ρ 1) := rc_reg_O.trans (by kernel_rfl)
@[go_sem] noncomputable def R_steadfastref04_Frames_Later_1 (_base : Nat) (s : St) (v0 v1 : V) : Option (Ex × Env × St) :=
  obind (rf D f_steadfastref04_Frames_turn [v0, v1, (.int .i64 1), (.int .i64 2)] s) fun x0 =>
  some (.normal, [(4, x0.1)], x0.2)
@[go_sem] theorem rc_steadfastref04_Frames_Later_1 {base : Nat} {ρ : Env} {s : St} : rc D base (.reg (some [4]) o_steadfastref04_Frames_Later_1) ρ s = R_steadfastref04_Frames_Later_1 base s (get ρ 0) (get ρ 1) := rc_reg_O.trans (by kernel_rfl)

@[go_sem] noncomputable def R_steadfastref04_Frames_Settle_0 (_base : Nat) (s : St) (v0 : V) : Option (Ex × Env × St) :=
  some (.normal, [(0, v0), (2, (.int .i64 0))], s)
@[go_sem] theorem rc_steadfastref04_Frames_Settle_0 {base : Nat} {ρ : Env} {s : St} : rc D base (.reg (some [0, 2]) o_steadfastref04_Frames_Settle_0) ρ s = R_steadfastref04_Frames_Settle_0 base s (get ρ 0) := rc_reg_O.trans (by kernel_rfl)
@[go_sem] noncomputable def R_steadfastref04_Frames_Settle_1 (_base : Nat) (s : St) (v0 v2 : V) : Option (Ex × Env × St) :=
  obind (nilv v0) fun x0 =>
  obind (fadv 21 1 1 x0) fun x1 =>
  obind (ldv s 1 x1) fun x2 =>
  obind (V.slen false x2) fun x3 =>
  obind (vbin .lss v2 (.int .i64 x3)) fun x4 =>
  some (.normal, [(0, v0), (2, v2), (9, x4)], s)
@[go_sem] theorem rc_steadfastref04_Frames_Settle_1 {base : Nat} {ρ : Env} {s : St} : rc D base (.reg (some [0, 2, 9]) o_steadfastref04_Frames_Settle_1) ρ s = R_steadfastref04_Frames_Settle_1 base s (get ρ 0) (get ρ 2) := rc_reg_O.trans (by kernel_rfl)
@[go_sem] noncomputable def R_steadfastref04_Frames_Settle_2 (_base : Nat) (s : St) (v0 v2 : V) : Option (Ex × Env × St) :=
  obind (nilv v0) fun x0 =>
  obind (fadv 21 1 1 x0) fun x1 =>
  obind (ldv s 1 x1) fun x2 =>
  obind (sadv 10 x2 v2) fun x3 =>
  obind (ldv s 10 x3) fun x4 =>
  obind (vbin .eql x4 (.int .i64 2)) fun x5 =>
  some (.normal, [(0, v0), (2, v2), (19, x5)], s)
@[go_sem] theorem rc_steadfastref04_Frames_Settle_2 {base : Nat} {ρ : Env} {s : St} : rc D base (.reg (some [0, 2, 19]) o_steadfastref04_Frames_Settle_2) ρ s = R_steadfastref04_Frames_Settle_2 base s (get ρ 0) (get ρ 2) := rc_reg_O.trans (by kernel_rfl)
@[go_sem] noncomputable def R_steadfastref04_Frames_Settle_3 (base : Nat) (s : St) (v0 v2 : V) : Option (Ex × Env × St) :=
  obind (nilv v0) fun x0 =>
  obind (fadv 21 1 1 x0) fun x1 =>
  obind (ldv s 1 x1) fun x2 =>
  obind (sadv 10 x2 v2) fun x3 =>
  obind (stv base s 10 (.int .i64 0) x3) fun s4 =>
  some (.normal, [(0, v0), (2, v2)], s4)
@[go_sem] theorem rc_steadfastref04_Frames_Settle_3 {base : Nat} {ρ : Env} {s : St} : rc D base (.reg (some [0, 2]) o_steadfastref04_Frames_Settle_3) ρ s = R_steadfastref04_Frames_Settle_3 base s (get ρ 0) (get ρ 2) := rc_reg_O.trans (by kernel_rfl)
@[go_sem] noncomputable def R_steadfastref04_Frames_Settle_4 (_base : Nat) (s : St) (v0 v2 : V) : Option (Ex × Env × St) :=
  obind (vbin .add v2 (.int .i64 1)) fun x0 =>
  some (.normal, [(0, v0), (2, x0)], s)
@[go_sem] theorem rc_steadfastref04_Frames_Settle_4 {base : Nat} {ρ : Env} {s : St} : rc D base (.reg (some [0, 2]) o_steadfastref04_Frames_Settle_4) ρ s = R_steadfastref04_Frames_Settle_4 base s (get ρ 0) (get ρ 2) := rc_reg_O.trans (by kernel_rfl)

@[go_sem] noncomputable def R_frames_Frames_Clone_0 (_base : Nat) (s : St) (v0 : V) : Option (Ex × Env × St) :=
  some (.normal, [(0, v0)], s)
@[go_sem] theorem rc_frames_Frames_Clone_0 {base : Nat} {ρ : Env} {s : St} : rc D base (.reg (some [0]) o_frames_Frames_Clone_0) ρ s = R_frames_Frames_Clone_0 base s (get ρ 0) := rc_reg_O.trans (by kernel_rfl)
@[go_sem] noncomputable def R_frames_Frames_Clone_1 (base : Nat) (s : St) (v0 : V) : Option (Ex × Env × St) :=
  obind (nilv v0) fun x0 =>
  obind (ldv s 80 x0) fun x1 =>
  let x2 : V := .ptr (St.fresh s true) [] 80; let s2 : St := St.new s true (.agg 80 [(.int .i64 0), (.int .i64 0), (.agg 78 (List.replicate 16 (.int .u64 0))), (.agg 78 (List.replicate 16 (.int .u64 0)))])
  obind (stv base s2 80 x1 x2) fun s3 =>
  some (.normal, [(3, x2)], s3)
@[go_sem] theorem rc_frames_Frames_Clone_1 {base : Nat} {ρ : Env} {s : St} : rc D base (.reg (some [3]) o_frames_Frames_Clone_1) ρ s = R_frames_Frames_Clone_1 base s (get ρ 0) := rc_reg_O.trans (by kernel_rfl)
@[go_sem] noncomputable def R_frames_Frames_Clone_2 (_base : Nat) (s : St) (v3 : V) : Option (Ex × Env × St) :=
  some (.normal, [(2, v3)], s)
@[go_sem] theorem rc_frames_Frames_Clone_2 {base : Nat} {ρ : Env} {s : St} : rc D base (.reg (some [2]) o_frames_Frames_Clone_2) ρ s = R_frames_Frames_Clone_2 base s (get ρ 3) := rc_reg_O.trans (by kernel_rfl)

@[go_sem] noncomputable def R_steadfastref04_Frames_Left_0 (_base : Nat) (s : St) (v0 : V) : Option (Ex × Env × St) :=
  some (.normal, [(0, v0)], s)
@[go_sem] theorem rc_steadfastref04_Frames_Left_0 {base : Nat} {ρ : Env} {s : St} : rc D base (.reg (some [0]) o_steadfastref04_Frames_Left_0) ρ s = R_steadfastref04_Frames_Left_0 base s (get ρ 0) := rc_reg_O.trans (by kernel_rfl)
@[go_sem] noncomputable def R_steadfastref04_Frames_Left_1 (_base : Nat) (s : St) (v0 : V) : Option (Ex × Env × St) :=
  some (.normal, [(0, v0), (3, (.int .i64 0))], s)
@[go_sem] theorem rc_steadfastref04_Frames_Left_1 {base : Nat} {ρ : Env} {s : St} : rc D base (.reg (some [0, 3]) o_steadfastref04_Frames_Left_1) ρ s = R_steadfastref04_Frames_Left_1 base s (get ρ 0) := rc_reg_O.trans (by kernel_rfl)
@[go_sem] noncomputable def R_steadfastref04_Frames_Left_2 (_base : Nat) (s : St) (v0 v3 : V) : Option (Ex × Env × St) :=
  some (.normal, [(0, v0), (3, v3), (4, (.int .i64 0))], s)
@[go_sem] theorem rc_steadfastref04_Frames_Left_2 {base : Nat} {ρ : Env} {s : St} : rc D base (.reg (some [0, 3, 4]) o_steadfastref04_Frames_Left_2) ρ s = R_steadfastref04_Frames_Left_2 base s (get ρ 0) (get ρ 3) := rc_reg_O.trans (by kernel_rfl)
@[go_sem] noncomputable def R_steadfastref04_Frames_Left_3 (_base : Nat) (s : St) (v0 v3 v4 : V) : Option (Ex × Env × St) :=
  obind (nilv v0) fun x0 =>
  obind (fadv 21 1 1 x0) fun x1 =>
  obind (ldv s 1 x1) fun x2 =>
  obind (V.slen false x2) fun x3 =>
  obind (vbin .lss v4 (.int .i64 x3)) fun x4 =>
  some (.normal, [(0, v0), (3, v3), (4, v4), (11, x4)], s)
@[go_sem] theorem rc_steadfastref04_Frames_Left_3 {base : Nat} {ρ : Env} {s : St} : rc D base (.reg (some [0, 3, 4, 11]) o_steadfastref04_Frames_Left_3) ρ s = R_steadfastref04_Frames_Left_3 base s (get ρ 0) (get ρ 3) (get ρ 4) := rc_reg_O.trans (by kernel_rfl)
@[go_sem] noncomputable def R_steadfastref04_Frames_Left_4 (_base : Nat) (s : St) (v0 v3 v4 : V) : Option (Ex × Env × St) :=
  obind (nilv v0) fun x0 =>
  obind (fadv 21 1 1 x0) fun x1 =>
  obind (ldv s 1 x1) fun x2 =>
  obind (sadv 10 x2 v4) fun x3 =>
  obind (ldv s 10 x3) fun x4 =>
  obind (vbin .eql x4 (.int .i64 0)) fun x5 =>
  some (.normal, [(0, v0), (3, v3), (4, v4), (21, x5)], s)
@[go_sem] theorem rc_steadfastref04_Frames_Left_4 {base : Nat} {ρ : Env} {s : St} : rc D base (.reg (some [0, 3, 4, 21]) o_steadfastref04_Frames_Left_4) ρ s = R_steadfastref04_Frames_Left_4 base s (get ρ 0) (get ρ 3) (get ρ 4) := rc_reg_O.trans (by kernel_rfl)
@[go_sem] noncomputable def R_steadfastref04_Frames_Left_5 (_base : Nat) (s : St) (v0 v3 v4 : V) : Option (Ex × Env × St) :=
  obind (vbin .add v3 (.int .i64 1)) fun x0 =>
  some (.normal, [(0, v0), (3, x0), (4, v4)], s)
@[go_sem] theorem rc_steadfastref04_Frames_Left_5 {base : Nat} {ρ : Env} {s : St} : rc D base (.reg (some [0, 3, 4]) o_steadfastref04_Frames_Left_5) ρ s = R_steadfastref04_Frames_Left_5 base s (get ρ 0) (get ρ 3) (get ρ 4) := rc_reg_O.trans (by kernel_rfl)
@[go_sem] noncomputable def R_steadfastref04_Frames_Left_6 (_base : Nat) (s : St) (v0 v3 v4 : V) : Option (Ex × Env × St) :=
  obind (vbin .add v4 (.int .i64 1)) fun x0 =>
  some (.normal, [(0, v0), (3, v3), (4, x0)], s)
@[go_sem] theorem rc_steadfastref04_Frames_Left_6 {base : Nat} {ρ : Env} {s : St} : rc D base (.reg (some [0, 3, 4]) o_steadfastref04_Frames_Left_6) ρ s = R_steadfastref04_Frames_Left_6 base s (get ρ 0) (get ρ 3) (get ρ 4) := rc_reg_O.trans (by kernel_rfl)
@[go_sem] noncomputable def R_steadfastref04_Frames_Left_7 (_base : Nat) (s : St) (v3 : V) : Option (Ex × Env × St) :=
  some (.normal, [(2, v3)], s)
@[go_sem] theorem rc_steadfastref04_Frames_Left_7 {base : Nat} {ρ : Env} {s : St} : rc D base (.reg (some [2]) o_steadfastref04_Frames_Left_7) ρ s = R_steadfastref04_Frames_Left_7 base s (get ρ 3) := rc_reg_O.trans (by kernel_rfl)

@[go_sem] noncomputable def R_steadfastref04_Frames_State_0 (_base : Nat) (s : St) (v0 v1 : V) : Option (Ex × Env × St) :=
  some (.normal, [(0, v0), (1, v1)], s)
@[go_sem] theorem rc_steadfastref04_Frames_State_0 {base : Nat} {ρ : Env} {s : St} : rc D base (.reg (some [0, 1]) o_steadfastref04_Frames_State_0) ρ s = R_steadfastref04_Frames_State_0 base s (get ρ 0) (get ρ 1) := rc_reg_O.trans (by kernel_rfl)
@[go_sem] noncomputable def R_steadfastref04_Frames_State_1 (_base : Nat) (s : St) (v0 v1 : V) : Option (Ex × Env × St) :=
  obind (nilv v0) fun x0 =>
  obind (fadv 21 0 10 x0) fun x1 =>
  obind (ldv s 10 x1) fun x2 =>
  obind (vbin .lss v1 x2) fun x3 =>
  oguard x3 false (
    obind (nilv v0) fun x4 =>
    obind (fadv 21 0 10 x4) fun x5 =>
    obind (ldv s 10 x5) fun x6 =>
    obind (vbin .sub v1 x6) fun x7 =>
    obind (nilv v0) fun x8 =>
    obind (fadv 21 1 1 x8) fun x9 =>
    obind (ldv s 1 x9) fun x10 =>
    obind (V.slen false x10) fun x11 =>
    obind (vbin .geq x7 (.int .i64 x11)) fun x12 =>
    some (.normal, [(0, v0), (1, v1), (24, x12)], s)) (
    some (.normal, [(0, v0), (1, v1), (24, (.bool true))], s)) (
    none)
@[go_sem] theorem rc_steadfastref04_Frames_State_1 {base : Nat} {ρ : Env} {s : St} : rc D base (.regd (some [0, 1, 24]) o_steadfastref04_Frames_State_1) ρ s = R_steadfastref04_Frames_State_1 base s (get ρ 0) (get ρ 1) := rc_regd_O.trans (by kernel_rfl)
@[go_sem] noncomputable def R_steadfastref04_Frames_State_2 (_base : Nat) (s : St) : Option (Ex × Env × St) :=
  some (.normal, [(4, (.int .i64 (-1)))], s)
@[go_sem] theorem rc_steadfastref04_Frames_State_2 {base : Nat} {ρ : Env} {s : St} : rc D base (.reg (some [4]) o_steadfastref04_Frames_State_2) ρ s = R_steadfastref04_Frames_State_2 base s := rc_reg_O.trans (by kernel_rfl)
@[go_sem] noncomputable def R_steadfastref04_Frames_State_3 (_base : Nat) (s : St) (v0 v1 : V) : Option (Ex × Env × St) :=
  obind (nilv v0) fun x0 =>
  obind (fadv 21 1 1 x0) fun x1 =>
  obind (ldv s 1 x1) fun x2 =>
  obind (nilv v0) fun x3 =>
  obind (fadv 21 0 10 x3) fun x4 =>
  obind (ldv s 10 x4) fun x5 =>
  obind (vbin .sub v1 x5) fun x6 =>
  obind (sadv 10 x2 x6) fun x7 =>
  obind (ldv s 10 x7) fun x8 =>
  some (.normal, [(4, x8)], s)
@[go_sem] theorem rc_steadfastref04_Frames_State_3 {base : Nat} {ρ : Env} {s : St} : rc D base (.regd (some [4]) o_steadfastref04_Frames_State_3) ρ s = R_steadfastref04_Frames_State_3 base s (get ρ 0) (get ρ 1) := rc_regd_O.trans (by kernel_rfl)

@[go_sem] noncomputable def R_frames_set_turn_0 (base : Nat) (s : St) (v0 v1 : V) : Option (Ex × Env × St) :=
  obind (vbin .quo v1 (.int .i64 64)) fun x0 =>
  obind (nilv v0) fun x1 =>
  obind (iadv 78 16 18 x1 x0) fun x2 =>
  obind (ldv s 18 x2) fun x3 =>
  obind (vbin .rem v1 (.int .i64 64)) fun x4 =>
  obind (vbin .shl (.int .u64 1) x4) fun x5 =>
  obind (vbin .xor x3 x5) fun x6 =>
  obind (nilv v0) fun x7 =>
  obind (iadv 78 16 18 x7 x0) fun x8 =>
  obind (stv base s 18 x6 x8) fun s9 =>
  some (.normal, [], s9)
@[go_sem] theorem rc_frames_set_turn_0 {base : Nat} {ρ : Env} {s : St} : rc D base (.regd (some []) o_frames_set_turn_0) ρ s = R_frames_set_turn_0 base s (get ρ 0) (get ρ 1) := rc_regd_O.trans (by kernel_rfl)

@[go_sem] noncomputable def R_math_bits_TrailingZeros64_0 (_base : Nat) (s : St) (v0 : V) : Option (Ex × Env × St) :=
  some (.normal, [(0, v0)], s)
@[go_sem] theorem rc_math_bits_TrailingZeros64_0 {base : Nat} {ρ : Env} {s : St} : rc D base (.reg (some [0]) o_math_bits_TrailingZeros64_0) ρ s = R_math_bits_TrailingZeros64_0 base s (get ρ 0) := rc_reg_O.trans (by kernel_rfl)
@[go_sem] noncomputable def R_math_bits_TrailingZeros64_1 (_base : Nat) (s : St) (v0 : V) : Option (Ex × Env × St) :=
  obind (vbin .eql v0 (.int .u64 0)) fun x0 =>
  some (.normal, [(0, v0), (4, x0)], s)
@[go_sem] theorem rc_math_bits_TrailingZeros64_1 {base : Nat} {ρ : Env} {s : St} : rc D base (.reg (some [0, 4]) o_math_bits_TrailingZeros64_1) ρ s = R_math_bits_TrailingZeros64_1 base s (get ρ 0) := rc_reg_O.trans (by kernel_rfl)
@[go_sem] noncomputable def R_math_bits_TrailingZeros64_2 (_base : Nat) (s : St) : Option (Ex × Env × St) :=
  some (.normal, [(2, (.int .i64 64))], s)
@[go_sem] theorem rc_math_bits_TrailingZeros64_2 {base : Nat} {ρ : Env} {s : St} : rc D base (.reg (some [2]) o_math_bits_TrailingZeros64_2) ρ s = R_math_bits_TrailingZeros64_2 base s := rc_reg_O.trans (by kernel_rfl)
@[go_sem] noncomputable def R_math_bits_TrailingZeros64_3 (_base : Nat) (s : St) (v0 : V) : Option (Ex × Env × St) :=
  obind (vun .neg v0) fun x0 =>
  obind (vbin .and v0 x0) fun x1 =>
  obind (vbin .mul x1 (.int .u64 285870213051353865)) fun x2 =>
  obind (vbin .shr x2 (.int .u64 58)) fun x3 =>
  obind (iadv 108 64 12 glob_0 x3) fun x4 =>
  obind (ldv s 12 x4) fun x5 =>
  obind (convv .i64 x5) fun x6 =>
  some (.normal, [(2, x6)], s)
@[go_sem] theorem rc_math_bits_TrailingZeros64_3 {base : Nat} {ρ : Env} {s : St} : rc D base (.reg (some [2]) o_math_bits_TrailingZeros64_3) ρ s = R_math_bits_TrailingZeros64_3 base s (get ρ 0) := rc_reg_O.trans (by kernel_rfl)

@[go_sem] noncomputable def R_math_bits_OnesCount64_0 (_base : Nat) (s : St) (v0 : V) : Option (Ex × Env × St) :=
  some (.normal, [(0, v0)], s)
@[go_sem] theorem rc_math_bits_OnesCount64_0 {base : Nat} {ρ : Env} {s : St} : rc D base (.reg (some [0]) o_math_bits_OnesCount64_0) ρ s = R_math_bits_OnesCount64_0 base s (get ρ 0) := rc_reg_O.trans (by kernel_rfl)
@[go_sem] noncomputable def R_math_bits_OnesCount64_1 (_base : Nat) (s : St) (v0 : V) : Option (Ex × Env × St) :=
  obind (vbin .shr v0 (.int .u64 1)) fun x0 =>
  obind (vbin .and x0 (.int .u64 6148914691236517205)) fun x1 =>
  obind (vbin .and v0 (.int .u64 6148914691236517205)) fun x2 =>
  obind (vbin .add x1 x2) fun x3 =>
  some (.normal, [(0, x3)], s)
@[go_sem] theorem rc_math_bits_OnesCount64_1 {base : Nat} {ρ : Env} {s : St} : rc D base (.reg (some [0]) o_math_bits_OnesCount64_1) ρ s = R_math_bits_OnesCount64_1 base s (get ρ 0) := rc_reg_O.trans (by kernel_rfl)
@[go_sem] noncomputable def R_math_bits_OnesCount64_2 (_base : Nat) (s : St) (v0 : V) : Option (Ex × Env × St) :=
  obind (vbin .shr v0 (.int .u64 2)) fun x0 =>
  obind (vbin .and x0 (.int .u64 3689348814741910323)) fun x1 =>
  obind (vbin .and v0 (.int .u64 3689348814741910323)) fun x2 =>
  obind (vbin .add x1 x2) fun x3 =>
  some (.normal, [(0, x3)], s)
@[go_sem] theorem rc_math_bits_OnesCount64_2 {base : Nat} {ρ : Env} {s : St} : rc D base (.reg (some [0]) o_math_bits_OnesCount64_2) ρ s = R_math_bits_OnesCount64_2 base s (get ρ 0) := rc_reg_O.trans (by kernel_rfl)
@[go_sem] noncomputable def R_math_bits_OnesCount64_3 (_base : Nat) (s : St) (v0 : V) : Option (Ex × Env × St) :=
  obind (vbin .shr v0 (.int .u64 4)) fun x0 =>
  obind (vbin .add x0 v0) fun x1 =>
  obind (vbin .and x1 (.int .u64 1085102592571150095)) fun x2 =>
  some (.normal, [(0, x2)], s)
@[go_sem] theorem rc_math_bits_OnesCount64_3 {base : Nat} {ρ : Env} {s : St} : rc D base (.reg (some [0]) o_math_bits_OnesCount64_3) ρ s = R_math_bits_OnesCount64_3 base s (get ρ 0) := rc_reg_O.trans (by kernel_rfl)
@[go_sem] noncomputable def R_math_bits_OnesCount64_4 (_base : Nat) (s : St) (v0 : V) : Option (Ex × Env × St) :=
  obind (vbin .shr v0 (.int .u64 8)) fun x0 =>
  obind (vbin .add v0 x0) fun x1 =>
  some (.normal, [(0, x1)], s)
@[go_sem] theorem rc_math_bits_OnesCount64_4 {base : Nat} {ρ : Env} {s : St} : rc D base (.reg (some [0]) o_math_bits_OnesCount64_4) ρ s = R_math_bits_OnesCount64_4 base s (get ρ 0) := rc_reg_O.trans (by kernel_rfl)
@[go_sem] noncomputable def R_math_bits_OnesCount64_5 (_base : Nat) (s : St) (v0 : V) : Option (Ex × Env × St) :=
  obind (vbin .shr v0 (.int .u64 16)) fun x0 =>
  obind (vbin .add v0 x0) fun x1 =>
  some (.normal, [(0, x1)], s)
@[go_sem] theorem rc_math_bits_OnesCount64_5 {base : Nat} {ρ : Env} {s : St} : rc D base (.reg (some [0]) o_math_bits_OnesCount64_5) ρ s = R_math_bits_OnesCount64_5 base s (get ρ 0) := rc_reg_O.trans (by kernel_rfl)
@[go_sem] noncomputable def R_math_bits_OnesCount64_6 (_base : Nat) (s : St) (v0 : V) : Option (Ex × Env × St) :=
  obind (vbin .shr v0 (.int .u64 32)) fun x0 =>
  obind (vbin .add v0 x0) fun x1 =>
  some (.normal, [(0, x1)], s)
@[go_sem] theorem rc_math_bits_OnesCount64_6 {base : Nat} {ρ : Env} {s : St} : rc D base (.reg (some [0]) o_math_bits_OnesCount64_6) ρ s = R_math_bits_OnesCount64_6 base s (get ρ 0) := rc_reg_O.trans (by kernel_rfl)
@[go_sem] noncomputable def R_math_bits_OnesCount64_7 (_base : Nat) (s : St) (v0 : V) : Option (Ex × Env × St) :=
  obind (convv .i64 v0) fun x0 =>
  obind (vbin .and x0 (.int .i64 127)) fun x1 =>
  some (.normal, [(2, x1)], s)
@[go_sem] theorem rc_math_bits_OnesCount64_7 {base : Nat} {ρ : Env} {s : St} : rc D base (.reg (some [2]) o_math_bits_OnesCount64_7) ρ s = R_math_bits_OnesCount64_7 base s (get ρ 0) := rc_reg_O.trans (by kernel_rfl)

@[go_sem] noncomputable def R_frames_Frames_in_0 (_base : Nat) (s : St) (v0 v1 v2 : V) : Option (Ex × Env × St) :=
  some (.normal, [(0, v0), (1, v1), (2, v2)], s)
@[go_sem] theorem rc_frames_Frames_in_0 {base : Nat} {ρ : Env} {s : St} : rc D base (.reg (some [0, 1, 2]) o_frames_Frames_in_0) ρ s = R_frames_Frames_in_0 base s (get ρ 0) (get ρ 1) (get ρ 2) := rc_reg_O.trans (by kernel_rfl)
@[go_sem] noncomputable def R_frames_Frames_in_1 (_base : Nat) (s : St) (v0 v1 v2 : V) : Option (Ex × Env × St) :=
  obind (rf D f_frames_Frames_State [v0, v1] s) fun x0 =>
  some (.normal, [(2, v2), (9, x0.1)], x0.2)
@[go_sem] theorem rc_frames_Frames_in_1 {base : Nat} {ρ : Env} {s : St} : rc D base (.reg (some [2, 9]) o_frames_Frames_in_1) ρ s = R_frames_Frames_in_1 base s (get ρ 0) (get ρ 1) (get ρ 2) := rc_reg_O.trans (by kernel_rfl)
@[go_sem] noncomputable def R_frames_Frames_in_2 (_base : Nat) (s : St) (v2 v9 : V) : Option (Ex × Env × St) :=
  obind (vbin .eql v9 (.int .i64 (-1))) fun x0 =>
  some (.normal, [(2, v2), (9, v9), (10, x0)], s)
@[go_sem] theorem rc_frames_Frames_in_2 {base : Nat} {ρ : Env} {s : St} : rc D base (.reg (some [2, 9, 10]) o_frames_Frames_in_2) ρ s = R_frames_Frames_in_2 base s (get ρ 2) (get ρ 9) := rc_reg_O.trans (by kernel_rfl)
@[go_sem] noncomputable def R_frames_Frames_in_3 (_base : Nat) (s : St) : Option (Ex × Env × St) :=
  some (.normal, [(6, (.int .i64 1))], s)
@[go_sem] theorem rc_frames_Frames_in_3 {base : Nat} {ρ : Env} {s : St} : rc D base (.reg (some [6]) o_frames_Frames_in_3) ρ s = R_frames_Frames_in_3 base s := rc_reg_O.trans (by kernel_rfl)
@[go_sem] noncomputable def R_frames_Frames_in_4 (_base : Nat) (s : St) (v2 v9 : V) : Option (Ex × Env × St) :=
  obind (vbin .eql v9 v2) fun x0 =>
  some (.normal, [(12, x0)], s)
@[go_sem] theorem rc_frames_Frames_in_4 {base : Nat} {ρ : Env} {s : St} : rc D base (.reg (some [12]) o_frames_Frames_in_4) ρ s = R_frames_Frames_in_4 base s (get ρ 2) (get ρ 9) := rc_reg_O.trans (by kernel_rfl)
@[go_sem] noncomputable def R_frames_Frames_in_5 (_base : Nat) (s : St) : Option (Ex × Env × St) :=
  some (.normal, [(6, (.int .i64 0))], s)
@[go_sem] theorem rc_frames_Frames_in_5 {base : Nat} {ρ : Env} {s : St} : rc D base (.reg (some [6]) o_frames_Frames_in_5) ρ s = R_frames_Frames_in_5 base s := rc_reg_O.trans (by kernel_rfl)
@[go_sem] noncomputable def R_frames_Frames_in_6 (_base : Nat) (s : St) : Option (Ex × Env × St) :=
  some (.normal, [(6, (.int .i64 3))], s)
@[go_sem] theorem rc_frames_Frames_in_6 {base : Nat} {ρ : Env} {s : St} : rc D base (.reg (some [6]) o_frames_Frames_in_6) ρ s = R_frames_Frames_in_6 base s := rc_reg_O.trans (by kernel_rfl)

@[go_sem] noncomputable def R_frames_set_has_0 (_base : Nat) (s : St) (v0 v1 : V) : Option (Ex × Env × St) :=
  some (.normal, [(0, v0), (1, v1)], s)
@[go_sem] theorem rc_frames_set_has_0 {base : Nat} {ρ : Env} {s : St} : rc D base (.reg (some [0, 1]) o_frames_set_has_0) ρ s = R_frames_set_has_0 base s (get ρ 0) (get ρ 1) := rc_reg_O.trans (by kernel_rfl)
@[go_sem] noncomputable def R_frames_set_has_1 (_base : Nat) (s : St) (v0 v1 : V) : Option (Ex × Env × St) :=
  obind (vbin .quo v1 (.int .i64 64)) fun x0 =>
  obind (nilv v0) fun x1 =>
  obind (iadv 78 16 18 x1 x0) fun x2 =>
  obind (ldv s 18 x2) fun x3 =>
  obind (vbin .rem v1 (.int .i64 64)) fun x4 =>
  obind (vbin .shr x3 x4) fun x5 =>
  obind (vbin .and x5 (.int .u64 1)) fun x6 =>
  obind (vbin .eql x6 (.int .u64 1)) fun x7 =>
  some (.normal, [(4, x7)], s)
@[go_sem] theorem rc_frames_set_has_1 {base : Nat} {ρ : Env} {s : St} : rc D base (.reg (some [4]) o_frames_set_has_1) ρ s = R_frames_set_has_1 base s (get ρ 0) (get ρ 1) := rc_reg_O.trans (by kernel_rfl)

@[go_sem] noncomputable def R_steadfastref04_Frames_turn_0 (_base : Nat) (s : St) (v0 v1 v2 v3 : V) : Option (Ex × Env × St) :=
  some (.normal, [(0, v0), (1, v1), (2, v2), (3, v3)], s)
@[go_sem] theorem rc_steadfastref04_Frames_turn_0 {base : Nat} {ρ : Env} {s : St} : rc D base (.reg (some [0, 1, 2, 3]) o_steadfastref04_Frames_turn_0) ρ s = R_steadfastref04_Frames_turn_0 base s (get ρ 0) (get ρ 1) (get ρ 2) (get ρ 3) := rc_reg_O.trans (by kernel_rfl)
@[go_sem] noncomputable def R_steadfastref04_Frames_turn_1 (_base : Nat) (s : St) (v0 v1 v2 v3 : V) : Option (Ex × Env × St) :=
  obind (rf D f_steadfastref04_Frames_State [v0, v1] s) fun x0 =>
  some (.normal, [(0, v0), (1, v1), (2, v2), (3, v3), (9, x0.1)], x0.2)
@[go_sem] theorem rc_steadfastref04_Frames_turn_1 {base : Nat} {ρ : Env} {s : St} : rc D base (.reg (some [0, 1, 2, 3, 9]) o_steadfastref04_Frames_turn_1) ρ s = R_steadfastref04_Frames_turn_1 base s (get ρ 0) (get ρ 1) (get ρ 2) (get ρ 3) := rc_reg_O.trans (by kernel_rfl)
@[go_sem] noncomputable def R_steadfastref04_Frames_turn_2 (_base : Nat) (s : St) (v0 v1 v2 v3 v9 : V) : Option (Ex × Env × St) :=
  obind (vbin .lss v9 (.int .i64 0)) fun x0 =>
  some (.normal, [(0, v0), (1, v1), (2, v2), (3, v3), (9, v9), (14, x0)], s)
@[go_sem] theorem rc_steadfastref04_Frames_turn_2 {base : Nat} {ρ : Env} {s : St} : rc D base (.reg (some [0, 1, 2, 3, 9, 14]) o_steadfastref04_Frames_turn_2) ρ s = R_steadfastref04_Frames_turn_2 base s (get ρ 0) (get ρ 1) (get ρ 2) (get ρ 3) (get ρ 9) := rc_reg_O.trans (by kernel_rfl)
@[go_sem] noncomputable def R_steadfastref04_Frames_turn_3 (_base : Nat) (s : St) : Option (Ex × Env × St) :=
  some (.normal, [(8, (.int .i64 1))], s)
@[go_sem] theorem rc_steadfastref04_Frames_turn_3 {base : Nat} {ρ : Env} {s : St} : rc D base (.reg (some [8]) o_steadfastref04_Frames_turn_3) ρ s = R_steadfastref04_Frames_turn_3 base s := rc_reg_O.trans (by kernel_rfl)
@[go_sem] noncomputable def R_steadfastref04_Frames_turn_4 (_base : Nat) (s : St) (v0 v1 v2 v3 v9 : V) : Option (Ex × Env × St) :=
  obind (vbin .neq v9 v2) fun x0 =>
  some (.normal, [(0, v0), (1, v1), (3, v3), (17, x0)], s)
@[go_sem] theorem rc_steadfastref04_Frames_turn_4 {base : Nat} {ρ : Env} {s : St} : rc D base (.reg (some [0, 1, 3, 17]) o_steadfastref04_Frames_turn_4) ρ s = R_steadfastref04_Frames_turn_4 base s (get ρ 0) (get ρ 1) (get ρ 2) (get ρ 3) (get ρ 9) := rc_reg_O.trans (by kernel_rfl)
@[go_sem] noncomputable def R_steadfastref04_Frames_turn_5 (_base : Nat) (s : St) : Option (Ex × Env × St) :=
  some (.normal, [(8, (.int .i64 3))], s)
@[go_sem] theorem rc_steadfastref04_Frames_turn_5 {base : Nat} {ρ : Env} {s : St} : rc D base (.reg (some [8]) o_steadfastref04_Frames_turn_5) ρ s = R_steadfastref04_Frames_turn_5 base s := rc_reg_O.trans (by kernel_rfl)
@[go_sem] noncomputable def R_steadfastref04_Frames_turn_6 (base : Nat) (s : St) (v0 v1 v3 : V) : Option (Ex × Env × St) :=
  obind (nilv v0) fun x0 =>
  obind (fadv 21 1 1 x0) fun x1 =>
  obind (ldv s 1 x1) fun x2 =>
  obind (nilv v0) fun x3 =>
  obind (fadv 21 0 10 x3) fun x4 =>
  obind (ldv s 10 x4) fun x5 =>
  obind (vbin .sub v1 x5) fun x6 =>
  obind (sadv 10 x2 x6) fun x7 =>
  obind (stv base s 10 v3 x7) fun s8 =>
  some (.normal, [], s8)
@[go_sem] theorem rc_steadfastref04_Frames_turn_6 {base : Nat} {ρ : Env} {s : St} : rc D base (.regd (some []) o_steadfastref04_Frames_turn_6) ρ s = R_steadfastref04_Frames_turn_6 base s (get ρ 0) (get ρ 1) (get ρ 3) := rc_regd_O.trans (by kernel_rfl)
@[go_sem] noncomputable def R_steadfastref04_Frames_turn_7 (_base : Nat) (s : St) : Option (Ex × Env × St) :=
  some (.normal, [(8, (.int .i64 0))], s)
@[go_sem] theorem rc_steadfastref04_Frames_turn_7 {base : Nat} {ρ : Env} {s : St} : rc D base (.reg (some [8]) o_steadfastref04_Frames_turn_7) ρ s = R_steadfastref04_Frames_turn_7 base s := rc_reg_O.trans (by kernel_rfl)


end Go.Proofs.YtfdaihhnlohckaaDoor
