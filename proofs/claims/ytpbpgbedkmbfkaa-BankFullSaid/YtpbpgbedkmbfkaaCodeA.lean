/-
  YtpbpgbedkmbfkaaCode: the code of the functions that this seat's laws reach, in the form of Ab1 (printed by a program out of the translation; held against it in YtpbpgbedkmbfkaaChk).
-/
import Derived.Test.YtpbpgbedkmbfkaaAbG
import Derived.KernelRfl
set_option maxRecDepth 100000
namespace Go.Proofs.Ytpbpgbedkmbfkaa
open Go.Ab
/-! The functions' numbers. -/
def f_steadfastlaw18_BankFull : Nat := 5
def f_steadfastlaw18_BankEnds : Nat := 10
def f_steadfastlaw18_shown : Nat := 24
def f_steadfastlaw18_made : Nat := 25
def f_caps_Word : Nat := 26
def f_bank_Make : Nat := 27
def f_caps_Of : Nat := 28
def f_objects_Store_Names : Nat := 35
def f_objects_Store_Get : Nat := 36
def f_bank_End : Nat := 37
def f_steadfastref18_End : Nat := 38
def f_objects_Store_End : Nat := 39
def f_caps_Diminish : Nat := 40
def f_steadfastref07_Word : Nat := 41
def f_entry_Names : Nat := 42
def f_steadfastref07_Of : Nat := 43
def f_nvm_Of : Nat := 54
def f_steadfastref03_Of : Nat := 55
def f_objects_Of : Nat := 56
def f_steadfastref10_Of : Nat := 57
def f_caps_may : Nat := 58
def f_bank_by : Nat := 59
def f_objects_Store_Next : Nat := 60
def f_steadfastref10_Store_Names : Nat := 62
def f_steadfastref10_Store_Get : Nat := 63
def f_objects_Store_is : Nat := 64
def f_nvm_Memory_Load : Nat := 65
def f_steadfastref07_May : Nat := 66
def f_objects_Store_own : Nat := 67
def f_frames_Frames_Free : Nat := 68
def f_entry_End : Nat := 69
def f_caps_within : Nat := 70
def f_steadfastref01_With : Nat := 71
def f_steadfastref01_Field : Nat := 72
def f_nvm_New : Nat := 82
def f_frames_New : Nat := 83
def f_nvm_Memory_Lines : Nat := 84
def f_frames_Frames_Take : Nat := 85
def f_objects_Store_share : Nat := 86
def f_steadfastref04_New : Nat := 87
def f_steadfastref10_lines : Nat := 88
def f_steadfastref04_Frames_Take : Nat := 89
def f_caps_May : Nat := 90
def f_entry_Open : Nat := 91
def f_steadfastref08_Names : Nat := 92
def f_steadfastref10_Store_is : Nat := 93
def f_steadfastref03_Memory_Load : Nat := 94
def f_nvm_Memory_at : Nat := 95
def f_frames_Frames_in : Nat := 96
def f_frames_set_turn : Nat := 97
def f_steadfastref01_is : Nat := 98
def f_steadfastref01_bit : Nat := 99
def f_objects_lines_add : Nat := 104
def f_steadfastref04_Frames_turn : Nat := 105
def f_steadfastref03_Memory_is : Nat := 106
def f_steadfastref03_Memory_has : Nat := 107
def f_frames_Frames_State : Nat := 108
def f_steadfastref04_Frames_State : Nat := 109
def f_frames_set_has : Nat := 110
def o_steadfastlaw18_BankFull_0 : List Ab.Op := [
  ⟨some 4, none, .mv (.k (.bool false))⟩]
def o_steadfastlaw18_BankFull_1 : List Ab.Op := [
  ⟨some 18, none, .call (.k (.fn f_steadfastlaw18_shown [])) []⟩,
  ⟨some 5, none, .mv (.t 18)⟩]
def o_steadfastlaw18_BankFull_2 : List Ab.Op := [
  ⟨some 19, none, .mv (.t 1)⟩,
  ⟨some 20, none, .bin .rem (.t 19) (.k (.int .i64 50))⟩,
  ⟨some 6, none, .mv (.t 20)⟩]
def o_steadfastlaw18_BankFull_3 : List Ab.Op := [
  ⟨some 21, none, .mv (.t 6)⟩,
  ⟨some 22, none, .bin .lss (.t 21) (.k (.int .i64 0))⟩]
def o_steadfastlaw18_BankFull_4 : List Ab.Op := [
  ⟨some 23, none, .mv (.t 6)⟩,
  ⟨some 24, none, .un .neg (.t 23)⟩,
  ⟨some 6, none, .mv (.t 24)⟩]
def o_steadfastlaw18_BankFull_5 : List Ab.Op := [
  ⟨some 25, none, .bsl false 28 26 (.agg 26 [(.int .i64 0), (.int .i64 0), (.agg 24 (List.replicate 8 (.int .u64 0)))]) 0 []⟩,
  ⟨some 7, none, .mv (.t 25)⟩]
def o_steadfastlaw18_BankFull_6 : List Ab.Op := [
  ⟨some 8, none, .mv (.k (.int .i64 0))⟩]
def o_steadfastlaw18_BankFull_7 : List Ab.Op := [
  ⟨some 26, none, .mv (.t 8)⟩,
  ⟨some 27, none, .mv (.t 6)⟩,
  ⟨some 28, none, .bin .lss (.t 26) (.t 27)⟩]
def o_steadfastlaw18_BankFull_8 : List Ab.Op := [
  ⟨some 31, none, .mv (.t 7)⟩,
  ⟨some 32, none, .bld (.agg 26 [(.int .i64 0), (.int .i64 0), (.agg 24 (List.replicate 8 (.int .u64 0)))]) [(0, (.k (.int .i64 1)))]⟩,
  ⟨some 33, none, .bsl false 28 26 (.agg 26 [(.int .i64 0), (.int .i64 0), (.agg 24 (List.replicate 8 (.int .u64 0)))]) 1 [(0, (.t 32))]⟩,
  ⟨some 34, none, .app true 28 26 (.t 31) (.t 33)⟩,
  ⟨some 7, none, .mv (.t 34)⟩]
def o_steadfastlaw18_BankFull_9 : List Ab.Op := [
  ⟨some 29, none, .mv (.t 8)⟩,
  ⟨some 30, none, .bin .add (.t 29) (.k (.int .i64 1))⟩,
  ⟨some 8, none, .mv (.t 30)⟩]
def o_steadfastlaw18_BankFull_10 : List Ab.Op := [
  ⟨some 36, none, .mv (.t 7)⟩,
  ⟨some 37, none, .call (.k (.fn f_steadfastlaw18_made [])) [(.t 36)]⟩,
  ⟨some 35, none, .mv (.t 37)⟩,
  ⟨some 38, none, .ext (.t 35) 0⟩,
  ⟨some 39, none, .ext (.t 35) 1⟩,
  ⟨some 9, none, .mv (.t 38)⟩,
  ⟨some 10, none, .mv (.t 39)⟩]
def o_steadfastlaw18_BankFull_11 : List Ab.Op := [
  ⟨some 41, none, .bld (.agg 40 [(.int .i64 0), (.int .i64 0), (.int .i64 0), (.int .i64 0), (.int .i64 0)]) [(0, (.k (.int .i64 5))), (1, (.k (.int .i64 2)))]⟩,
  ⟨some 42, none, .call (.k (.fn f_caps_Word [])) [(.t 41)]⟩,
  ⟨some 40, none, .mv (.t 42)⟩,
  ⟨some 43, none, .ext (.t 40) 0⟩,
  ⟨some 44, none, .ext (.t 40) 1⟩,
  ⟨some 11, none, .mv (.t 43)⟩,
  ⟨some 12, none, .mv (.t 44)⟩]
def o_steadfastlaw18_BankFull_12 : List Ab.Op := [
  ⟨some 45, none, .mv (.t 5)⟩,
  ⟨some 46, none, .un .not (.t 45)⟩,
  ⟨some 47, none, .mv (.t 46)⟩,
  ⟨some 48, some (47, false), .mv (.t 9)⟩,
  ⟨some 49, some (47, false), .eq false 1 (.t 48) (.k .nilp)⟩,
  ⟨some 50, none, .pick (.t 47) (.k (.bool true)) (.t 49)⟩]
def o_steadfastlaw18_BankFull_13 : List Ab.Op := [
  ⟨some 4, none, .mv (.k (.bool false))⟩]
def o_steadfastlaw18_BankFull_14 : List Ab.Op := [
  ⟨some 52, none, .mv (.t 9)⟩,
  ⟨some 53, none, .mv (.t 11)⟩,
  ⟨some 54, none, .mv (.t 0)⟩,
  ⟨some 55, none, .call (.k (.fn f_bank_Make [])) [(.t 52), (.t 53), (.t 54)]⟩,
  ⟨some 51, none, .mv (.t 55)⟩,
  ⟨some 56, none, .ext (.t 51) 0⟩,
  ⟨some 57, none, .ext (.t 51) 1⟩,
  ⟨some 58, none, .ext (.t 51) 2⟩,
  ⟨some 13, none, .mv (.t 56)⟩,
  ⟨some 14, none, .mv (.t 57)⟩,
  ⟨some 15, none, .mv (.t 58)⟩]
def o_steadfastlaw18_BankFull_15 : List Ab.Op := [
  ⟨some 59, none, .mv (.t 0)⟩,
  ⟨some 60, none, .bin .neq (.t 59) (.k (.int .i64 1))⟩,
  ⟨some 61, none, .mv (.t 60)⟩,
  ⟨some 62, some (61, true), .mv (.t 0)⟩,
  ⟨some 63, some (61, true), .bin .neq (.t 62) (.k (.int .i64 2))⟩,
  ⟨some 64, none, .pick (.t 61) (.t 63) (.k (.bool false))⟩,
  ⟨some 65, none, .mv (.t 64)⟩,
  ⟨some 66, some (65, true), .mv (.t 0)⟩,
  ⟨some 67, some (65, true), .bin .neq (.t 66) (.k (.int .i64 4))⟩,
  ⟨some 68, none, .pick (.t 65) (.t 67) (.k (.bool false))⟩]
def o_steadfastlaw18_BankFull_16 : List Ab.Op := [
  ⟨some 69, none, .mv (.t 15)⟩,
  ⟨some 70, none, .bin .eql (.t 69) (.k (.int .i64 1))⟩,
  ⟨some 71, none, .mv (.t 70)⟩,
  ⟨some 72, some (71, true), .mv (.t 13)⟩,
  ⟨some 73, some (71, true), .bin .eql (.t 72) (.k (.int .i64 0))⟩,
  ⟨some 74, none, .pick (.t 71) (.t 73) (.k (.bool false))⟩,
  ⟨some 75, none, .mv (.t 74)⟩,
  ⟨some 76, some (75, true), .mv (.t 14)⟩,
  ⟨some 77, some (75, true), .bin .eql (.t 76) (.k (.int .u64 0))⟩,
  ⟨some 78, none, .pick (.t 75) (.t 77) (.k (.bool false))⟩,
  ⟨some 4, none, .mv (.t 78)⟩]
def o_steadfastlaw18_BankFull_17 : List Ab.Op := [
  ⟨some 79, none, .mv (.t 6)⟩,
  ⟨some 80, none, .bin .eql (.t 79) (.k (.int .i64 49))⟩]
def o_steadfastlaw18_BankFull_18 : List Ab.Op := [
  ⟨some 81, none, .mv (.t 15)⟩,
  ⟨some 82, none, .bin .eql (.t 81) (.k (.int .i64 34))⟩,
  ⟨some 83, none, .mv (.t 82)⟩,
  ⟨some 84, some (83, true), .mv (.t 13)⟩,
  ⟨some 85, some (83, true), .bin .eql (.t 84) (.k (.int .i64 0))⟩,
  ⟨some 86, none, .pick (.t 83) (.t 85) (.k (.bool false))⟩,
  ⟨some 87, none, .mv (.t 86)⟩,
  ⟨some 88, some (87, true), .mv (.t 14)⟩,
  ⟨some 89, some (87, true), .bin .eql (.t 88) (.k (.int .u64 0))⟩,
  ⟨some 90, none, .pick (.t 87) (.t 89) (.k (.bool false))⟩,
  ⟨some 4, none, .mv (.t 90)⟩]
def o_steadfastlaw18_BankFull_19 : List Ab.Op := [
  ⟨some 92, none, .mv (.t 14)⟩,
  ⟨some 93, none, .call (.k (.fn f_caps_Of [])) [(.t 92)]⟩,
  ⟨some 91, none, .mv (.t 93)⟩,
  ⟨some 94, none, .ext (.t 91) 0⟩,
  ⟨some 95, none, .ext (.t 91) 1⟩,
  ⟨some 16, none, .alloc false (.agg 40 [(.int .i64 0), (.int .i64 0), (.int .i64 0), (.int .i64 0), (.int .i64 0)])⟩,
  ⟨none, none, .st 40 (.t 16) (.t 94)⟩,
  ⟨some 17, none, .mv (.t 95)⟩]
def o_steadfastlaw18_BankFull_20 : List Ab.Op := [
  ⟨some 96, none, .mv (.t 15)⟩,
  ⟨some 97, none, .bin .eql (.t 96) (.k (.int .i64 0))⟩,
  ⟨some 98, none, .mv (.t 97)⟩,
  ⟨some 99, some (98, true), .mv (.t 13)⟩,
  ⟨some 100, some (98, true), .mv (.t 6)⟩,
  ⟨some 101, some (98, true), .bin .eql (.t 99) (.t 100)⟩,
  ⟨some 102, none, .pick (.t 98) (.t 101) (.k (.bool false))⟩,
  ⟨some 103, none, .mv (.t 102)⟩,
  ⟨some 104, some (103, true), .mv (.t 17)⟩,
  ⟨some 105, none, .pick (.t 103) (.t 104) (.k (.bool false))⟩,
  ⟨some 106, none, .mv (.t 105)⟩,
  ⟨some 107, some (106, true), .ld 40 (.t 16)⟩,
  ⟨some 108, some (106, true), .mv (.t 0)⟩,
  ⟨some 109, some (106, true), .mv (.t 6)⟩,
  ⟨some 110, some (106, true), .bld (.agg 40 [(.int .i64 0), (.int .i64 0), (.int .i64 0), (.int .i64 0), (.int .i64 0)]) [(0, (.t 108)), (1, (.k (.int .i64 15))), (2, (.t 109))]⟩,
  ⟨some 111, some (106, true), .eq false 40 (.t 107) (.t 110)⟩,
  ⟨some 112, none, .pick (.t 106) (.t 111) (.k (.bool false))⟩,
  ⟨some 4, none, .mv (.t 112)⟩]
def b_steadfastlaw18_BankFull_0 : C :=
    .seq (.seq ((.reg (some [0, 5, 6, 7, 8, 28]) o_steadfastlaw18_BankFull_7)) (
    .cond (.t 28) (
      .skip) (
      .exit 0))) (
    .seq (.block 1 (
      (.reg (some [0, 5, 6, 7, 8]) o_steadfastlaw18_BankFull_8))) (
    (.reg (some [0, 5, 6, 7, 8]) o_steadfastlaw18_BankFull_9)))
/-- steadfast/steadfastlaw18.BankFull -/
@[go_sem] def fc_steadfastlaw18_BankFull : Fc := ⟨2,
  .seq ((.reg (some [0, 1]) o_steadfastlaw18_BankFull_0)) (
  .seq ((.reg (some [0, 1, 5]) o_steadfastlaw18_BankFull_1)) (
  .seq ((.reg (some [0, 5, 6]) o_steadfastlaw18_BankFull_2)) (
  .seq (.seq ((.reg (some [0, 5, 6, 22]) o_steadfastlaw18_BankFull_3)) (
  .cond (.t 22) (
    (.reg (some [0, 5, 6]) o_steadfastlaw18_BankFull_4)) (
    .skip))) (
  .seq ((.reg (some [0, 5, 6, 7]) o_steadfastlaw18_BankFull_5)) (
  .seq (.seq ((.reg (some [0, 5, 6, 7, 8]) o_steadfastlaw18_BankFull_6)) (
  .block 0 (
    .loop [0, 5, 6, 7, 8] b_steadfastlaw18_BankFull_0))) (
  .seq ((.reg (some [0, 5, 6, 9]) o_steadfastlaw18_BankFull_10)) (
  .seq ((.reg (some [0, 5, 6, 9, 11]) o_steadfastlaw18_BankFull_11)) (
  .seq (.seq ((.reg (some [0, 6, 9, 11, 50]) o_steadfastlaw18_BankFull_12)) (
  .cond (.t 50) (
    .seq ((.reg (some [4]) o_steadfastlaw18_BankFull_13)) (
    .ret)) (
    .skip))) (
  .seq ((.reg (some [0, 6, 13, 14, 15]) o_steadfastlaw18_BankFull_14)) (
  .seq (.seq ((.reg (some [0, 6, 13, 14, 15, 68]) o_steadfastlaw18_BankFull_15)) (
  .cond (.t 68) (
    .seq ((.reg (some [4]) o_steadfastlaw18_BankFull_16)) (
    .ret)) (
    .skip))) (
  .seq (.seq ((.reg (some [0, 6, 13, 14, 15, 80]) o_steadfastlaw18_BankFull_17)) (
  .cond (.t 80) (
    .seq ((.reg (some [4]) o_steadfastlaw18_BankFull_18)) (
    .ret)) (
    .skip))) (
  .seq ((.reg (some [0, 6, 13, 15, 16, 17]) o_steadfastlaw18_BankFull_19)) (
  .seq ((.reg (some [4]) o_steadfastlaw18_BankFull_20)) (
  .ret)))))))))))))),
  [.t 4]⟩
def o_steadfastlaw18_BankEnds_0 : List Ab.Op := [
  ⟨some 6, none, .mv (.k (.bool false))⟩]
def o_steadfastlaw18_BankEnds_1 : List Ab.Op := [
  ⟨some 21, none, .call (.k (.fn f_steadfastlaw18_shown [])) []⟩,
  ⟨some 7, none, .mv (.t 21)⟩]
def o_steadfastlaw18_BankEnds_2 : List Ab.Op := [
  ⟨some 23, none, .mv (.t 0)⟩,
  ⟨some 24, none, .call (.k (.fn f_steadfastlaw18_made [])) [(.t 23)]⟩,
  ⟨some 22, none, .mv (.t 24)⟩,
  ⟨some 25, none, .ext (.t 22) 0⟩,
  ⟨some 26, none, .ext (.t 22) 1⟩,
  ⟨some 8, none, .mv (.t 25)⟩,
  ⟨some 9, none, .mv (.t 26)⟩]
def o_steadfastlaw18_BankEnds_3 : List Ab.Op := [
  ⟨some 27, none, .mv (.t 7)⟩,
  ⟨some 28, none, .un .not (.t 27)⟩,
  ⟨some 29, none, .mv (.t 28)⟩,
  ⟨some 30, some (29, false), .mv (.t 8)⟩,
  ⟨some 31, some (29, false), .eq false 1 (.t 30) (.k .nilp)⟩,
  ⟨some 32, none, .pick (.t 29) (.k (.bool true)) (.t 31)⟩]
def o_steadfastlaw18_BankEnds_4 : List Ab.Op := [
  ⟨some 6, none, .mv (.k (.bool false))⟩]
def o_steadfastlaw18_BankEnds_5 : List Ab.Op := [
  ⟨some 34, none, .mv (.t 8)⟩,
  ⟨some 35, none, .mv (.t 1)⟩,
  ⟨some 36, none, .mv (.t 2)⟩,
  ⟨some 37, none, .call (.k (.fn f_bank_End [])) [(.t 34), (.t 35), (.t 36)]⟩,
  ⟨some 33, none, .mv (.t 37)⟩,
  ⟨some 38, none, .ext (.t 33) 0⟩,
  ⟨some 39, none, .ext (.t 33) 1⟩,
  ⟨some 10, none, .mv (.t 38)⟩,
  ⟨some 11, none, .mv (.t 39)⟩]
def o_steadfastlaw18_BankEnds_6 : List Ab.Op := [
  ⟨some 41, none, .mv (.t 9)⟩,
  ⟨some 42, none, .mv (.t 1)⟩,
  ⟨some 43, none, .mv (.t 2)⟩,
  ⟨some 44, none, .call (.k (.fn f_steadfastref18_End [])) [(.t 41), (.t 42), (.t 43)]⟩,
  ⟨some 40, none, .mv (.t 44)⟩,
  ⟨some 45, none, .ext (.t 40) 0⟩,
  ⟨some 46, none, .ext (.t 40) 1⟩,
  ⟨some 12, none, .mv (.t 45)⟩,
  ⟨some 13, none, .mv (.t 46)⟩]
def o_steadfastlaw18_BankEnds_7 : List Ab.Op := [
  ⟨some 47, none, .mv (.t 10)⟩,
  ⟨some 48, none, .mv (.t 12)⟩,
  ⟨some 49, none, .bin .neq (.t 47) (.t 48)⟩,
  ⟨some 50, none, .mv (.t 49)⟩,
  ⟨some 51, some (50, false), .mv (.t 11)⟩,
  ⟨some 52, some (50, false), .mv (.t 13)⟩,
  ⟨some 53, some (50, false), .bin .neq (.t 51) (.t 52)⟩,
  ⟨some 54, none, .pick (.t 50) (.k (.bool true)) (.t 53)⟩]
def o_steadfastlaw18_BankEnds_8 : List Ab.Op := [
  ⟨some 6, none, .mv (.k (.bool false))⟩]
def o_steadfastlaw18_BankEnds_9 : List Ab.Op := [
  ⟨some 55, none, .mv (.t 11)⟩,
  ⟨some 56, none, .bin .neq (.t 55) (.k (.int .i64 0))⟩]
def o_steadfastlaw18_BankEnds_10 : List Ab.Op := [
  ⟨some 6, none, .mv (.k (.bool true))⟩]
def o_steadfastlaw18_BankEnds_11 : List Ab.Op := [
  ⟨some 58, none, .mv (.t 8)⟩,
  ⟨some 59, none, .mv (.t 2)⟩,
  ⟨some 60, none, .call (.k (.fn f_objects_Store_Names [])) [(.t 58), (.t 59)]⟩,
  ⟨some 57, none, .mv (.t 60)⟩,
  ⟨some 61, none, .ext (.t 57) 0⟩,
  ⟨some 62, none, .ext (.t 57) 1⟩,
  ⟨some 14, none, .mv (.t 61)⟩,
  ⟨some 15, none, .mv (.t 62)⟩]
def o_steadfastlaw18_BankEnds_12 : List Ab.Op := [
  ⟨some 63, none, .mv (.t 8)⟩,
  ⟨some 64, none, .mv (.t 10)⟩,
  ⟨some 65, none, .call (.k (.fn f_objects_Store_End [])) [(.t 63), (.t 64)]⟩,
  ⟨some 16, none, .mv (.t 65)⟩]
def o_steadfastlaw18_BankEnds_13 : List Ab.Op := [
  ⟨some 67, none, .mv (.t 8)⟩,
  ⟨some 68, none, .mv (.t 2)⟩,
  ⟨some 69, none, .call (.k (.fn f_objects_Store_Names [])) [(.t 67), (.t 68)]⟩,
  ⟨some 66, none, .mv (.t 69)⟩,
  ⟨some 70, none, .ext (.t 66) 0⟩,
  ⟨some 71, none, .ext (.t 66) 1⟩,
  ⟨some 17, none, .mv (.t 70)⟩,
  ⟨some 18, none, .mv (.t 71)⟩]
def o_steadfastlaw18_BankEnds_14 : List Ab.Op := [
  ⟨some 73, none, .mv (.t 8)⟩,
  ⟨some 74, none, .mv (.t 1)⟩,
  ⟨some 75, none, .mv (.t 2)⟩,
  ⟨some 76, none, .call (.k (.fn f_bank_End [])) [(.t 73), (.t 74), (.t 75)]⟩,
  ⟨some 72, none, .mv (.t 76)⟩,
  ⟨some 77, none, .ext (.t 72) 0⟩,
  ⟨some 78, none, .ext (.t 72) 1⟩,
  ⟨some 19, none, .mv (.t 77)⟩,
  ⟨some 20, none, .mv (.t 78)⟩]
def o_steadfastlaw18_BankEnds_15 : List Ab.Op := [
  ⟨some 79, none, .mv (.t 14)⟩,
  ⟨some 80, none, .mv (.t 10)⟩,
  ⟨some 81, none, .bin .eql (.t 79) (.t 80)⟩,
  ⟨some 82, none, .mv (.t 81)⟩,
  ⟨some 83, some (82, true), .mv (.t 15)⟩,
  ⟨some 84, some (82, true), .bin .eql (.t 83) (.k (.int .i64 0))⟩,
  ⟨some 85, none, .pick (.t 82) (.t 84) (.k (.bool false))⟩,
  ⟨some 86, none, .mv (.t 85)⟩,
  ⟨some 87, some (86, true), .mv (.t 16)⟩,
  ⟨some 88, some (86, true), .bin .eql (.t 87) (.k (.int .i64 0))⟩,
  ⟨some 89, none, .pick (.t 86) (.t 88) (.k (.bool false))⟩,
  ⟨some 90, none, .mv (.t 89)⟩,
  ⟨some 91, some (90, true), .mv (.t 18)⟩,
  ⟨some 92, some (90, true), .bin .neq (.t 91) (.k (.int .i64 0))⟩,
  ⟨some 93, none, .pick (.t 90) (.t 92) (.k (.bool false))⟩,
  ⟨some 94, none, .mv (.t 93)⟩,
  ⟨some 95, some (94, true), .mv (.t 20)⟩,
  ⟨some 96, some (94, true), .mv (.t 18)⟩,
  ⟨some 97, some (94, true), .bin .eql (.t 95) (.t 96)⟩,
  ⟨some 98, none, .pick (.t 94) (.t 97) (.k (.bool false))⟩,
  ⟨some 6, none, .mv (.t 98)⟩]
/-- steadfast/steadfastlaw18.BankEnds -/
@[go_sem] def fc_steadfastlaw18_BankEnds : Fc := ⟨3,
  .seq ((.reg (some [0, 1, 2]) o_steadfastlaw18_BankEnds_0)) (
  .seq ((.reg (some [0, 1, 2, 7]) o_steadfastlaw18_BankEnds_1)) (
  .seq ((.reg (some [1, 2, 7, 8, 9]) o_steadfastlaw18_BankEnds_2)) (
  .seq (.seq ((.reg (some [1, 2, 8, 9, 32]) o_steadfastlaw18_BankEnds_3)) (
  .cond (.t 32) (
    .seq ((.reg (some [6]) o_steadfastlaw18_BankEnds_4)) (
    .ret)) (
    .skip))) (
  .seq ((.reg (some [1, 2, 8, 9, 10, 11]) o_steadfastlaw18_BankEnds_5)) (
  .seq ((.reg (some [1, 2, 8, 10, 11, 12, 13]) o_steadfastlaw18_BankEnds_6)) (
  .seq (.seq ((.reg (some [1, 2, 8, 10, 11, 54]) o_steadfastlaw18_BankEnds_7)) (
  .cond (.t 54) (
    .seq ((.reg (some [6]) o_steadfastlaw18_BankEnds_8)) (
    .ret)) (
    .skip))) (
  .seq (.seq ((.reg (some [1, 2, 8, 10, 56]) o_steadfastlaw18_BankEnds_9)) (
  .cond (.t 56) (
    .seq ((.reg (some [6]) o_steadfastlaw18_BankEnds_10)) (
    .ret)) (
    .skip))) (
  .seq ((.reg (some [1, 2, 8, 10, 14, 15]) o_steadfastlaw18_BankEnds_11)) (
  .seq ((.reg (some [1, 2, 8, 10, 14, 15, 16]) o_steadfastlaw18_BankEnds_12)) (
  .seq ((.reg (some [1, 2, 8, 10, 14, 15, 16, 18]) o_steadfastlaw18_BankEnds_13)) (
  .seq ((.reg (some [10, 14, 15, 16, 18, 20]) o_steadfastlaw18_BankEnds_14)) (
  .seq ((.reg (some [6]) o_steadfastlaw18_BankEnds_15)) (
  .ret))))))))))))),
  [.t 6]⟩
def o_steadfastlaw18_shown_0 : List Ab.Op := [
  ⟨some 0, none, .mv (.k (.bool false))⟩]
def o_steadfastlaw18_shown_1 : List Ab.Op := [
  ⟨some 19, none, .call (.k (.fn f_steadfastlaw18_made [])) [(.k .nils)]⟩,
  ⟨some 18, none, .mv (.t 19)⟩,
  ⟨some 20, none, .ext (.t 18) 0⟩,
  ⟨some 21, none, .ext (.t 18) 1⟩,
  ⟨some 1, none, .mv (.t 20)⟩,
  ⟨some 2, none, .mv (.t 21)⟩]
def o_steadfastlaw18_shown_2 : List Ab.Op := [
  ⟨some 22, none, .mv (.t 1)⟩,
  ⟨some 23, none, .eq false 1 (.t 22) (.k .nilp)⟩]
def o_steadfastlaw18_shown_3 : List Ab.Op := [
  ⟨some 0, none, .mv (.k (.bool false))⟩]
def o_steadfastlaw18_shown_4 : List Ab.Op := [
  ⟨some 25, none, .bld (.agg 40 [(.int .i64 0), (.int .i64 0), (.int .i64 0), (.int .i64 0), (.int .i64 0)]) [(0, (.k (.int .i64 5))), (1, (.k (.int .i64 1)))]⟩,
  ⟨some 26, none, .call (.k (.fn f_steadfastref07_Word [])) [(.t 25)]⟩,
  ⟨some 24, none, .mv (.t 26)⟩,
  ⟨some 27, none, .ext (.t 24) 0⟩,
  ⟨some 28, none, .ext (.t 24) 1⟩,
  ⟨some 3, none, .mv (.t 27)⟩,
  ⟨some 4, none, .mv (.t 28)⟩]
def o_steadfastlaw18_shown_5 : List Ab.Op := [
  ⟨some 30, none, .bld (.agg 40 [(.int .i64 0), (.int .i64 0), (.int .i64 0), (.int .i64 0), (.int .i64 0)]) [(0, (.k (.int .i64 5))), (1, (.k (.int .i64 3)))]⟩,
  ⟨some 31, none, .call (.k (.fn f_steadfastref07_Word [])) [(.t 30)]⟩,
  ⟨some 29, none, .mv (.t 31)⟩,
  ⟨some 32, none, .ext (.t 29) 0⟩,
  ⟨some 33, none, .ext (.t 29) 1⟩,
  ⟨some 5, none, .mv (.t 32)⟩,
  ⟨some 6, none, .mv (.t 33)⟩]
def o_steadfastlaw18_shown_6 : List Ab.Op := [
  ⟨some 35, none, .mv (.t 1)⟩,
  ⟨some 36, none, .call (.k (.fn f_bank_Make [])) [(.t 35), (.k (.int .u64 0)), (.k (.int .i64 1))]⟩,
  ⟨some 34, none, .mv (.t 36)⟩,
  ⟨some 37, none, .ext (.t 34) 0⟩,
  ⟨some 38, none, .ext (.t 34) 1⟩,
  ⟨some 39, none, .ext (.t 34) 2⟩,
  ⟨some 7, none, .mv (.t 37)⟩,
  ⟨some 8, none, .mv (.t 38)⟩,
  ⟨some 9, none, .mv (.t 39)⟩]
def o_steadfastlaw18_shown_7 : List Ab.Op := [
  ⟨some 41, none, .mv (.t 1)⟩,
  ⟨some 42, none, .mv (.t 3)⟩,
  ⟨some 43, none, .call (.k (.fn f_bank_Make [])) [(.t 41), (.t 42), (.k (.int .i64 1))]⟩,
  ⟨some 40, none, .mv (.t 43)⟩,
  ⟨some 44, none, .ext (.t 40) 0⟩,
  ⟨some 45, none, .ext (.t 40) 1⟩,
  ⟨some 46, none, .ext (.t 40) 2⟩,
  ⟨some 10, none, .mv (.t 44)⟩,
  ⟨some 11, none, .mv (.t 45)⟩,
  ⟨some 12, none, .mv (.t 46)⟩]
def o_steadfastlaw18_shown_8 : List Ab.Op := [
  ⟨some 48, none, .mv (.t 1)⟩,
  ⟨some 49, none, .mv (.t 5)⟩,
  ⟨some 50, none, .call (.k (.fn f_bank_End [])) [(.t 48), (.t 49), (.k (.int .u64 0))]⟩,
  ⟨some 47, none, .mv (.t 50)⟩,
  ⟨some 51, none, .ext (.t 47) 0⟩,
  ⟨some 52, none, .ext (.t 47) 1⟩,
  ⟨some 13, none, .mv (.t 51)⟩,
  ⟨some 14, none, .mv (.t 52)⟩]
def o_steadfastlaw18_shown_9 : List Ab.Op := [
  ⟨some 54, none, .mv (.t 1)⟩,
  ⟨some 55, none, .mv (.t 5)⟩,
  ⟨some 56, none, .call (.k (.fn f_bank_Make [])) [(.t 54), (.t 55), (.k (.int .i64 1))]⟩,
  ⟨some 53, none, .mv (.t 56)⟩,
  ⟨some 57, none, .ext (.t 53) 0⟩,
  ⟨some 58, none, .ext (.t 53) 1⟩,
  ⟨some 59, none, .ext (.t 53) 2⟩,
  ⟨some 15, none, .mv (.t 57)⟩,
  ⟨some 16, none, .mv (.t 58)⟩,
  ⟨some 17, none, .mv (.t 59)⟩]
def o_steadfastlaw18_shown_10 : List Ab.Op := [
  ⟨some 60, none, .mv (.t 9)⟩,
  ⟨some 61, none, .bin .eql (.t 60) (.k (.int .i64 31))⟩,
  ⟨some 62, none, .mv (.t 61)⟩,
  ⟨some 63, some (62, true), .mv (.t 12)⟩,
  ⟨some 64, some (62, true), .bin .eql (.t 63) (.k (.int .i64 32))⟩,
  ⟨some 65, none, .pick (.t 62) (.t 64) (.k (.bool false))⟩,
  ⟨some 66, none, .mv (.t 65)⟩,
  ⟨some 67, some (66, true), .mv (.t 14)⟩,
  ⟨some 68, some (66, true), .bin .eql (.t 67) (.k (.int .i64 31))⟩,
  ⟨some 69, none, .pick (.t 66) (.t 68) (.k (.bool false))⟩,
  ⟨some 70, none, .mv (.t 69)⟩,
  ⟨some 71, some (70, true), .mv (.t 15)⟩,
  ⟨some 72, some (70, true), .bin .eql (.t 71) (.k (.int .i64 0))⟩,
  ⟨some 73, none, .pick (.t 70) (.t 72) (.k (.bool false))⟩,
  ⟨some 74, none, .mv (.t 73)⟩,
  ⟨some 75, some (74, true), .mv (.t 16)⟩,
  ⟨some 76, some (74, true), .bin .eql (.t 75) (.k (.int .u64 241))⟩,
  ⟨some 77, none, .pick (.t 74) (.t 76) (.k (.bool false))⟩,
  ⟨some 78, none, .mv (.t 77)⟩,
  ⟨some 79, some (78, true), .mv (.t 17)⟩,
  ⟨some 80, some (78, true), .bin .eql (.t 79) (.k (.int .i64 0))⟩,
  ⟨some 81, none, .pick (.t 78) (.t 80) (.k (.bool false))⟩,
  ⟨some 0, none, .mv (.t 81)⟩]
/-- steadfast/steadfastlaw18.shown -/
@[go_sem] def fc_steadfastlaw18_shown : Fc := ⟨0,
  .seq ((.reg (some []) o_steadfastlaw18_shown_0)) (
  .seq ((.reg (some [1]) o_steadfastlaw18_shown_1)) (
  .seq (.seq ((.reg (some [1, 23]) o_steadfastlaw18_shown_2)) (
  .cond (.t 23) (
    .seq ((.reg (some [0]) o_steadfastlaw18_shown_3)) (
    .ret)) (
    .skip))) (
  .seq ((.reg (some [1, 3]) o_steadfastlaw18_shown_4)) (
  .seq ((.reg (some [1, 3, 5]) o_steadfastlaw18_shown_5)) (
  .seq ((.reg (some [1, 3, 5, 9]) o_steadfastlaw18_shown_6)) (
  .seq ((.reg (some [1, 5, 9, 12]) o_steadfastlaw18_shown_7)) (
  .seq ((.reg (some [1, 5, 9, 12, 14]) o_steadfastlaw18_shown_8)) (
  .seq ((.reg (some [9, 12, 14, 15, 16, 17]) o_steadfastlaw18_shown_9)) (
  .seq ((.reg (some [0]) o_steadfastlaw18_shown_10)) (
  .ret)))))))))),
  [.t 0]⟩
def o_steadfastlaw18_made_0 : List Ab.Op := [
  ⟨some 2, none, .mv (.k .nilp)⟩,
  ⟨some 3, none, .mv (.k .nilp)⟩]
def o_steadfastlaw18_made_1 : List Ab.Op := [
  ⟨some 19, none, .mksl false 58 24 (.agg 24 (List.replicate 8 (.int .u64 0))) (.k (.int .i64 100)) (.k (.int .i64 100))⟩,
  ⟨some 4, none, .mv (.t 19)⟩]
def o_steadfastlaw18_made_2 : List Ab.Op := [
  ⟨some 20, none, .bld (.agg 48 (List.replicate 49 (.agg 42 [(.int .i64 0), (.int .i64 0), (.int .i64 0)]))) []⟩,
  ⟨some 5, none, .alloc false (.agg 48 (List.replicate 49 (.agg 42 [(.int .i64 0), (.int .i64 0), (.int .i64 0)])))⟩,
  ⟨none, none, .st 48 (.t 5) (.t 20)⟩]
def o_steadfastlaw18_made_3 : List Ab.Op := [
  ⟨some 6, none, .mv (.k (.int .i64 0))⟩]
def o_steadfastlaw18_made_4 : List Ab.Op := [
  ⟨some 21, none, .mv (.t 6)⟩,
  ⟨some 22, none, .mv (.t 0)⟩,
  ⟨some 23, none, .len false (.t 22)⟩,
  ⟨some 24, none, .bin .lss (.t 21) (.t 23)⟩,
  ⟨some 25, none, .mv (.t 24)⟩,
  ⟨some 26, some (25, true), .mv (.t 6)⟩,
  ⟨some 27, some (25, true), .bin .lss (.t 26) (.k (.int .i64 49))⟩,
  ⟨some 28, none, .pick (.t 25) (.t 27) (.k (.bool false))⟩]
def o_steadfastlaw18_made_5 : List Ab.Op := [
  ⟨some 31, none, .mv (.t 0)⟩,
  ⟨some 32, none, .mv (.t 6)⟩,
  ⟨some 33, none, .sad 26 (.t 31) (.t 32)⟩,
  ⟨some 34, none, .fad 26 0 10 (.t 33)⟩,
  ⟨some 35, none, .ld 10 (.t 34)⟩,
  ⟨some 36, none, .bin .rem (.t 35) (.k (.int .i64 5))⟩,
  ⟨some 7, none, .mv (.t 36)⟩]
def o_steadfastlaw18_made_6 : List Ab.Op := [
  ⟨some 37, none, .mv (.t 7)⟩,
  ⟨some 38, none, .bin .lss (.t 37) (.k (.int .i64 0))⟩]
def o_steadfastlaw18_made_7 : List Ab.Op := [
  ⟨some 39, none, .mv (.t 7)⟩,
  ⟨some 40, none, .un .neg (.t 39)⟩,
  ⟨some 7, none, .mv (.t 40)⟩]
def o_steadfastlaw18_made_8 : List Ab.Op := [
  ⟨some 41, none, .mv (.t 0)⟩,
  ⟨some 42, none, .mv (.t 6)⟩,
  ⟨some 43, none, .sad 26 (.t 41) (.t 42)⟩,
  ⟨some 44, none, .fad 26 1 10 (.t 43)⟩,
  ⟨some 45, none, .ld 10 (.t 44)⟩,
  ⟨some 46, none, .bin .rem (.t 45) (.k (.int .i64 16777216))⟩,
  ⟨some 8, none, .mv (.t 46)⟩]
def o_steadfastlaw18_made_9 : List Ab.Op := [
  ⟨some 47, none, .mv (.t 8)⟩,
  ⟨some 48, none, .bin .lss (.t 47) (.k (.int .i64 0))⟩]
def o_steadfastlaw18_made_10 : List Ab.Op := [
  ⟨some 49, none, .mv (.t 8)⟩,
  ⟨some 50, none, .un .neg (.t 49)⟩,
  ⟨some 8, none, .mv (.t 50)⟩]
def o_steadfastlaw18_made_11 : List Ab.Op := [
  ⟨some 51, none, .mv (.t 6)⟩,
  ⟨some 52, none, .mv (.t 7)⟩,
  ⟨some 53, none, .mv (.t 8)⟩,
  ⟨some 54, none, .bld (.agg 42 [(.int .i64 0), (.int .i64 0), (.int .i64 0)]) [(0, (.t 52)), (1, (.t 53))]⟩,
  ⟨some 55, none, .iad 48 49 42 (.t 5) (.t 51)⟩,
  ⟨none, none, .st 42 (.t 55) (.t 54)⟩]
def o_steadfastlaw18_made_12 : List Ab.Op := [
  ⟨some 56, none, .mv (.t 7)⟩,
  ⟨some 57, none, .bin .neq (.t 56) (.k (.int .i64 0))⟩]
def o_steadfastlaw18_made_13 : List Ab.Op := [
  ⟨some 58, none, .mv (.t 6)⟩,
  ⟨some 59, none, .mv (.t 6)⟩,
  ⟨some 60, none, .bin .add (.k (.int .i64 20)) (.t 59)⟩,
  ⟨some 61, none, .iad 48 49 42 (.t 5) (.t 58)⟩,
  ⟨some 62, none, .fad 42 2 10 (.t 61)⟩,
  ⟨none, none, .st 10 (.t 62) (.t 60)⟩]
def o_steadfastlaw18_made_14 : List Ab.Op := [
  ⟨some 63, none, .mv (.t 4)⟩,
  ⟨some 64, none, .mv (.t 6)⟩,
  ⟨some 65, none, .bin .add (.k (.int .i64 20)) (.t 64)⟩,
  ⟨some 66, none, .mv (.t 0)⟩,
  ⟨some 67, none, .mv (.t 6)⟩,
  ⟨some 68, none, .sad 26 (.t 66) (.t 67)⟩,
  ⟨some 69, none, .fad 26 2 24 (.t 68)⟩,
  ⟨some 70, none, .ld 24 (.t 69)⟩,
  ⟨some 71, none, .sad 24 (.t 63) (.t 65)⟩,
  ⟨none, none, .st 24 (.t 71) (.t 70)⟩]
def o_steadfastlaw18_made_15 : List Ab.Op := [
  ⟨some 29, none, .mv (.t 6)⟩,
  ⟨some 30, none, .bin .add (.t 29) (.k (.int .i64 1))⟩,
  ⟨some 6, none, .mv (.t 30)⟩]
def o_steadfastlaw18_made_16 : List Ab.Op := [
  ⟨some 72, none, .bld (.agg 50 (List.replicate 8 (.int .i64 0))) []⟩,
  ⟨some 9, none, .alloc false (.agg 50 (List.replicate 8 (.int .i64 0)))⟩,
  ⟨none, none, .st 50 (.t 9) (.t 72)⟩]
def o_steadfastlaw18_made_17 : List Ab.Op := [
  ⟨some 10, none, .mv (.k (.int .i64 0))⟩]
def o_steadfastlaw18_made_18 : List Ab.Op := [
  ⟨some 73, none, .mv (.t 10)⟩,
  ⟨some 74, none, .bin .lss (.t 73) (.k (.int .i64 8))⟩]
def o_steadfastlaw18_made_19 : List Ab.Op := [
  ⟨some 77, none, .mv (.t 10)⟩,
  ⟨some 78, none, .mv (.t 10)⟩,
  ⟨some 79, none, .bin .add (.k (.int .i64 10)) (.t 78)⟩,
  ⟨some 80, none, .iad 50 8 10 (.t 9) (.t 77)⟩,
  ⟨none, none, .st 10 (.t 80) (.t 79)⟩]
def o_steadfastlaw18_made_20 : List Ab.Op := [
  ⟨some 75, none, .mv (.t 10)⟩,
  ⟨some 76, none, .bin .add (.t 75) (.k (.int .i64 1))⟩,
  ⟨some 10, none, .mv (.t 76)⟩]
def o_steadfastlaw18_made_21 : List Ab.Op := [
  ⟨some 82, none, .mv (.t 4)⟩,
  ⟨some 83, none, .call (.k (.fn f_nvm_Of [])) [(.t 82)]⟩,
  ⟨some 81, none, .mv (.t 83)⟩,
  ⟨some 84, none, .ext (.t 81) 0⟩,
  ⟨some 85, none, .ext (.t 81) 1⟩,
  ⟨some 11, none, .mv (.t 84)⟩,
  ⟨some 12, none, .mv (.t 85)⟩]
def o_steadfastlaw18_made_22 : List Ab.Op := [
  ⟨some 87, none, .mv (.t 4)⟩,
  ⟨some 88, none, .call (.k (.fn f_steadfastref03_Of [])) [(.t 87)]⟩,
  ⟨some 86, none, .mv (.t 88)⟩,
  ⟨some 89, none, .ext (.t 86) 0⟩,
  ⟨some 90, none, .ext (.t 86) 1⟩,
  ⟨some 13, none, .mv (.t 89)⟩,
  ⟨some 14, none, .mv (.t 90)⟩]
def o_steadfastlaw18_made_23 : List Ab.Op := [
  ⟨some 91, none, .mv (.t 11)⟩,
  ⟨some 92, none, .eq false 1 (.t 91) (.k .nilp)⟩]
def o_steadfastlaw18_made_24 : List Ab.Op := [
  ⟨some 2, none, .mv (.k .nilp)⟩,
  ⟨some 3, none, .mv (.k .nilp)⟩]
def o_steadfastlaw18_made_25 : List Ab.Op := [
  ⟨some 94, none, .mv (.t 11)⟩,
  ⟨some 95, none, .ld 48 (.t 5)⟩,
  ⟨some 96, none, .ld 50 (.t 9)⟩,
  ⟨some 97, none, .call (.k (.fn f_objects_Of [])) [(.t 94), (.k (.int .i64 10)), (.t 95), (.t 96)]⟩,
  ⟨some 93, none, .mv (.t 97)⟩,
  ⟨some 98, none, .ext (.t 93) 0⟩,
  ⟨some 99, none, .ext (.t 93) 1⟩,
  ⟨some 15, none, .mv (.t 98)⟩,
  ⟨some 16, none, .mv (.t 99)⟩]
def o_steadfastlaw18_made_26 : List Ab.Op := [
  ⟨some 101, none, .mv (.t 13)⟩,
  ⟨some 102, none, .ld 48 (.t 5)⟩,
  ⟨some 103, none, .ld 50 (.t 9)⟩,
  ⟨some 104, none, .call (.k (.fn f_steadfastref10_Of [])) [(.t 101), (.k (.int .i64 10)), (.t 102), (.t 103)]⟩,
  ⟨some 100, none, .mv (.t 104)⟩,
  ⟨some 105, none, .ext (.t 100) 0⟩,
  ⟨some 106, none, .ext (.t 100) 1⟩,
  ⟨some 17, none, .mv (.t 105)⟩,
  ⟨some 18, none, .mv (.t 106)⟩]
def o_steadfastlaw18_made_27 : List Ab.Op := [
  ⟨some 107, none, .mv (.t 15)⟩,
  ⟨some 108, none, .mv (.t 17)⟩,
  ⟨some 2, none, .mv (.t 107)⟩,
  ⟨some 3, none, .mv (.t 108)⟩]
def b_steadfastlaw18_made_0 : C :=
    .seq (.seq ((.reg (some [0, 4, 5, 6, 28]) o_steadfastlaw18_made_4)) (
    .cond (.t 28) (
      .skip) (
      .exit 0))) (
    .seq (.block 1 (
      .seq ((.reg (some [0, 4, 5, 6, 7]) o_steadfastlaw18_made_5)) (
      .seq (.seq ((.reg (some [0, 4, 5, 6, 7, 38]) o_steadfastlaw18_made_6)) (
      .cond (.t 38) (
        (.reg (some [0, 4, 5, 6, 7]) o_steadfastlaw18_made_7)) (
        .skip))) (
      .seq ((.reg (some [0, 4, 5, 6, 7, 8]) o_steadfastlaw18_made_8)) (
      .seq (.seq ((.reg (some [0, 4, 5, 6, 7, 8, 48]) o_steadfastlaw18_made_9)) (
      .cond (.t 48) (
        (.reg (some [0, 4, 5, 6, 7, 8]) o_steadfastlaw18_made_10)) (
        .skip))) (
      .seq ((.reg (some [0, 4, 5, 6, 7]) o_steadfastlaw18_made_11)) (
      .seq ((.reg (some [0, 4, 5, 6, 57]) o_steadfastlaw18_made_12)) (
      .cond (.t 57) (
        .seq ((.reg (some [0, 4, 5, 6]) o_steadfastlaw18_made_13)) (
        (.reg (some [0, 4, 5, 6]) o_steadfastlaw18_made_14))) (
        .skip))))))))) (
    (.reg (some [0, 4, 5, 6]) o_steadfastlaw18_made_15)))
def b_steadfastlaw18_made_1 : C :=
    .seq (.seq ((.reg (some [4, 5, 9, 10, 74]) o_steadfastlaw18_made_18)) (
    .cond (.t 74) (
      .skip) (
      .exit 2))) (
    .seq (.block 3 (
      (.reg (some [4, 5, 9, 10]) o_steadfastlaw18_made_19))) (
    (.reg (some [4, 5, 9, 10]) o_steadfastlaw18_made_20)))
/-- steadfast/steadfastlaw18.made -/
@[go_sem] def fc_steadfastlaw18_made : Fc := ⟨1,
  .seq ((.reg (some [0]) o_steadfastlaw18_made_0)) (
  .seq ((.reg (some [0, 4]) o_steadfastlaw18_made_1)) (
  .seq ((.reg (some [0, 4, 5]) o_steadfastlaw18_made_2)) (
  .seq (.seq ((.reg (some [0, 4, 5, 6]) o_steadfastlaw18_made_3)) (
  .block 0 (
    .loop [0, 4, 5, 6] b_steadfastlaw18_made_0))) (
  .seq ((.reg (some [4, 5, 9]) o_steadfastlaw18_made_16)) (
  .seq (.seq ((.reg (some [4, 5, 9, 10]) o_steadfastlaw18_made_17)) (
  .block 2 (
    .loop [4, 5, 9, 10] b_steadfastlaw18_made_1))) (
  .seq ((.reg (some [4, 5, 9, 11]) o_steadfastlaw18_made_21)) (
  .seq ((.reg (some [5, 9, 11, 13]) o_steadfastlaw18_made_22)) (
  .seq (.seq ((.reg (some [5, 9, 11, 13, 92]) o_steadfastlaw18_made_23)) (
  .cond (.t 92) (
    .seq ((.reg (some [2, 3]) o_steadfastlaw18_made_24)) (
    .ret)) (
    .skip))) (
  .seq ((.reg (some [5, 9, 13, 15]) o_steadfastlaw18_made_25)) (
  .seq ((.reg (some [15, 17]) o_steadfastlaw18_made_26)) (
  .seq ((.reg (some [2, 3]) o_steadfastlaw18_made_27)) (
  .ret)))))))))))),
  [.t 2, .t 3]⟩
def o_caps_Word_0 : List Ab.Op := [
  ⟨some 1, none, .box false (.t 0)⟩,
  ⟨some 2, none, .mv (.k (.int .u64 0))⟩,
  ⟨some 3, none, .mv (.k (.int .i64 0))⟩]
def o_caps_Word_1 : List Ab.Op := [
  ⟨some 4, none, .ld 40 (.t 1)⟩,
  ⟨some 5, none, .call (.k (.fn f_caps_may [])) [(.t 4)]⟩,
  ⟨some 6, none, .un .not (.t 5)⟩]
def o_caps_Word_2 : List Ab.Op := [
  ⟨some 2, none, .mv (.k (.int .u64 0))⟩,
  ⟨some 3, none, .mv (.k (.int .i64 1))⟩]
def o_caps_Word_3 : List Ab.Op := [
  ⟨some 7, none, .fad 40 0 10 (.t 1)⟩,
  ⟨some 8, none, .ld 10 (.t 7)⟩,
  ⟨some 9, none, .conv .u64 (.t 8)⟩,
  ⟨some 10, none, .fad 40 1 10 (.t 1)⟩,
  ⟨some 11, none, .ld 10 (.t 10)⟩,
  ⟨some 12, none, .conv .u64 (.t 11)⟩,
  ⟨some 13, none, .bin .shl (.t 12) (.k (.int .u64 4))⟩,
  ⟨some 14, none, .bin .or (.t 9) (.t 13)⟩,
  ⟨some 15, none, .fad 40 2 10 (.t 1)⟩,
  ⟨some 16, none, .ld 10 (.t 15)⟩,
  ⟨some 17, none, .conv .u64 (.t 16)⟩,
  ⟨some 18, none, .bin .shl (.t 17) (.k (.int .u64 8))⟩,
  ⟨some 19, none, .bin .or (.t 14) (.t 18)⟩,
  ⟨some 20, none, .fad 40 3 10 (.t 1)⟩,
  ⟨some 21, none, .ld 10 (.t 20)⟩,
  ⟨some 22, none, .conv .u64 (.t 21)⟩,
  ⟨some 23, none, .bin .shl (.t 22) (.k (.int .u64 24))⟩,
  ⟨some 24, none, .bin .or (.t 19) (.t 23)⟩,
  ⟨some 25, none, .fad 40 4 10 (.t 1)⟩,
  ⟨some 26, none, .ld 10 (.t 25)⟩,
  ⟨some 27, none, .conv .u64 (.t 26)⟩,
  ⟨some 28, none, .bin .shl (.t 27) (.k (.int .u64 48))⟩,
  ⟨some 29, none, .bin .or (.t 24) (.t 28)⟩,
  ⟨some 2, none, .mv (.t 29)⟩,
  ⟨some 3, none, .mv (.k (.int .i64 0))⟩]
/-- steadfast/caps.Word -/
@[go_sem] def fc_caps_Word : Fc := ⟨1,
  .seq ((.reg (some [1]) o_caps_Word_0)) (
  .seq (.seq ((.reg (some [1, 6]) o_caps_Word_1)) (
  .cond (.t 6) (
    .seq ((.reg (some [2, 3]) o_caps_Word_2)) (
    .ret)) (
    .skip))) (
  .seq ((.reg (some [2, 3]) o_caps_Word_3)) (
  .ret))),
  [.t 2, .t 3]⟩
def o_bank_Make_0 : List Ab.Op := [
  ⟨some 6, none, .mv (.k (.int .i64 0))⟩,
  ⟨some 7, none, .mv (.k (.int .u64 0))⟩,
  ⟨some 8, none, .mv (.k (.int .i64 0))⟩]
def o_bank_Make_1 : List Ab.Op := [
  ⟨some 9, none, .mv (.k (.int .i64 0))⟩]
def o_bank_Make_2 : List Ab.Op := [
  ⟨some 10, none, .mv (.t 1)⟩,
  ⟨some 11, none, .call (.k (.fn f_bank_by [])) [(.t 10)]⟩,
  ⟨some 8, none, .mv (.t 11)⟩]
def o_bank_Make_3 : List Ab.Op := [
  ⟨some 12, none, .mv (.t 8)⟩,
  ⟨some 13, none, .bin .neq (.t 12) (.k (.int .i64 0))⟩]
def o_bank_Make_4 : List Ab.Op := [
  ⟨some 15, none, .mv (.t 0)⟩,
  ⟨some 16, none, .mv (.t 2)⟩,
  ⟨some 17, none, .call (.k (.fn f_objects_Store_Next [])) [(.t 15), (.t 16)]⟩,
  ⟨some 14, none, .mv (.t 17)⟩,
  ⟨some 18, none, .ext (.t 14) 0⟩,
  ⟨some 19, none, .ext (.t 14) 1⟩,
  ⟨some 20, none, .ext (.t 14) 2⟩,
  ⟨some 6, none, .mv (.t 18)⟩,
  ⟨some 9, none, .mv (.t 19)⟩,
  ⟨some 8, none, .mv (.t 20)⟩]
def o_bank_Make_5 : List Ab.Op := [
  ⟨some 21, none, .mv (.t 8)⟩,
  ⟨some 22, none, .bin .neq (.t 21) (.k (.int .i64 0))⟩]
def o_bank_Make_6 : List Ab.Op := [
  ⟨some 24, none, .mv (.t 2)⟩,
  ⟨some 25, none, .mv (.t 6)⟩,
  ⟨some 26, none, .mv (.t 9)⟩,
  ⟨some 27, none, .bld (.agg 40 [(.int .i64 0), (.int .i64 0), (.int .i64 0), (.int .i64 0), (.int .i64 0)]) [(0, (.t 24)), (1, (.k (.int .i64 15))), (2, (.t 25)), (3, (.t 26))]⟩,
  ⟨some 28, none, .call (.k (.fn f_caps_Word [])) [(.t 27)]⟩,
  ⟨some 23, none, .mv (.t 28)⟩,
  ⟨some 29, none, .ext (.t 23) 0⟩,
  ⟨some 30, none, .ext (.t 23) 1⟩,
  ⟨some 7, none, .mv (.t 29)⟩,
  ⟨some 8, none, .mv (.t 30)⟩]
def o_bank_Make_7 : List Ab.Op := [
  ⟨some 31, none, .mv (.t 6)⟩,
  ⟨some 32, none, .mv (.t 7)⟩,
  ⟨some 33, none, .mv (.t 8)⟩,
  ⟨some 6, none, .mv (.t 31)⟩,
  ⟨some 7, none, .mv (.t 32)⟩,
  ⟨some 8, none, .mv (.t 33)⟩]
def o_bank_Make_8 : List Ab.Op := [
  ⟨some 34, none, .mv (.t 8)⟩,
  ⟨some 6, none, .mv (.k (.int .i64 0))⟩,
  ⟨some 7, none, .mv (.k (.int .u64 0))⟩,
  ⟨some 8, none, .mv (.t 34)⟩]
/-- steadfast/bank.Make -/
@[go_sem] def fc_bank_Make : Fc := ⟨3,
  .seq ((.reg (some [0, 1, 2]) o_bank_Make_0)) (
  .scope (
    .seq (.block 1000000 (
      .seq ((.reg (some [0, 1, 2]) o_bank_Make_1)) (
      .seq (.seq ((.reg (some [0, 2, 8]) o_bank_Make_2)) (
      .seq ((.reg (some [0, 2, 8, 13]) o_bank_Make_3)) (
      .cond (.t 13) (
        .exit 1000000) (
        .skip)))) (
      .seq (.seq ((.reg (some [2, 6, 8, 9]) o_bank_Make_4)) (
      .seq ((.reg (some [2, 6, 8, 9, 22]) o_bank_Make_5)) (
      .cond (.t 22) (
        .exit 1000000) (
        .skip)))) (
      .seq ((.reg (some [6, 7, 8]) o_bank_Make_6)) (
      .seq (.seq ((.reg (some [6, 7, 8]) o_bank_Make_7)) (
      .ret)) (
      .skip))))))) (
    .seq ((.reg (some [6, 7, 8]) o_bank_Make_8)) (
    .ret)))),
  [.t 6, .t 7, .t 8]⟩
def o_caps_Of_0 : List Ab.Op := [
  ⟨some 2, none, .alloc false (.agg 40 [(.int .i64 0), (.int .i64 0), (.int .i64 0), (.int .i64 0), (.int .i64 0)])⟩,
  ⟨some 3, none, .mv (.k (.bool false))⟩]
def o_caps_Of_1 : List Ab.Op := [
  ⟨some 5, none, .mv (.t 0)⟩,
  ⟨some 6, none, .bin .and (.t 5) (.k (.int .u64 15))⟩,
  ⟨some 7, none, .conv .i64 (.t 6)⟩,
  ⟨some 8, none, .mv (.t 0)⟩,
  ⟨some 9, none, .bin .shr (.t 8) (.k (.int .u64 4))⟩,
  ⟨some 10, none, .bin .and (.t 9) (.k (.int .u64 15))⟩,
  ⟨some 11, none, .conv .i64 (.t 10)⟩,
  ⟨some 12, none, .mv (.t 0)⟩,
  ⟨some 13, none, .bin .shr (.t 12) (.k (.int .u64 8))⟩,
  ⟨some 14, none, .bin .and (.t 13) (.k (.int .u64 65535))⟩,
  ⟨some 15, none, .conv .i64 (.t 14)⟩,
  ⟨some 16, none, .mv (.t 0)⟩,
  ⟨some 17, none, .bin .shr (.t 16) (.k (.int .u64 24))⟩,
  ⟨some 18, none, .bin .and (.t 17) (.k (.int .u64 16777215))⟩,
  ⟨some 19, none, .conv .i64 (.t 18)⟩,
  ⟨some 20, none, .mv (.t 0)⟩,
  ⟨some 21, none, .bin .shr (.t 20) (.k (.int .u64 48))⟩,
  ⟨some 22, none, .conv .i64 (.t 21)⟩,
  ⟨some 23, none, .bld (.agg 40 [(.int .i64 0), (.int .i64 0), (.int .i64 0), (.int .i64 0), (.int .i64 0)]) [(0, (.t 7)), (1, (.t 11)), (2, (.t 15)), (3, (.t 19)), (4, (.t 22))]⟩,
  ⟨some 4, none, .alloc false (.agg 40 [(.int .i64 0), (.int .i64 0), (.int .i64 0), (.int .i64 0), (.int .i64 0)])⟩,
  ⟨none, none, .st 40 (.t 4) (.t 23)⟩]
def o_caps_Of_2 : List Ab.Op := [
  ⟨some 24, none, .ld 40 (.t 4)⟩,
  ⟨some 25, none, .call (.k (.fn f_caps_may [])) [(.t 24)]⟩,
  ⟨some 26, none, .un .not (.t 25)⟩]
def o_caps_Of_3 : List Ab.Op := [
  ⟨some 27, none, .bld (.agg 40 [(.int .i64 0), (.int .i64 0), (.int .i64 0), (.int .i64 0), (.int .i64 0)]) []⟩,
  ⟨none, none, .st 40 (.t 2) (.t 27)⟩,
  ⟨some 3, none, .mv (.k (.bool false))⟩]
def o_caps_Of_4 : List Ab.Op := [
  ⟨some 28, none, .ld 40 (.t 4)⟩,
  ⟨none, none, .st 40 (.t 2) (.t 28)⟩,
  ⟨some 3, none, .mv (.k (.bool true))⟩]
/-- steadfast/caps.Of -/
@[go_sem] def fc_caps_Of : Fc := ⟨1,
  .seq ((.reg (some [0, 2]) o_caps_Of_0)) (
  .seq ((.reg (some [2, 4]) o_caps_Of_1)) (
  .seq (.seq ((.reg (some [2, 4, 26]) o_caps_Of_2)) (
  .cond (.t 26) (
    .seq ((.reg (some [2, 3]) o_caps_Of_3)) (
    .ret)) (
    .skip))) (
  .seq ((.reg (some [2, 3]) o_caps_Of_4)) (
  .ret)))),
  [.cell 2 40, .t 3]⟩
def o_objects_Store_Names_0 : List Ab.Op := [
  ⟨some 4, none, .mv (.k (.int .i64 0))⟩,
  ⟨some 5, none, .mv (.k (.int .i64 0))⟩]
def o_objects_Store_Names_1 : List Ab.Op := [
  ⟨some 10, none, .mv (.t 1)⟩,
  ⟨some 11, none, .call (.k (.fn f_caps_Of [])) [(.t 10)]⟩,
  ⟨some 9, none, .mv (.t 11)⟩,
  ⟨some 12, none, .ext (.t 9) 0⟩,
  ⟨some 13, none, .ext (.t 9) 1⟩,
  ⟨some 6, none, .alloc false (.agg 40 [(.int .i64 0), (.int .i64 0), (.int .i64 0), (.int .i64 0), (.int .i64 0)])⟩,
  ⟨none, none, .st 40 (.t 6) (.t 12)⟩,
  ⟨some 7, none, .mv (.t 13)⟩]
def o_objects_Store_Names_2 : List Ab.Op := [
  ⟨some 14, none, .mv (.t 7)⟩,
  ⟨some 15, none, .un .not (.t 14)⟩]
def o_objects_Store_Names_3 : List Ab.Op := [
  ⟨some 4, none, .mv (.k (.int .i64 0))⟩,
  ⟨some 5, none, .mv (.k (.int .i64 31))⟩]
def o_objects_Store_Names_4 : List Ab.Op := [
  ⟨some 16, none, .mv (.t 0)⟩,
  ⟨some 17, none, .fad 40 2 10 (.t 6)⟩,
  ⟨some 18, none, .ld 10 (.t 17)⟩,
  ⟨some 19, none, .nilc (.t 16)⟩,
  ⟨some 20, none, .fad 43 2 48 (.t 19)⟩,
  ⟨some 21, none, .iad 48 49 42 (.t 20) (.t 18)⟩,
  ⟨some 22, none, .ld 42 (.t 21)⟩,
  ⟨some 23, none, .fad 40 2 10 (.t 6)⟩,
  ⟨some 24, none, .ld 10 (.t 23)⟩,
  ⟨some 25, none, .mv (.t 1)⟩,
  ⟨some 26, none, .pcall (.k (.fn f_entry_Names [])) [(.t 22), (.t 24), (.t 25)]⟩,
  ⟨some 8, none, .mv (.t 26)⟩]
def o_objects_Store_Names_5 : List Ab.Op := [
  ⟨some 27, none, .mv (.t 8)⟩,
  ⟨some 28, none, .bin .neq (.t 27) (.k (.int .i64 0))⟩]
def o_objects_Store_Names_6 : List Ab.Op := [
  ⟨some 29, none, .mv (.t 8)⟩,
  ⟨some 4, none, .mv (.k (.int .i64 0))⟩,
  ⟨some 5, none, .mv (.t 29)⟩]
def o_objects_Store_Names_7 : List Ab.Op := [
  ⟨some 30, none, .fad 40 2 10 (.t 6)⟩,
  ⟨some 31, none, .ld 10 (.t 30)⟩,
  ⟨some 4, none, .mv (.t 31)⟩,
  ⟨some 5, none, .mv (.k (.int .i64 0))⟩]
/-- (*steadfast/objects.Store).Names -/
@[go_sem] def fc_objects_Store_Names : Fc := ⟨2,
  .seq ((.reg (some [0, 1]) o_objects_Store_Names_0)) (
  .seq ((.reg (some [0, 1, 6, 7]) o_objects_Store_Names_1)) (
  .seq (.seq ((.reg (some [0, 1, 6, 15]) o_objects_Store_Names_2)) (
  .cond (.t 15) (
    .seq ((.reg (some [4, 5]) o_objects_Store_Names_3)) (
    .ret)) (
    .skip))) (
  .seq (.seq ((.regd (some [6, 8]) o_objects_Store_Names_4)) (
  .seq ((.reg (some [6, 8, 28]) o_objects_Store_Names_5)) (
  .cond (.t 28) (
    .seq ((.reg (some [4, 5]) o_objects_Store_Names_6)) (
    .ret)) (
    .skip)))) (
  .seq ((.reg (some [4, 5]) o_objects_Store_Names_7)) (
  .ret))))),
  [.t 4, .t 5]⟩
def o_objects_Store_Get_0 : List Ab.Op := [
  ⟨some 4, none, .alloc false (.agg 26 [(.int .i64 0), (.int .i64 0), (.agg 24 (List.replicate 8 (.int .u64 0)))])⟩,
  ⟨some 5, none, .mv (.k (.int .i64 0))⟩]
def o_objects_Store_Get_1 : List Ab.Op := [
  ⟨some 10, none, .mv (.t 0)⟩,
  ⟨some 11, none, .mv (.t 1)⟩,
  ⟨some 12, none, .call (.k (.fn f_objects_Store_is [])) [(.t 10), (.t 11)]⟩,
  ⟨some 6, none, .mv (.t 12)⟩]
def o_objects_Store_Get_2 : List Ab.Op := [
  ⟨some 13, none, .mv (.t 6)⟩,
  ⟨some 14, none, .bin .neq (.t 13) (.k (.int .i64 0))⟩]
def o_objects_Store_Get_3 : List Ab.Op := [
  ⟨some 15, none, .bld (.agg 26 [(.int .i64 0), (.int .i64 0), (.agg 24 (List.replicate 8 (.int .u64 0)))]) []⟩,
  ⟨some 16, none, .mv (.t 6)⟩,
  ⟨none, none, .st 26 (.t 4) (.t 15)⟩,
  ⟨some 5, none, .mv (.t 16)⟩]
def o_objects_Store_Get_4 : List Ab.Op := [
  ⟨some 17, none, .mv (.t 0)⟩,
  ⟨some 18, none, .mv (.t 1)⟩,
  ⟨some 19, none, .nilc (.t 17)⟩,
  ⟨some 20, none, .fad 43 2 48 (.t 19)⟩,
  ⟨some 21, none, .iad 48 49 42 (.t 20) (.t 18)⟩,
  ⟨some 22, none, .ld 42 (.t 21)⟩,
  ⟨some 7, none, .alloc false (.agg 42 [(.int .i64 0), (.int .i64 0), (.int .i64 0)])⟩,
  ⟨none, none, .st 42 (.t 7) (.t 22)⟩]
def o_objects_Store_Get_5 : List Ab.Op := [
  ⟨some 24, none, .mv (.t 0)⟩,
  ⟨some 25, none, .nilc (.t 24)⟩,
  ⟨some 26, none, .fad 43 0 1 (.t 25)⟩,
  ⟨some 27, none, .ld 1 (.t 26)⟩,
  ⟨some 28, none, .fad 42 2 10 (.t 7)⟩,
  ⟨some 29, none, .ld 10 (.t 28)⟩,
  ⟨some 30, none, .pcall (.k (.fn f_nvm_Memory_Load [])) [(.t 27), (.t 29)]⟩,
  ⟨some 23, none, .mv (.t 30)⟩,
  ⟨some 31, none, .ext (.t 23) 0⟩,
  ⟨some 32, none, .ext (.t 23) 1⟩,
  ⟨some 8, none, .alloc false (.agg 24 (List.replicate 8 (.int .u64 0)))⟩,
  ⟨none, none, .st 24 (.t 8) (.t 31)⟩,
  ⟨some 9, none, .mv (.t 32)⟩]
def o_objects_Store_Get_6 : List Ab.Op := [
  ⟨some 33, none, .mv (.t 9)⟩,
  ⟨some 34, none, .bin .neq (.t 33) (.k (.int .i64 0))⟩]
def o_objects_Store_Get_7 : List Ab.Op := [
  ⟨some 35, none, .bld (.agg 26 [(.int .i64 0), (.int .i64 0), (.agg 24 (List.replicate 8 (.int .u64 0)))]) []⟩,
  ⟨some 36, none, .mv (.t 9)⟩,
  ⟨none, none, .st 26 (.t 4) (.t 35)⟩,
  ⟨some 5, none, .mv (.t 36)⟩]
def o_objects_Store_Get_8 : List Ab.Op := [
  ⟨some 37, none, .fad 42 0 10 (.t 7)⟩,
  ⟨some 38, none, .ld 10 (.t 37)⟩,
  ⟨some 39, none, .fad 42 1 10 (.t 7)⟩,
  ⟨some 40, none, .ld 10 (.t 39)⟩,
  ⟨some 41, none, .ld 24 (.t 8)⟩,
  ⟨some 42, none, .bld (.agg 26 [(.int .i64 0), (.int .i64 0), (.agg 24 (List.replicate 8 (.int .u64 0)))]) [(0, (.t 38)), (1, (.t 40)), (2, (.t 41))]⟩,
  ⟨none, none, .st 26 (.t 4) (.t 42)⟩,
  ⟨some 5, none, .mv (.k (.int .i64 0))⟩]
/-- (*steadfast/objects.Store).Get -/
@[go_sem] def fc_objects_Store_Get : Fc := ⟨2,
  .seq ((.reg (some [0, 1, 4]) o_objects_Store_Get_0)) (
  .seq (.seq ((.reg (some [0, 1, 4, 6]) o_objects_Store_Get_1)) (
  .seq ((.reg (some [0, 1, 4, 6, 14]) o_objects_Store_Get_2)) (
  .cond (.t 14) (
    .seq ((.reg (some [4, 5]) o_objects_Store_Get_3)) (
    .ret)) (
    .skip)))) (
  .seq ((.reg (some [0, 4, 7]) o_objects_Store_Get_4)) (
  .seq ((.regd (some [4, 7, 8, 9]) o_objects_Store_Get_5)) (
  .seq (.seq ((.reg (some [4, 7, 8, 9, 34]) o_objects_Store_Get_6)) (
  .cond (.t 34) (
    .seq ((.reg (some [4, 5]) o_objects_Store_Get_7)) (
    .ret)) (
    .skip))) (
  .seq ((.reg (some [4, 5]) o_objects_Store_Get_8)) (
  .ret)))))),
  [.cell 4 26, .t 5]⟩
def o_bank_End_0 : List Ab.Op := [
  ⟨some 6, none, .mv (.k (.int .i64 0))⟩,
  ⟨some 7, none, .mv (.k (.int .i64 0))⟩]
def o_bank_End_1 : List Ab.Op := [
  ⟨some 11, none, .mv (.t 1)⟩,
  ⟨some 12, none, .call (.k (.fn f_bank_by [])) [(.t 11)]⟩,
  ⟨some 8, none, .mv (.t 12)⟩]
def o_bank_End_2 : List Ab.Op := [
  ⟨some 13, none, .mv (.t 8)⟩,
  ⟨some 14, none, .bin .neq (.t 13) (.k (.int .i64 0))⟩]
def o_bank_End_3 : List Ab.Op := [
  ⟨some 15, none, .mv (.t 8)⟩,
  ⟨some 6, none, .mv (.k (.int .i64 0))⟩,
  ⟨some 7, none, .mv (.t 15)⟩]
def o_bank_End_4 : List Ab.Op := [
  ⟨some 17, none, .mv (.t 2)⟩,
  ⟨some 18, none, .call (.k (.fn f_caps_Of [])) [(.t 17)]⟩,
  ⟨some 16, none, .mv (.t 18)⟩,
  ⟨some 19, none, .ext (.t 16) 0⟩,
  ⟨some 20, none, .ext (.t 16) 1⟩,
  ⟨some 9, none, .alloc false (.agg 40 [(.int .i64 0), (.int .i64 0), (.int .i64 0), (.int .i64 0), (.int .i64 0)])⟩,
  ⟨none, none, .st 40 (.t 9) (.t 19)⟩,
  ⟨some 10, none, .mv (.t 20)⟩]
def o_bank_End_5 : List Ab.Op := [
  ⟨some 22, none, .mv (.t 10)⟩,
  ⟨some 23, none, .un .not (.t 22)⟩,
  ⟨some 21, none, .mv (.t 23)⟩]
def o_bank_End_6 : List Ab.Op := [
  ⟨some 24, none, .fad 40 0 10 (.t 9)⟩,
  ⟨some 25, none, .ld 10 (.t 24)⟩,
  ⟨some 26, none, .bin .neq (.t 25) (.k (.int .i64 1))⟩,
  ⟨some 27, none, .mv (.t 26)⟩,
  ⟨some 28, some (27, true), .fad 40 0 10 (.t 9)⟩,
  ⟨some 29, some (27, true), .ld 10 (.t 28)⟩,
  ⟨some 30, some (27, true), .bin .neq (.t 29) (.k (.int .i64 2))⟩,
  ⟨some 31, none, .pick (.t 27) (.t 30) (.k (.bool false))⟩,
  ⟨some 21, none, .mv (.t 31)⟩]
def o_bank_End_7 : List Ab.Op := [
  ⟨some 6, none, .mv (.k (.int .i64 0))⟩,
  ⟨some 7, none, .mv (.k (.int .i64 31))⟩]
def o_bank_End_8 : List Ab.Op := [
  ⟨some 33, none, .fad 40 1 10 (.t 9)⟩,
  ⟨some 34, none, .ld 10 (.t 33)⟩,
  ⟨some 35, none, .bin .and (.t 34) (.k (.int .i64 2))⟩,
  ⟨some 36, none, .bin .eql (.t 35) (.k (.int .i64 0))⟩,
  ⟨some 32, none, .mv (.t 36)⟩]
def o_bank_End_9 : List Ab.Op := [
  ⟨some 6, none, .mv (.k (.int .i64 0))⟩,
  ⟨some 7, none, .mv (.k (.int .i64 32))⟩]
def o_bank_End_10 : List Ab.Op := [
  ⟨some 37, none, .mv (.t 0)⟩,
  ⟨some 38, none, .mv (.t 2)⟩,
  ⟨some 39, none, .call (.k (.fn f_objects_Store_Names [])) [(.t 37), (.t 38)]⟩,
  ⟨some 40, none, .ext (.t 39) 0⟩,
  ⟨some 41, none, .ext (.t 39) 1⟩,
  ⟨some 6, none, .mv (.t 40)⟩,
  ⟨some 7, none, .mv (.t 41)⟩]
/-- steadfast/bank.End -/
@[go_sem] def fc_bank_End : Fc := ⟨3,
  .seq ((.reg (some [0, 1, 2]) o_bank_End_0)) (
  .seq (.seq ((.reg (some [0, 2, 8]) o_bank_End_1)) (
  .seq ((.reg (some [0, 2, 8, 14]) o_bank_End_2)) (
  .cond (.t 14) (
    .seq ((.reg (some [6, 7]) o_bank_End_3)) (
    .ret)) (
    .skip)))) (
  .seq ((.reg (some [0, 2, 9, 10]) o_bank_End_4)) (
  .seq (.block 0 (
    .seq (.seq ((.reg (some [0, 2, 9, 21]) o_bank_End_5)) (
    .cond (.t 21) (
      .skip) (
      (.reg (some [0, 2, 9, 21]) o_bank_End_6)))) (
    .cond (.t 21) (
      .seq ((.reg (some [6, 7]) o_bank_End_7)) (
      .ret)) (
      .seq ((.reg (some [0, 2, 32]) o_bank_End_8)) (
      .cond (.t 32) (
        .seq ((.reg (some [6, 7]) o_bank_End_9)) (
        .ret)) (
        .skip)))))) (
  .seq ((.reg (some [6, 7]) o_bank_End_10)) (
  .ret))))),
  [.t 6, .t 7]⟩
def o_steadfastref18_End_0 : List Ab.Op := [
  ⟨some 6, none, .mv (.k (.int .i64 0))⟩,
  ⟨some 7, none, .mv (.k (.int .i64 0))⟩]
def o_steadfastref18_End_1 : List Ab.Op := [
  ⟨some 11, none, .mv (.t 1)⟩,
  ⟨some 12, none, .call (.k (.fn f_steadfastref07_May [])) [(.t 11), (.k (.int .i64 5)), (.k (.int .i64 2))]⟩,
  ⟨some 8, none, .mv (.t 12)⟩]
def o_steadfastref18_End_2 : List Ab.Op := [
  ⟨some 13, none, .mv (.t 8)⟩,
  ⟨some 14, none, .bin .neq (.t 13) (.k (.int .i64 0))⟩]
def o_steadfastref18_End_3 : List Ab.Op := [
  ⟨some 15, none, .mv (.t 8)⟩,
  ⟨some 6, none, .mv (.k (.int .i64 0))⟩,
  ⟨some 7, none, .mv (.t 15)⟩]
def o_steadfastref18_End_4 : List Ab.Op := [
  ⟨some 17, none, .mv (.t 2)⟩,
  ⟨some 18, none, .call (.k (.fn f_steadfastref07_Of [])) [(.t 17)]⟩,
  ⟨some 16, none, .mv (.t 18)⟩,
  ⟨some 19, none, .ext (.t 16) 0⟩,
  ⟨some 20, none, .ext (.t 16) 1⟩,
  ⟨some 9, none, .alloc false (.agg 40 [(.int .i64 0), (.int .i64 0), (.int .i64 0), (.int .i64 0), (.int .i64 0)])⟩,
  ⟨none, none, .st 40 (.t 9) (.t 19)⟩,
  ⟨some 10, none, .mv (.t 20)⟩]
def o_steadfastref18_End_5 : List Ab.Op := [
  ⟨some 21, none, .mv (.t 10)⟩,
  ⟨some 22, none, .un .not (.t 21)⟩,
  ⟨some 23, none, .mv (.t 22)⟩,
  ⟨some 24, some (23, false), .fad 40 0 10 (.t 9)⟩,
  ⟨some 25, some (23, false), .ld 10 (.t 24)⟩,
  ⟨some 26, some (23, false), .bin .neq (.t 25) (.k (.int .i64 1))⟩,
  ⟨some 27, some (23, false), .mv (.t 26)⟩,
  ⟨some 28, some (27, true), .fad 40 0 10 (.t 9)⟩,
  ⟨some 29, some (27, true), .ld 10 (.t 28)⟩,
  ⟨some 30, some (27, true), .bin .neq (.t 29) (.k (.int .i64 2))⟩,
  ⟨some 31, some (23, false), .pick (.t 27) (.t 30) (.k (.bool false))⟩,
  ⟨some 32, none, .pick (.t 23) (.k (.bool true)) (.t 31)⟩]
def o_steadfastref18_End_6 : List Ab.Op := [
  ⟨some 6, none, .mv (.k (.int .i64 0))⟩,
  ⟨some 7, none, .mv (.k (.int .i64 31))⟩]
def o_steadfastref18_End_7 : List Ab.Op := [
  ⟨some 33, none, .fad 40 1 10 (.t 9)⟩,
  ⟨some 34, none, .ld 10 (.t 33)⟩,
  ⟨some 35, none, .bin .and (.t 34) (.k (.int .i64 2))⟩,
  ⟨some 36, none, .bin .eql (.t 35) (.k (.int .i64 0))⟩]
def o_steadfastref18_End_8 : List Ab.Op := [
  ⟨some 6, none, .mv (.k (.int .i64 0))⟩,
  ⟨some 7, none, .mv (.k (.int .i64 32))⟩]
def o_steadfastref18_End_9 : List Ab.Op := [
  ⟨some 37, none, .mv (.t 0)⟩,
  ⟨some 38, none, .mv (.t 2)⟩,
  ⟨some 39, none, .call (.k (.fn f_steadfastref10_Store_Names [])) [(.t 37), (.t 38)]⟩,
  ⟨some 40, none, .ext (.t 39) 0⟩,
  ⟨some 41, none, .ext (.t 39) 1⟩,
  ⟨some 6, none, .mv (.t 40)⟩,
  ⟨some 7, none, .mv (.t 41)⟩]
/-- steadfast/steadfastref18.End -/
@[go_sem] def fc_steadfastref18_End : Fc := ⟨3,
  .seq ((.reg (some [0, 1, 2]) o_steadfastref18_End_0)) (
  .seq ((.reg (some [0, 2, 8]) o_steadfastref18_End_1)) (
  .seq (.seq ((.reg (some [0, 2, 8, 14]) o_steadfastref18_End_2)) (
  .cond (.t 14) (
    .seq ((.reg (some [6, 7]) o_steadfastref18_End_3)) (
    .ret)) (
    .skip))) (
  .seq ((.reg (some [0, 2, 9, 10]) o_steadfastref18_End_4)) (
  .seq (.seq ((.reg (some [0, 2, 9, 32]) o_steadfastref18_End_5)) (
  .cond (.t 32) (
    .seq ((.reg (some [6, 7]) o_steadfastref18_End_6)) (
    .ret)) (
    .skip))) (
  .seq (.seq ((.reg (some [0, 2, 36]) o_steadfastref18_End_7)) (
  .cond (.t 36) (
    .seq ((.reg (some [6, 7]) o_steadfastref18_End_8)) (
    .ret)) (
    .skip))) (
  .seq ((.reg (some [6, 7]) o_steadfastref18_End_9)) (
  .ret))))))),
  [.t 6, .t 7]⟩
def o_objects_Store_End_0 : List Ab.Op := [
  ⟨some 4, none, .mv (.k (.int .i64 0))⟩]
def o_objects_Store_End_1 : List Ab.Op := [
  ⟨some 6, none, .mv (.t 0)⟩,
  ⟨some 7, none, .mv (.t 1)⟩,
  ⟨some 8, none, .call (.k (.fn f_objects_Store_is [])) [(.t 6), (.t 7)]⟩,
  ⟨some 5, none, .mv (.t 8)⟩]
def o_objects_Store_End_2 : List Ab.Op := [
  ⟨some 9, none, .mv (.t 5)⟩,
  ⟨some 10, none, .bin .neq (.t 9) (.k (.int .i64 0))⟩]
def o_objects_Store_End_3 : List Ab.Op := [
  ⟨some 11, none, .mv (.t 5)⟩,
  ⟨some 4, none, .mv (.t 11)⟩]
def o_objects_Store_End_4 : List Ab.Op := [
  ⟨some 12, none, .mv (.t 0)⟩,
  ⟨some 13, none, .mv (.t 1)⟩,
  ⟨some 14, none, .call (.k (.fn f_objects_Store_own [])) [(.t 12), (.t 13)]⟩]
def o_objects_Store_End_5 : List Ab.Op := [
  ⟨some 15, none, .mv (.t 0)⟩,
  ⟨some 16, none, .nilc (.t 15)⟩,
  ⟨some 17, none, .fad 43 1 1 (.t 16)⟩,
  ⟨some 18, none, .ld 1 (.t 17)⟩,
  ⟨some 19, none, .mv (.t 0)⟩,
  ⟨some 20, none, .mv (.t 1)⟩,
  ⟨some 21, none, .nilc (.t 19)⟩,
  ⟨some 22, none, .fad 43 2 48 (.t 21)⟩,
  ⟨some 23, none, .iad 48 49 42 (.t 22) (.t 20)⟩,
  ⟨some 24, none, .fad 42 2 10 (.t 23)⟩,
  ⟨some 25, none, .ld 10 (.t 24)⟩,
  ⟨some 26, none, .call (.k (.fn f_frames_Frames_Free [])) [(.t 18), (.t 25)]⟩]
def o_objects_Store_End_6 : List Ab.Op := [
  ⟨some 28, none, .mv (.t 0)⟩,
  ⟨some 29, none, .mv (.t 1)⟩,
  ⟨some 30, none, .mv (.t 0)⟩,
  ⟨some 31, none, .mv (.t 1)⟩,
  ⟨some 32, none, .nilc (.t 30)⟩,
  ⟨some 33, none, .fad 43 2 48 (.t 32)⟩,
  ⟨some 34, none, .iad 48 49 42 (.t 33) (.t 31)⟩,
  ⟨some 35, none, .ld 42 (.t 34)⟩,
  ⟨some 36, none, .pcall (.k (.fn f_entry_End [])) [(.t 35)]⟩,
  ⟨some 27, none, .mv (.t 36)⟩,
  ⟨some 37, none, .ext (.t 27) 0⟩,
  ⟨some 38, none, .ext (.t 27) 1⟩,
  ⟨some 39, none, .nilc (.t 28)⟩,
  ⟨some 40, none, .fad 43 2 48 (.t 39)⟩,
  ⟨some 41, none, .iad 48 49 42 (.t 40) (.t 29)⟩,
  ⟨none, none, .st 42 (.t 41) (.t 37)⟩]
def o_objects_Store_End_7 : List Ab.Op := [
  ⟨some 4, none, .mv (.k (.int .i64 0))⟩]
/-- (*steadfast/objects.Store).End -/
@[go_sem] def fc_objects_Store_End : Fc := ⟨2,
  .seq ((.reg (some [0, 1]) o_objects_Store_End_0)) (
  .seq (.seq ((.reg (some [0, 1, 5]) o_objects_Store_End_1)) (
  .seq ((.reg (some [0, 1, 5, 10]) o_objects_Store_End_2)) (
  .cond (.t 10) (
    .seq ((.reg (some [4]) o_objects_Store_End_3)) (
    .ret)) (
    .skip)))) (
  .seq (.seq ((.reg (some [0, 1, 14]) o_objects_Store_End_4)) (
  .cond (.t 14) (
    (.regd (some [0, 1]) o_objects_Store_End_5)) (
    .skip))) (
  .seq ((.regd (some []) o_objects_Store_End_6)) (
  .seq ((.reg (some [4]) o_objects_Store_End_7)) (
  .ret))))),
  [.t 4]⟩
def o_caps_Diminish_0 : List Ab.Op := [
  ⟨some 6, none, .mv (.k (.int .u64 0))⟩,
  ⟨some 7, none, .mv (.k (.int .i64 0))⟩]
def o_caps_Diminish_1 : List Ab.Op := [
  ⟨some 11, none, .mv (.t 0)⟩,
  ⟨some 12, none, .call (.k (.fn f_caps_Of [])) [(.t 11)]⟩,
  ⟨some 10, none, .mv (.t 12)⟩,
  ⟨some 13, none, .ext (.t 10) 0⟩,
  ⟨some 14, none, .ext (.t 10) 1⟩,
  ⟨some 8, none, .alloc false (.agg 40 [(.int .i64 0), (.int .i64 0), (.int .i64 0), (.int .i64 0), (.int .i64 0)])⟩,
  ⟨none, none, .st 40 (.t 8) (.t 13)⟩,
  ⟨some 9, none, .mv (.t 14)⟩]
def o_caps_Diminish_2 : List Ab.Op := [
  ⟨some 16, none, .mv (.t 9)⟩,
  ⟨some 17, none, .un .not (.t 16)⟩,
  ⟨some 15, none, .mv (.t 17)⟩]
def o_caps_Diminish_3 : List Ab.Op := [
  ⟨some 6, none, .mv (.k (.int .u64 0))⟩,
  ⟨some 7, none, .mv (.k (.int .i64 31))⟩]
def o_caps_Diminish_4 : List Ab.Op := [
  ⟨some 19, none, .mv (.t 1)⟩,
  ⟨some 20, none, .call (.k (.fn f_caps_within [])) [(.t 19), (.k (.int .i64 0)), (.k (.int .i64 15))]⟩,
  ⟨some 21, none, .un .not (.t 20)⟩,
  ⟨some 18, none, .mv (.t 21)⟩]
def o_caps_Diminish_5 : List Ab.Op := [
  ⟨some 22, none, .mv (.t 2)⟩,
  ⟨some 23, none, .call (.k (.fn f_caps_within [])) [(.t 22), (.k (.int .i64 0)), (.k (.int .i64 65535))]⟩,
  ⟨some 24, none, .un .not (.t 23)⟩,
  ⟨some 18, none, .mv (.t 24)⟩]
def o_caps_Diminish_6 : List Ab.Op := [
  ⟨some 6, none, .mv (.k (.int .u64 0))⟩,
  ⟨some 7, none, .mv (.k (.int .i64 1))⟩]
def o_caps_Diminish_7 : List Ab.Op := [
  ⟨some 25, none, .fad 40 1 10 (.t 8)⟩,
  ⟨some 26, none, .ld 10 (.t 25)⟩,
  ⟨some 27, none, .mv (.t 1)⟩,
  ⟨some 28, none, .bin .and (.t 26) (.t 27)⟩,
  ⟨some 29, none, .fad 40 1 10 (.t 8)⟩,
  ⟨none, none, .st 10 (.t 29) (.t 28)⟩]
def o_caps_Diminish_8 : List Ab.Op := [
  ⟨some 30, none, .fad 40 4 10 (.t 8)⟩,
  ⟨some 31, none, .ld 10 (.t 30)⟩,
  ⟨some 32, none, .bin .eql (.t 31) (.k (.int .i64 0))⟩]
def o_caps_Diminish_9 : List Ab.Op := [
  ⟨some 33, none, .mv (.t 2)⟩,
  ⟨some 34, none, .fad 40 4 10 (.t 8)⟩,
  ⟨none, none, .st 10 (.t 34) (.t 33)⟩]
def o_caps_Diminish_10 : List Ab.Op := [
  ⟨some 35, none, .ld 40 (.t 8)⟩,
  ⟨some 36, none, .call (.k (.fn f_caps_Word [])) [(.t 35)]⟩,
  ⟨some 37, none, .ext (.t 36) 0⟩,
  ⟨some 38, none, .ext (.t 36) 1⟩,
  ⟨some 6, none, .mv (.t 37)⟩,
  ⟨some 7, none, .mv (.t 38)⟩]
/-- steadfast/caps.Diminish -/
@[go_sem] def fc_caps_Diminish : Fc := ⟨3,
  .seq ((.reg (some [0, 1, 2]) o_caps_Diminish_0)) (
  .seq ((.reg (some [1, 2, 8, 9]) o_caps_Diminish_1)) (
  .seq (.block 0 (
    .seq ((.reg (some [1, 2, 8, 15]) o_caps_Diminish_2)) (
    .cond (.t 15) (
      .seq ((.reg (some [6, 7]) o_caps_Diminish_3)) (
      .ret)) (
      .seq (.seq ((.reg (some [1, 2, 8, 18]) o_caps_Diminish_4)) (
      .cond (.t 18) (
        .skip) (
        (.reg (some [1, 2, 8, 18]) o_caps_Diminish_5)))) (
      .cond (.t 18) (
        .seq ((.reg (some [6, 7]) o_caps_Diminish_6)) (
        .ret)) (
        .skip)))))) (
  .seq ((.reg (some [2, 8]) o_caps_Diminish_7)) (
  .seq (.seq ((.reg (some [2, 8, 32]) o_caps_Diminish_8)) (
  .cond (.t 32) (
    (.reg (some [8]) o_caps_Diminish_9)) (
    .skip))) (
  .seq ((.reg (some [6, 7]) o_caps_Diminish_10)) (
  .ret)))))),
  [.t 6, .t 7]⟩
def o_steadfastref07_Word_0 : List Ab.Op := [
  ⟨some 1, none, .box false (.t 0)⟩,
  ⟨some 2, none, .mv (.k (.int .u64 0))⟩,
  ⟨some 3, none, .mv (.k (.int .i64 0))⟩]
def o_steadfastref07_Word_1 : List Ab.Op := [
  ⟨some 6, none, .fad 40 0 10 (.t 1)⟩,
  ⟨some 7, none, .ld 10 (.t 6)⟩,
  ⟨some 8, none, .bin .lss (.t 7) (.k (.int .i64 1))⟩,
  ⟨some 9, none, .mv (.t 8)⟩,
  ⟨some 10, some (9, false), .fad 40 0 10 (.t 1)⟩,
  ⟨some 11, some (9, false), .ld 10 (.t 10)⟩,
  ⟨some 12, some (9, false), .bin .gtr (.t 11) (.k (.int .i64 6))⟩,
  ⟨some 13, none, .pick (.t 9) (.k (.bool true)) (.t 12)⟩,
  ⟨some 14, none, .mv (.t 13)⟩,
  ⟨some 15, some (14, false), .fad 40 1 10 (.t 1)⟩,
  ⟨some 16, some (14, false), .ld 10 (.t 15)⟩,
  ⟨some 17, some (14, false), .bin .lss (.t 16) (.k (.int .i64 0))⟩,
  ⟨some 18, none, .pick (.t 14) (.k (.bool true)) (.t 17)⟩,
  ⟨some 19, none, .mv (.t 18)⟩,
  ⟨some 20, some (19, false), .fad 40 1 10 (.t 1)⟩,
  ⟨some 21, some (19, false), .ld 10 (.t 20)⟩,
  ⟨some 22, some (19, false), .bin .gtr (.t 21) (.k (.int .i64 15))⟩,
  ⟨some 23, none, .pick (.t 19) (.k (.bool true)) (.t 22)⟩,
  ⟨some 24, none, .mv (.t 23)⟩,
  ⟨some 25, some (24, false), .fad 40 2 10 (.t 1)⟩,
  ⟨some 26, some (24, false), .ld 10 (.t 25)⟩,
  ⟨some 27, some (24, false), .bin .lss (.t 26) (.k (.int .i64 0))⟩,
  ⟨some 28, none, .pick (.t 24) (.k (.bool true)) (.t 27)⟩,
  ⟨some 29, none, .mv (.t 28)⟩,
  ⟨some 30, some (29, false), .fad 40 2 10 (.t 1)⟩,
  ⟨some 31, some (29, false), .ld 10 (.t 30)⟩,
  ⟨some 32, some (29, false), .bin .geq (.t 31) (.k (.int .i64 49))⟩,
  ⟨some 33, none, .pick (.t 29) (.k (.bool true)) (.t 32)⟩,
  ⟨some 34, none, .mv (.t 33)⟩,
  ⟨some 35, some (34, false), .fad 40 3 10 (.t 1)⟩,
  ⟨some 36, some (34, false), .ld 10 (.t 35)⟩,
  ⟨some 37, some (34, false), .bin .lss (.t 36) (.k (.int .i64 0))⟩,
  ⟨some 38, none, .pick (.t 34) (.k (.bool true)) (.t 37)⟩,
  ⟨some 39, none, .mv (.t 38)⟩,
  ⟨some 40, some (39, false), .fad 40 3 10 (.t 1)⟩,
  ⟨some 41, some (39, false), .ld 10 (.t 40)⟩,
  ⟨some 42, some (39, false), .bin .gtr (.t 41) (.k (.int .i64 16777215))⟩,
  ⟨some 43, none, .pick (.t 39) (.k (.bool true)) (.t 42)⟩,
  ⟨some 44, none, .mv (.t 43)⟩,
  ⟨some 45, some (44, false), .fad 40 4 10 (.t 1)⟩,
  ⟨some 46, some (44, false), .ld 10 (.t 45)⟩,
  ⟨some 47, some (44, false), .bin .lss (.t 46) (.k (.int .i64 0))⟩,
  ⟨some 48, none, .pick (.t 44) (.k (.bool true)) (.t 47)⟩,
  ⟨some 49, none, .mv (.t 48)⟩,
  ⟨some 50, some (49, false), .fad 40 4 10 (.t 1)⟩,
  ⟨some 51, some (49, false), .ld 10 (.t 50)⟩,
  ⟨some 52, some (49, false), .bin .gtr (.t 51) (.k (.int .i64 65535))⟩,
  ⟨some 53, none, .pick (.t 49) (.k (.bool true)) (.t 52)⟩]
def o_steadfastref07_Word_2 : List Ab.Op := [
  ⟨some 2, none, .mv (.k (.int .u64 0))⟩,
  ⟨some 3, none, .mv (.k (.int .i64 1))⟩]
def o_steadfastref07_Word_3 : List Ab.Op := [
  ⟨some 54, none, .fad 40 0 10 (.t 1)⟩,
  ⟨some 55, none, .ld 10 (.t 54)⟩,
  ⟨some 56, none, .bin .eql (.t 55) (.k (.int .i64 5))⟩,
  ⟨some 57, none, .mv (.t 56)⟩,
  ⟨some 58, some (57, false), .fad 40 0 10 (.t 1)⟩,
  ⟨some 59, some (57, false), .ld 10 (.t 58)⟩,
  ⟨some 60, some (57, false), .bin .eql (.t 59) (.k (.int .i64 6))⟩,
  ⟨some 61, none, .pick (.t 57) (.k (.bool true)) (.t 60)⟩,
  ⟨some 62, none, .mv (.t 61)⟩,
  ⟨some 63, some (62, true), .fad 40 2 10 (.t 1)⟩,
  ⟨some 64, some (62, true), .ld 10 (.t 63)⟩,
  ⟨some 65, some (62, true), .bin .neq (.t 64) (.k (.int .i64 0))⟩,
  ⟨some 66, some (62, true), .mv (.t 65)⟩,
  ⟨some 67, some (66, false), .fad 40 3 10 (.t 1)⟩,
  ⟨some 68, some (66, false), .ld 10 (.t 67)⟩,
  ⟨some 69, some (66, false), .bin .neq (.t 68) (.k (.int .i64 0))⟩,
  ⟨some 70, some (62, true), .pick (.t 66) (.k (.bool true)) (.t 69)⟩,
  ⟨some 71, none, .pick (.t 62) (.t 70) (.k (.bool false))⟩]
def o_steadfastref07_Word_4 : List Ab.Op := [
  ⟨some 2, none, .mv (.k (.int .u64 0))⟩,
  ⟨some 3, none, .mv (.k (.int .i64 1))⟩]
def o_steadfastref07_Word_5 : List Ab.Op := [
  ⟨some 73, none, .fad 40 0 10 (.t 1)⟩,
  ⟨some 74, none, .ld 10 (.t 73)⟩,
  ⟨some 75, none, .conv .u64 (.t 74)⟩,
  ⟨some 76, none, .call (.k (.fn f_steadfastref01_With [])) [(.k (.int .u64 0)), (.k (.int .i64 0)), (.k (.int .i64 4)), (.t 75)]⟩,
  ⟨some 72, none, .mv (.t 76)⟩,
  ⟨some 77, none, .ext (.t 72) 0⟩,
  ⟨some 78, none, .ext (.t 72) 1⟩,
  ⟨some 4, none, .mv (.t 77)⟩,
  ⟨some 5, none, .mv (.t 78)⟩]
def o_steadfastref07_Word_6 : List Ab.Op := [
  ⟨some 80, none, .mv (.t 4)⟩,
  ⟨some 81, none, .fad 40 1 10 (.t 1)⟩,
  ⟨some 82, none, .ld 10 (.t 81)⟩,
  ⟨some 83, none, .conv .u64 (.t 82)⟩,
  ⟨some 84, none, .call (.k (.fn f_steadfastref01_With [])) [(.t 80), (.k (.int .i64 4)), (.k (.int .i64 4)), (.t 83)]⟩,
  ⟨some 79, none, .mv (.t 84)⟩,
  ⟨some 85, none, .ext (.t 79) 0⟩,
  ⟨some 86, none, .ext (.t 79) 1⟩,
  ⟨some 4, none, .mv (.t 85)⟩]
def o_steadfastref07_Word_7 : List Ab.Op := [
  ⟨some 88, none, .mv (.t 4)⟩,
  ⟨some 89, none, .fad 40 2 10 (.t 1)⟩,
  ⟨some 90, none, .ld 10 (.t 89)⟩,
  ⟨some 91, none, .conv .u64 (.t 90)⟩,
  ⟨some 92, none, .call (.k (.fn f_steadfastref01_With [])) [(.t 88), (.k (.int .i64 8)), (.k (.int .i64 16)), (.t 91)]⟩,
  ⟨some 87, none, .mv (.t 92)⟩,
  ⟨some 93, none, .ext (.t 87) 0⟩,
  ⟨some 94, none, .ext (.t 87) 1⟩,
  ⟨some 4, none, .mv (.t 93)⟩]
def o_steadfastref07_Word_8 : List Ab.Op := [
  ⟨some 96, none, .mv (.t 4)⟩,
  ⟨some 97, none, .fad 40 3 10 (.t 1)⟩,
  ⟨some 98, none, .ld 10 (.t 97)⟩,
  ⟨some 99, none, .conv .u64 (.t 98)⟩,
  ⟨some 100, none, .call (.k (.fn f_steadfastref01_With [])) [(.t 96), (.k (.int .i64 24)), (.k (.int .i64 24)), (.t 99)]⟩,
  ⟨some 95, none, .mv (.t 100)⟩,
  ⟨some 101, none, .ext (.t 95) 0⟩,
  ⟨some 102, none, .ext (.t 95) 1⟩,
  ⟨some 4, none, .mv (.t 101)⟩]
def o_steadfastref07_Word_9 : List Ab.Op := [
  ⟨some 104, none, .mv (.t 4)⟩,
  ⟨some 105, none, .fad 40 4 10 (.t 1)⟩,
  ⟨some 106, none, .ld 10 (.t 105)⟩,
  ⟨some 107, none, .conv .u64 (.t 106)⟩,
  ⟨some 108, none, .call (.k (.fn f_steadfastref01_With [])) [(.t 104), (.k (.int .i64 48)), (.k (.int .i64 16)), (.t 107)]⟩,
  ⟨some 103, none, .mv (.t 108)⟩,
  ⟨some 109, none, .ext (.t 103) 0⟩,
  ⟨some 110, none, .ext (.t 103) 1⟩,
  ⟨some 4, none, .mv (.t 109)⟩]
def o_steadfastref07_Word_10 : List Ab.Op := [
  ⟨some 111, none, .mv (.t 4)⟩,
  ⟨some 2, none, .mv (.t 111)⟩,
  ⟨some 3, none, .mv (.k (.int .i64 0))⟩]
/-- steadfast/steadfastref07.Word -/
@[go_sem] def fc_steadfastref07_Word : Fc := ⟨1,
  .seq ((.reg (some [1]) o_steadfastref07_Word_0)) (
  .seq (.seq ((.reg (some [1, 53]) o_steadfastref07_Word_1)) (
  .cond (.t 53) (
    .seq ((.reg (some [2, 3]) o_steadfastref07_Word_2)) (
    .ret)) (
    .skip))) (
  .seq (.seq ((.reg (some [1, 71]) o_steadfastref07_Word_3)) (
  .cond (.t 71) (
    .seq ((.reg (some [2, 3]) o_steadfastref07_Word_4)) (
    .ret)) (
    .skip))) (
  .seq ((.reg (some [1, 4]) o_steadfastref07_Word_5)) (
  .seq ((.reg (some [1, 4]) o_steadfastref07_Word_6)) (
  .seq ((.reg (some [1, 4]) o_steadfastref07_Word_7)) (
  .seq ((.reg (some [1, 4]) o_steadfastref07_Word_8)) (
  .seq ((.reg (some [4]) o_steadfastref07_Word_9)) (
  .seq ((.reg (some [2, 3]) o_steadfastref07_Word_10)) (
  .ret))))))))),
  [.t 2, .t 3]⟩
def o_entry_Names_0 : List Ab.Op := [
  ⟨some 3, none, .box false (.t 0)⟩,
  ⟨some 6, none, .mv (.k (.int .i64 0))⟩]
def o_entry_Names_1 : List Ab.Op := [
  ⟨some 10, none, .mv (.t 2)⟩,
  ⟨some 11, none, .call (.k (.fn f_caps_Of [])) [(.t 10)]⟩,
  ⟨some 9, none, .mv (.t 11)⟩,
  ⟨some 12, none, .ext (.t 9) 0⟩,
  ⟨some 13, none, .ext (.t 9) 1⟩,
  ⟨some 7, none, .alloc false (.agg 40 [(.int .i64 0), (.int .i64 0), (.int .i64 0), (.int .i64 0), (.int .i64 0)])⟩,
  ⟨none, none, .st 40 (.t 7) (.t 12)⟩,
  ⟨some 8, none, .mv (.t 13)⟩]
def o_entry_Names_2 : List Ab.Op := [
  ⟨some 15, none, .mv (.t 8)⟩,
  ⟨some 16, none, .un .not (.t 15)⟩,
  ⟨some 14, none, .mv (.t 16)⟩]
def o_entry_Names_3 : List Ab.Op := [
  ⟨some 17, none, .fad 40 0 10 (.t 7)⟩,
  ⟨some 18, none, .ld 10 (.t 17)⟩,
  ⟨some 19, none, .bin .gtr (.t 18) (.k (.int .i64 4))⟩,
  ⟨some 14, none, .mv (.t 19)⟩]
def o_entry_Names_4 : List Ab.Op := [
  ⟨some 6, none, .mv (.k (.int .i64 31))⟩]
def o_entry_Names_5 : List Ab.Op := [
  ⟨some 21, none, .fad 40 2 10 (.t 7)⟩,
  ⟨some 22, none, .ld 10 (.t 21)⟩,
  ⟨some 23, none, .mv (.t 1)⟩,
  ⟨some 24, none, .bin .neq (.t 22) (.t 23)⟩,
  ⟨some 20, none, .mv (.t 24)⟩]
def o_entry_Names_6 : List Ab.Op := [
  ⟨some 6, none, .mv (.k (.int .i64 30))⟩]
def o_entry_Names_7 : List Ab.Op := [
  ⟨some 26, none, .fad 40 3 10 (.t 7)⟩,
  ⟨some 27, none, .ld 10 (.t 26)⟩,
  ⟨some 28, none, .fad 42 1 10 (.t 3)⟩,
  ⟨some 29, none, .ld 10 (.t 28)⟩,
  ⟨some 30, none, .bin .neq (.t 27) (.t 29)⟩,
  ⟨some 25, none, .mv (.t 30)⟩]
def o_entry_Names_8 : List Ab.Op := [
  ⟨some 6, none, .mv (.k (.int .i64 33))⟩]
def o_entry_Names_9 : List Ab.Op := [
  ⟨some 32, none, .fad 42 0 10 (.t 3)⟩,
  ⟨some 33, none, .ld 10 (.t 32)⟩,
  ⟨some 34, none, .bin .eql (.t 33) (.k (.int .i64 0))⟩,
  ⟨some 31, none, .mv (.t 34)⟩]
def o_entry_Names_10 : List Ab.Op := [
  ⟨some 6, none, .mv (.k (.int .i64 30))⟩]
def o_entry_Names_11 : List Ab.Op := [
  ⟨some 36, none, .fad 40 0 10 (.t 7)⟩,
  ⟨some 37, none, .ld 10 (.t 36)⟩,
  ⟨some 38, none, .fad 42 0 10 (.t 3)⟩,
  ⟨some 39, none, .ld 10 (.t 38)⟩,
  ⟨some 40, none, .bin .neq (.t 37) (.t 39)⟩,
  ⟨some 35, none, .mv (.t 40)⟩]
def o_entry_Names_12 : List Ab.Op := [
  ⟨some 6, none, .mv (.k (.int .i64 31))⟩]
def o_entry_Names_13 : List Ab.Op := [
  ⟨some 6, none, .mv (.k (.int .i64 0))⟩]
/-- steadfast/entry.Names -/
@[go_sem] def fc_entry_Names : Fc := ⟨3,
  .seq ((.reg (some [1, 2, 3]) o_entry_Names_0)) (
  .seq ((.reg (some [1, 3, 7, 8]) o_entry_Names_1)) (
  .seq (.block 0 (
    .seq (.seq ((.reg (some [1, 3, 7, 14]) o_entry_Names_2)) (
    .cond (.t 14) (
      .skip) (
      (.reg (some [1, 3, 7, 14]) o_entry_Names_3)))) (
    .cond (.t 14) (
      .seq ((.reg (some [6]) o_entry_Names_4)) (
      .ret)) (
      .seq ((.reg (some [3, 7, 20]) o_entry_Names_5)) (
      .cond (.t 20) (
        .seq ((.reg (some [6]) o_entry_Names_6)) (
        .ret)) (
        .seq ((.reg (some [3, 7, 25]) o_entry_Names_7)) (
        .cond (.t 25) (
          .seq ((.reg (some [6]) o_entry_Names_8)) (
          .ret)) (
          .seq ((.reg (some [3, 7, 31]) o_entry_Names_9)) (
          .cond (.t 31) (
            .seq ((.reg (some [6]) o_entry_Names_10)) (
            .ret)) (
            .seq ((.reg (some [35]) o_entry_Names_11)) (
            .cond (.t 35) (
              .seq ((.reg (some [6]) o_entry_Names_12)) (
              .ret)) (
              .skip)))))))))))) (
  .seq ((.reg (some [6]) o_entry_Names_13)) (
  .ret)))),
  [.t 6]⟩
def o_steadfastref07_Of_0 : List Ab.Op := [
  ⟨some 2, none, .alloc false (.agg 40 [(.int .i64 0), (.int .i64 0), (.int .i64 0), (.int .i64 0), (.int .i64 0)])⟩,
  ⟨some 3, none, .mv (.k (.bool false))⟩]
def o_steadfastref07_Of_1 : List Ab.Op := [
  ⟨some 7, none, .mv (.t 0)⟩,
  ⟨some 8, none, .call (.k (.fn f_steadfastref01_Field [])) [(.t 7), (.k (.int .i64 0)), (.k (.int .i64 4))]⟩,
  ⟨some 9, none, .conv .i64 (.t 8)⟩,
  ⟨some 10, none, .mv (.t 0)⟩,
  ⟨some 11, none, .call (.k (.fn f_steadfastref01_Field [])) [(.t 10), (.k (.int .i64 4)), (.k (.int .i64 4))]⟩,
  ⟨some 12, none, .conv .i64 (.t 11)⟩,
  ⟨some 13, none, .mv (.t 0)⟩,
  ⟨some 14, none, .call (.k (.fn f_steadfastref01_Field [])) [(.t 13), (.k (.int .i64 8)), (.k (.int .i64 16))]⟩,
  ⟨some 15, none, .conv .i64 (.t 14)⟩,
  ⟨some 16, none, .mv (.t 0)⟩,
  ⟨some 17, none, .call (.k (.fn f_steadfastref01_Field [])) [(.t 16), (.k (.int .i64 24)), (.k (.int .i64 24))]⟩,
  ⟨some 18, none, .conv .i64 (.t 17)⟩,
  ⟨some 19, none, .mv (.t 0)⟩,
  ⟨some 20, none, .call (.k (.fn f_steadfastref01_Field [])) [(.t 19), (.k (.int .i64 48)), (.k (.int .i64 16))]⟩,
  ⟨some 21, none, .conv .i64 (.t 20)⟩,
  ⟨some 22, none, .bld (.agg 40 [(.int .i64 0), (.int .i64 0), (.int .i64 0), (.int .i64 0), (.int .i64 0)]) [(0, (.t 9)), (1, (.t 12)), (2, (.t 15)), (3, (.t 18)), (4, (.t 21))]⟩,
  ⟨some 4, none, .alloc false (.agg 40 [(.int .i64 0), (.int .i64 0), (.int .i64 0), (.int .i64 0), (.int .i64 0)])⟩,
  ⟨none, none, .st 40 (.t 4) (.t 22)⟩]
def o_steadfastref07_Of_2 : List Ab.Op := [
  ⟨some 24, none, .ld 40 (.t 4)⟩,
  ⟨some 25, none, .call (.k (.fn f_steadfastref07_Word [])) [(.t 24)]⟩,
  ⟨some 23, none, .mv (.t 25)⟩,
  ⟨some 26, none, .ext (.t 23) 0⟩,
  ⟨some 27, none, .ext (.t 23) 1⟩,
  ⟨some 5, none, .mv (.t 26)⟩,
  ⟨some 6, none, .mv (.t 27)⟩]
def o_steadfastref07_Of_3 : List Ab.Op := [
  ⟨some 28, none, .mv (.t 6)⟩,
  ⟨some 29, none, .bin .neq (.t 28) (.k (.int .i64 0))⟩,
  ⟨some 30, none, .mv (.t 29)⟩,
  ⟨some 31, some (30, false), .mv (.t 5)⟩,
  ⟨some 32, some (30, false), .mv (.t 0)⟩,
  ⟨some 33, some (30, false), .bin .neq (.t 31) (.t 32)⟩,
  ⟨some 34, none, .pick (.t 30) (.k (.bool true)) (.t 33)⟩]
def o_steadfastref07_Of_4 : List Ab.Op := [
  ⟨some 35, none, .bld (.agg 40 [(.int .i64 0), (.int .i64 0), (.int .i64 0), (.int .i64 0), (.int .i64 0)]) []⟩,
  ⟨none, none, .st 40 (.t 2) (.t 35)⟩,
  ⟨some 3, none, .mv (.k (.bool false))⟩]
def o_steadfastref07_Of_5 : List Ab.Op := [
  ⟨some 36, none, .ld 40 (.t 4)⟩,
  ⟨none, none, .st 40 (.t 2) (.t 36)⟩,
  ⟨some 3, none, .mv (.k (.bool true))⟩]
/-- steadfast/steadfastref07.Of -/
@[go_sem] def fc_steadfastref07_Of : Fc := ⟨1,
  .seq ((.reg (some [0, 2]) o_steadfastref07_Of_0)) (
  .seq ((.reg (some [0, 2, 4]) o_steadfastref07_Of_1)) (
  .seq ((.reg (some [0, 2, 4, 5, 6]) o_steadfastref07_Of_2)) (
  .seq (.seq ((.reg (some [2, 4, 34]) o_steadfastref07_Of_3)) (
  .cond (.t 34) (
    .seq ((.reg (some [2, 3]) o_steadfastref07_Of_4)) (
    .ret)) (
    .skip))) (
  .seq ((.reg (some [2, 3]) o_steadfastref07_Of_5)) (
  .ret))))),
  [.cell 2 40, .t 3]⟩
def o_nvm_Of_0 : List Ab.Op := [
  ⟨some 2, none, .mv (.k .nilp)⟩,
  ⟨some 3, none, .mv (.k (.int .i64 0))⟩]
def o_nvm_Of_1 : List Ab.Op := [
  ⟨some 9, none, .mv (.t 0)⟩,
  ⟨some 10, none, .len false (.t 9)⟩,
  ⟨some 11, none, .call (.k (.fn f_nvm_New [])) [(.t 10)]⟩,
  ⟨some 8, none, .mv (.t 11)⟩,
  ⟨some 12, none, .ext (.t 8) 0⟩,
  ⟨some 13, none, .ext (.t 8) 1⟩,
  ⟨some 4, none, .mv (.t 12)⟩,
  ⟨some 5, none, .mv (.t 13)⟩]
def o_nvm_Of_2 : List Ab.Op := [
  ⟨some 14, none, .mv (.t 5)⟩,
  ⟨some 15, none, .bin .neq (.t 14) (.k (.int .i64 0))⟩]
def o_nvm_Of_3 : List Ab.Op := [
  ⟨some 16, none, .mv (.t 5)⟩,
  ⟨some 2, none, .mv (.k .nilp)⟩,
  ⟨some 3, none, .mv (.t 16)⟩]
def o_nvm_Of_4 : List Ab.Op := [
  ⟨some 17, none, .mv (.t 0)⟩,
  ⟨some 18, none, .len false (.t 17)⟩,
  ⟨some 19, none, .mv (.k (.int .i64 0))⟩]
def o_nvm_Of_5 : List Ab.Op := [
  ⟨some 20, none, .bin .lss (.t 19) (.t 18)⟩]
def o_nvm_Of_6 : List Ab.Op := [
  ⟨some 21, none, .mv (.t 19)⟩,
  ⟨some 22, none, .sad 24 (.t 17) (.t 19)⟩,
  ⟨some 23, none, .ld 24 (.t 22)⟩,
  ⟨some 7, none, .alloc false (.agg 24 (List.replicate 8 (.int .u64 0)))⟩,
  ⟨some 6, none, .mv (.t 21)⟩,
  ⟨none, none, .st 24 (.t 7) (.t 23)⟩]
def o_nvm_Of_7 : List Ab.Op := [
  ⟨some 24, none, .mv (.t 4)⟩,
  ⟨some 25, none, .nilc (.t 24)⟩,
  ⟨some 26, none, .fad 59 0 1 (.t 25)⟩,
  ⟨some 27, none, .ld 1 (.t 26)⟩,
  ⟨some 28, none, .mv (.t 6)⟩,
  ⟨some 29, none, .mv (.t 4)⟩,
  ⟨some 30, none, .nilc (.t 29)⟩,
  ⟨some 31, none, .fad 59 0 1 (.t 30)⟩,
  ⟨some 32, none, .ld 1 (.t 31)⟩,
  ⟨some 33, none, .mv (.t 6)⟩,
  ⟨some 34, none, .ld 24 (.t 7)⟩,
  ⟨some 35, none, .ld 24 (.t 7)⟩,
  ⟨some 36, none, .sad 55 (.t 27) (.t 28)⟩,
  ⟨some 37, none, .fad 55 0 24 (.t 36)⟩,
  ⟨none, none, .sta 24 (.t 37) (.t 34) [(.t 7)]⟩,
  ⟨some 38, none, .sad 55 (.t 32) (.t 33)⟩,
  ⟨some 39, none, .fad 55 1 24 (.t 38)⟩,
  ⟨none, none, .st 24 (.t 39) (.t 35)⟩]
def o_nvm_Of_8 : List Ab.Op := [
  ⟨some 40, none, .bin .add (.t 19) (.k (.int .i64 1))⟩,
  ⟨some 19, none, .mv (.t 40)⟩]
def o_nvm_Of_9 : List Ab.Op := [
  ⟨some 41, none, .mv (.t 4)⟩,
  ⟨some 2, none, .mv (.t 41)⟩,
  ⟨some 3, none, .mv (.k (.int .i64 0))⟩]
def b_nvm_Of_0 : C :=
    .seq ((.reg (some [4, 17, 18, 19, 20]) o_nvm_Of_5)) (
    .seq (.cond (.t 20) (
      .skip) (
      .exit 0)) (
    .seq (.block 1 (
      .seq ((.reg (some [4, 6, 7, 17, 18, 19]) o_nvm_Of_6)) (
      (.regd (some [4, 17, 18, 19]) o_nvm_Of_7)))) (
    (.reg (some [4, 17, 18, 19]) o_nvm_Of_8))))
/-- steadfast/nvm.Of -/
@[go_sem] def fc_nvm_Of : Fc := ⟨1,
  .seq ((.reg (some [0]) o_nvm_Of_0)) (
  .seq ((.reg (some [0, 4, 5]) o_nvm_Of_1)) (
  .seq (.seq ((.reg (some [0, 4, 5, 15]) o_nvm_Of_2)) (
  .cond (.t 15) (
    .seq ((.reg (some [2, 3]) o_nvm_Of_3)) (
    .ret)) (
    .skip))) (
  .seq (.seq ((.reg (some [4, 17, 18, 19]) o_nvm_Of_4)) (
  .block 0 (
    .loop [4, 17, 18, 19] b_nvm_Of_0))) (
  .seq ((.reg (some [2, 3]) o_nvm_Of_9)) (
  .ret))))),
  [.t 2, .t 3]⟩
def o_steadfastref03_Of_0 : List Ab.Op := [
  ⟨some 2, none, .mv (.k .nilp)⟩,
  ⟨some 3, none, .mv (.k (.int .i64 0))⟩]
def o_steadfastref03_Of_1 : List Ab.Op := [
  ⟨some 4, none, .mv (.t 0)⟩,
  ⟨some 5, none, .len false (.t 4)⟩,
  ⟨some 6, none, .bin .lss (.t 5) (.k (.int .i64 64))⟩,
  ⟨some 7, none, .mv (.t 6)⟩,
  ⟨some 8, some (7, false), .mv (.t 0)⟩,
  ⟨some 9, some (7, false), .len false (.t 8)⟩,
  ⟨some 10, some (7, false), .bin .gtr (.t 9) (.k (.int .i64 1024))⟩,
  ⟨some 11, none, .pick (.t 7) (.k (.bool true)) (.t 10)⟩]
def o_steadfastref03_Of_2 : List Ab.Op := [
  ⟨some 2, none, .mv (.k .nilp)⟩,
  ⟨some 3, none, .mv (.k (.int .i64 1))⟩]
def o_steadfastref03_Of_3 : List Ab.Op := [
  ⟨some 12, none, .bsl true 58 24 (.agg 24 (List.replicate 8 (.int .u64 0))) 0 []⟩,
  ⟨some 13, none, .mv (.t 0)⟩,
  ⟨some 14, none, .app true 58 24 (.t 12) (.t 13)⟩,
  ⟨some 15, none, .mv (.t 0)⟩,
  ⟨some 16, none, .len false (.t 15)⟩,
  ⟨some 17, none, .mksl true 53 1 .nils (.t 16) (.t 16)⟩,
  ⟨some 18, none, .bld (.agg 33 [.nils, .nils, (.bool false), (.int .i64 0), (.int .i64 0)]) [(0, (.t 14)), (1, (.t 17)), (3, (.k (.int .i64 (-1))))]⟩,
  ⟨some 19, none, .box true (.t 18)⟩,
  ⟨some 2, none, .mv (.t 19)⟩,
  ⟨some 3, none, .mv (.k (.int .i64 0))⟩]
/-- steadfast/steadfastref03.Of -/
@[go_sem] def fc_steadfastref03_Of : Fc := ⟨1,
  .seq ((.reg (some [0]) o_steadfastref03_Of_0)) (
  .seq (.seq ((.reg (some [0, 11]) o_steadfastref03_Of_1)) (
  .cond (.t 11) (
    .seq ((.reg (some [2, 3]) o_steadfastref03_Of_2)) (
    .ret)) (
    .skip))) (
  .seq ((.regd (some [2, 3]) o_steadfastref03_Of_3)) (
  .ret))),
  [.t 2, .t 3]⟩
def o_objects_Of_0 : List Ab.Op := [
  ⟨some 6, none, .box false (.t 2)⟩,
  ⟨some 7, none, .box false (.t 3)⟩,
  ⟨some 8, none, .mv (.k .nilp)⟩,
  ⟨some 9, none, .mv (.k (.int .i64 0))⟩]
def o_objects_Of_1 : List Ab.Op := [
  ⟨some 18, none, .mv (.t 1)⟩,
  ⟨some 19, none, .mv (.t 0)⟩,
  ⟨some 20, none, .call (.k (.fn f_nvm_Memory_Lines [])) [(.t 19)]⟩,
  ⟨some 21, none, .call (.k (.fn f_frames_New [])) [(.t 18), (.t 20)]⟩,
  ⟨some 17, none, .mv (.t 21)⟩,
  ⟨some 22, none, .ext (.t 17) 0⟩,
  ⟨some 23, none, .ext (.t 17) 1⟩,
  ⟨some 10, none, .mv (.t 22)⟩,
  ⟨some 11, none, .mv (.t 23)⟩]
def o_objects_Of_2 : List Ab.Op := [
  ⟨some 24, none, .mv (.t 11)⟩,
  ⟨some 25, none, .bin .neq (.t 24) (.k (.int .i64 0))⟩]
def o_objects_Of_3 : List Ab.Op := [
  ⟨some 26, none, .mv (.t 11)⟩,
  ⟨some 8, none, .mv (.k .nilp)⟩,
  ⟨some 9, none, .mv (.t 26)⟩]
def o_objects_Of_4 : List Ab.Op := [
  ⟨some 27, none, .mv (.t 0)⟩,
  ⟨some 28, none, .mv (.t 10)⟩,
  ⟨some 29, none, .ld 48 (.t 6)⟩,
  ⟨some 30, none, .ld 48 (.t 6)⟩,
  ⟨some 31, none, .ld 50 (.t 7)⟩,
  ⟨some 32, none, .bld (.agg 43 [.nilp, .nilp, (.agg 48 (List.replicate 49 (.agg 42 [(.int .i64 0), (.int .i64 0), (.int .i64 0)]))), (.agg 48 (List.replicate 49 (.agg 42 [(.int .i64 0), (.int .i64 0), (.int .i64 0)]))), (.agg 50 (List.replicate 8 (.int .i64 0))), (.agg 48 (List.replicate 49 (.agg 42 [(.int .i64 0), (.int .i64 0), (.int .i64 0)]))), (.bool false), (.agg 82 (List.replicate 1024 (.bool false)))]) [(0, (.t 27)), (1, (.t 28)), (2, (.t 29)), (3, (.t 30)), (4, (.t 31))]⟩,
  ⟨some 33, none, .box true (.t 32)⟩,
  ⟨some 12, none, .mv (.t 33)⟩]
def o_objects_Of_5 : List Ab.Op := [
  ⟨some 34, none, .ld 48 (.t 6)⟩,
  ⟨some 35, none, .mv (.k (.int .i64 0))⟩]
def o_objects_Of_6 : List Ab.Op := [
  ⟨some 36, none, .bin .lss (.t 35) (.k (.int .i64 49))⟩]
def o_objects_Of_7 : List Ab.Op := [
  ⟨some 37, none, .idx 48 49 (.t 34) (.t 35)⟩,
  ⟨some 14, none, .alloc false (.agg 42 [(.int .i64 0), (.int .i64 0), (.int .i64 0)])⟩,
  ⟨none, none, .st 42 (.t 14) (.t 37)⟩]
def o_objects_Of_8 : List Ab.Op := [
  ⟨some 38, none, .fad 42 0 10 (.t 14)⟩,
  ⟨some 39, none, .ld 10 (.t 38)⟩,
  ⟨some 40, none, .bin .neq (.t 39) (.k (.int .i64 0))⟩,
  ⟨some 41, none, .mv (.t 40)⟩,
  ⟨some 42, some (41, true), .mv (.t 10)⟩,
  ⟨some 43, some (41, true), .fad 42 2 10 (.t 14)⟩,
  ⟨some 44, some (41, true), .ld 10 (.t 43)⟩,
  ⟨some 45, some (41, true), .call (.k (.fn f_frames_Frames_Take [])) [(.t 42), (.t 44)]⟩,
  ⟨some 46, some (41, true), .bin .neq (.t 45) (.k (.int .i64 0))⟩,
  ⟨some 47, none, .pick (.t 41) (.t 46) (.k (.bool false))⟩]
def o_objects_Of_9 : List Ab.Op := [
  ⟨some 8, none, .mv (.k .nilp)⟩,
  ⟨some 9, none, .mv (.k (.int .i64 21))⟩]
def o_objects_Of_10 : List Ab.Op := [
  ⟨some 48, none, .bin .add (.t 35) (.k (.int .i64 1))⟩,
  ⟨some 35, none, .mv (.t 48)⟩]
def o_objects_Of_11 : List Ab.Op := [
  ⟨some 49, none, .ld 50 (.t 7)⟩,
  ⟨some 50, none, .mv (.k (.int .i64 0))⟩]
def o_objects_Of_12 : List Ab.Op := [
  ⟨some 51, none, .bin .lss (.t 50) (.k (.int .i64 8))⟩]
def o_objects_Of_13 : List Ab.Op := [
  ⟨some 52, none, .idx 50 8 (.t 49) (.t 50)⟩,
  ⟨some 16, none, .mv (.t 52)⟩]
def o_objects_Of_14 : List Ab.Op := [
  ⟨some 53, none, .mv (.t 10)⟩,
  ⟨some 54, none, .mv (.t 16)⟩,
  ⟨some 55, none, .call (.k (.fn f_frames_Frames_Take [])) [(.t 53), (.t 54)]⟩,
  ⟨some 56, none, .bin .neq (.t 55) (.k (.int .i64 0))⟩]
def o_objects_Of_15 : List Ab.Op := [
  ⟨some 8, none, .mv (.k .nilp)⟩,
  ⟨some 9, none, .mv (.k (.int .i64 21))⟩]
def o_objects_Of_16 : List Ab.Op := [
  ⟨some 57, none, .bin .add (.t 50) (.k (.int .i64 1))⟩,
  ⟨some 50, none, .mv (.t 57)⟩]
def o_objects_Of_17 : List Ab.Op := [
  ⟨some 58, none, .mv (.t 12)⟩,
  ⟨some 59, none, .call (.k (.fn f_objects_Store_share [])) [(.t 58)]⟩]
def o_objects_Of_18 : List Ab.Op := [
  ⟨some 60, none, .mv (.t 12)⟩,
  ⟨some 8, none, .mv (.t 60)⟩,
  ⟨some 9, none, .mv (.k (.int .i64 0))⟩]
def b_objects_Of_0 : C :=
    .seq ((.reg (some [7, 10, 12, 34, 35, 36]) o_objects_Of_6)) (
    .seq (.cond (.t 36) (
      .skip) (
      .exit 0)) (
    .seq (.block 1 (
      .seq ((.reg (some [7, 10, 12, 14, 34, 35]) o_objects_Of_7)) (
      .seq ((.reg (some [7, 10, 12, 34, 35, 47]) o_objects_Of_8)) (
      .cond (.t 47) (
        .seq ((.reg (some [8, 9]) o_objects_Of_9)) (
        .ret)) (
        .skip))))) (
    (.reg (some [7, 10, 12, 34, 35]) o_objects_Of_10))))
def b_objects_Of_1 : C :=
    .seq ((.reg (some [10, 12, 49, 50, 51]) o_objects_Of_12)) (
    .seq (.cond (.t 51) (
      .skip) (
      .exit 2)) (
    .seq (.block 3 (
      .seq ((.reg (some [10, 12, 16, 49, 50]) o_objects_Of_13)) (
      .seq ((.reg (some [10, 12, 49, 50, 56]) o_objects_Of_14)) (
      .cond (.t 56) (
        .seq ((.reg (some [8, 9]) o_objects_Of_15)) (
        .ret)) (
        .skip))))) (
    (.reg (some [10, 12, 49, 50]) o_objects_Of_16))))
/-- steadfast/objects.Of -/
@[go_sem] def fc_objects_Of : Fc := ⟨4,
  .seq ((.reg (some [0, 1, 6, 7]) o_objects_Of_0)) (
  .seq ((.reg (some [0, 6, 7, 10, 11]) o_objects_Of_1)) (
  .seq (.seq ((.reg (some [0, 6, 7, 10, 11, 25]) o_objects_Of_2)) (
  .cond (.t 25) (
    .seq ((.reg (some [8, 9]) o_objects_Of_3)) (
    .ret)) (
    .skip))) (
  .seq ((.reg (some [6, 7, 10, 12]) o_objects_Of_4)) (
  .seq (.seq ((.reg (some [7, 10, 12, 34, 35]) o_objects_Of_5)) (
  .block 0 (
    .loop [7, 10, 12, 34, 35] b_objects_Of_0))) (
  .seq (.seq ((.reg (some [10, 12, 49, 50]) o_objects_Of_11)) (
  .block 2 (
    .loop [10, 12, 49, 50] b_objects_Of_1))) (
  .seq ((.reg (some [12]) o_objects_Of_17)) (
  .seq ((.reg (some [8, 9]) o_objects_Of_18)) (
  .ret)))))))),
  [.t 8, .t 9]⟩
def o_steadfastref10_Of_0 : List Ab.Op := [
  ⟨some 6, none, .box false (.t 2)⟩,
  ⟨some 7, none, .box false (.t 3)⟩,
  ⟨some 8, none, .mv (.k .nilp)⟩,
  ⟨some 9, none, .mv (.k (.int .i64 0))⟩]
def o_steadfastref10_Of_1 : List Ab.Op := [
  ⟨some 15, none, .mv (.t 1)⟩,
  ⟨some 16, none, .mv (.t 0)⟩,
  ⟨some 17, none, .nilc (.t 16)⟩,
  ⟨some 18, none, .fad 33 0 1 (.t 17)⟩,
  ⟨some 19, none, .ld 1 (.t 18)⟩,
  ⟨some 20, none, .len false (.t 19)⟩,
  ⟨some 21, none, .call (.k (.fn f_steadfastref04_New [])) [(.t 15), (.t 20)]⟩,
  ⟨some 14, none, .mv (.t 21)⟩,
  ⟨some 22, none, .ext (.t 14) 0⟩,
  ⟨some 23, none, .ext (.t 14) 1⟩,
  ⟨some 10, none, .mv (.t 22)⟩,
  ⟨some 11, none, .mv (.t 23)⟩]
def o_steadfastref10_Of_2 : List Ab.Op := [
  ⟨some 24, none, .mv (.t 11)⟩,
  ⟨some 25, none, .bin .neq (.t 24) (.k (.int .i64 0))⟩]
def o_steadfastref10_Of_3 : List Ab.Op := [
  ⟨some 8, none, .mv (.k .nilp)⟩,
  ⟨some 9, none, .mv (.k (.int .i64 1))⟩]
def o_steadfastref10_Of_4 : List Ab.Op := [
  ⟨some 26, none, .ld 48 (.t 6)⟩,
  ⟨some 27, none, .callw (.k (.fn f_steadfastref10_lines [])) [(.t 26)] (.t 7)⟩,
  ⟨some 28, none, .slarr 50 8 10 (.t 7) none none none⟩,
  ⟨some 29, none, .app false 38 10 (.t 27) (.t 28)⟩,
  ⟨some 12, none, .mv (.t 29)⟩]
def o_steadfastref10_Of_5 : List Ab.Op := [
  ⟨some 13, none, .mv (.k (.int .i64 0))⟩]
def o_steadfastref10_Of_6 : List Ab.Op := [
  ⟨some 30, none, .mv (.t 13)⟩,
  ⟨some 31, none, .mv (.t 12)⟩,
  ⟨some 32, none, .len false (.t 31)⟩,
  ⟨some 33, none, .bin .lss (.t 30) (.t 32)⟩]
def o_steadfastref10_Of_7 : List Ab.Op := [
  ⟨some 36, none, .mv (.t 10)⟩,
  ⟨some 37, none, .mv (.t 12)⟩,
  ⟨some 38, none, .mv (.t 13)⟩,
  ⟨some 39, none, .sad 10 (.t 37) (.t 38)⟩,
  ⟨some 40, none, .ld 10 (.t 39)⟩,
  ⟨some 41, none, .call (.k (.fn f_steadfastref04_Frames_Take [])) [(.t 36), (.t 40)]⟩,
  ⟨some 42, none, .bin .neq (.t 41) (.k (.int .i64 0))⟩]
def o_steadfastref10_Of_8 : List Ab.Op := [
  ⟨some 8, none, .mv (.k .nilp)⟩,
  ⟨some 9, none, .mv (.k (.int .i64 21))⟩]
def o_steadfastref10_Of_9 : List Ab.Op := [
  ⟨some 34, none, .mv (.t 13)⟩,
  ⟨some 35, none, .bin .add (.t 34) (.k (.int .i64 1))⟩,
  ⟨some 13, none, .mv (.t 35)⟩]
def o_steadfastref10_Of_10 : List Ab.Op := [
  ⟨some 43, none, .mv (.t 0)⟩,
  ⟨some 44, none, .mv (.t 10)⟩,
  ⟨some 45, none, .ld 48 (.t 6)⟩,
  ⟨some 46, none, .ld 48 (.t 6)⟩,
  ⟨some 47, none, .ld 50 (.t 7)⟩,
  ⟨some 48, none, .bld (.agg 31 [.nilp, .nilp, (.agg 48 (List.replicate 49 (.agg 42 [(.int .i64 0), (.int .i64 0), (.int .i64 0)]))), (.agg 48 (List.replicate 49 (.agg 42 [(.int .i64 0), (.int .i64 0), (.int .i64 0)]))), (.agg 50 (List.replicate 8 (.int .i64 0))), (.agg 48 (List.replicate 49 (.agg 42 [(.int .i64 0), (.int .i64 0), (.int .i64 0)]))), (.bool false)]) [(0, (.t 43)), (1, (.t 44)), (2, (.t 45)), (3, (.t 46)), (4, (.t 47))]⟩,
  ⟨some 49, none, .box true (.t 48)⟩,
  ⟨some 8, none, .mv (.t 49)⟩,
  ⟨some 9, none, .mv (.k (.int .i64 0))⟩]
def b_steadfastref10_Of_0 : C :=
    .seq (.seq ((.reg (some [0, 6, 7, 10, 12, 13, 33]) o_steadfastref10_Of_6)) (
    .cond (.t 33) (
      .skip) (
      .exit 0))) (
    .seq (.block 1 (
      .seq ((.reg (some [0, 6, 7, 10, 12, 13, 42]) o_steadfastref10_Of_7)) (
      .cond (.t 42) (
        .seq ((.reg (some [8, 9]) o_steadfastref10_Of_8)) (
        .ret)) (
        .skip)))) (
    (.reg (some [0, 6, 7, 10, 12, 13]) o_steadfastref10_Of_9)))
/-- steadfast/steadfastref10.Of -/
@[go_sem] def fc_steadfastref10_Of : Fc := ⟨4,
  .seq ((.reg (some [0, 1, 6, 7]) o_steadfastref10_Of_0)) (
  .seq ((.reg (some [0, 6, 7, 10, 11]) o_steadfastref10_Of_1)) (
  .seq (.seq ((.reg (some [0, 6, 7, 10, 25]) o_steadfastref10_Of_2)) (
  .cond (.t 25) (
    .seq ((.reg (some [8, 9]) o_steadfastref10_Of_3)) (
    .ret)) (
    .skip))) (
  .seq ((.regd (some [0, 6, 7, 10, 12]) o_steadfastref10_Of_4)) (
  .seq (.seq ((.reg (some [0, 6, 7, 10, 12, 13]) o_steadfastref10_Of_5)) (
  .block 0 (
    .loop [0, 6, 7, 10, 12, 13] b_steadfastref10_Of_0))) (
  .seq ((.reg (some [8, 9]) o_steadfastref10_Of_10)) (
  .ret)))))),
  [.t 8, .t 9]⟩
def o_caps_may_0 : List Ab.Op := [
  ⟨some 1, none, .box false (.t 0)⟩,
  ⟨some 2, none, .mv (.k (.bool false))⟩]
def o_caps_may_1 : List Ab.Op := [
  ⟨some 4, none, .fad 40 0 10 (.t 1)⟩,
  ⟨some 5, none, .ld 10 (.t 4)⟩,
  ⟨some 6, none, .bin .eql (.t 5) (.k (.int .i64 5))⟩,
  ⟨some 7, none, .mv (.t 6)⟩,
  ⟨some 8, some (7, false), .fad 40 0 10 (.t 1)⟩,
  ⟨some 9, some (7, false), .ld 10 (.t 8)⟩,
  ⟨some 10, some (7, false), .bin .eql (.t 9) (.k (.int .i64 6))⟩,
  ⟨some 11, none, .pick (.t 7) (.k (.bool true)) (.t 10)⟩,
  ⟨some 3, none, .mv (.t 11)⟩]
def o_caps_may_2 : List Ab.Op := [
  ⟨some 12, none, .fad 40 0 10 (.t 1)⟩,
  ⟨some 13, none, .ld 10 (.t 12)⟩,
  ⟨some 14, none, .call (.k (.fn f_caps_within [])) [(.t 13), (.k (.int .i64 1)), (.k (.int .i64 6))]⟩,
  ⟨some 15, none, .mv (.t 14)⟩,
  ⟨some 16, some (15, true), .fad 40 1 10 (.t 1)⟩,
  ⟨some 17, some (15, true), .ld 10 (.t 16)⟩,
  ⟨some 18, some (15, true), .call (.k (.fn f_caps_within [])) [(.t 17), (.k (.int .i64 0)), (.k (.int .i64 15))]⟩,
  ⟨some 19, none, .pick (.t 15) (.t 18) (.k (.bool false))⟩,
  ⟨some 20, none, .mv (.t 19)⟩,
  ⟨some 21, some (20, true), .fad 40 2 10 (.t 1)⟩,
  ⟨some 22, some (20, true), .ld 10 (.t 21)⟩,
  ⟨some 23, some (20, true), .call (.k (.fn f_caps_within [])) [(.t 22), (.k (.int .i64 0)), (.k (.int .i64 48))]⟩,
  ⟨some 24, none, .pick (.t 20) (.t 23) (.k (.bool false))⟩,
  ⟨some 25, none, .mv (.t 24)⟩,
  ⟨some 26, some (25, true), .fad 40 3 10 (.t 1)⟩,
  ⟨some 27, some (25, true), .ld 10 (.t 26)⟩,
  ⟨some 28, some (25, true), .call (.k (.fn f_caps_within [])) [(.t 27), (.k (.int .i64 0)), (.k (.int .i64 16777215))]⟩,
  ⟨some 29, none, .pick (.t 25) (.t 28) (.k (.bool false))⟩,
  ⟨some 30, none, .mv (.t 29)⟩,
  ⟨some 31, some (30, true), .fad 40 4 10 (.t 1)⟩,
  ⟨some 32, some (30, true), .ld 10 (.t 31)⟩,
  ⟨some 33, some (30, true), .call (.k (.fn f_caps_within [])) [(.t 32), (.k (.int .i64 0)), (.k (.int .i64 65535))]⟩,
  ⟨some 34, none, .pick (.t 30) (.t 33) (.k (.bool false))⟩,
  ⟨some 35, none, .mv (.t 34)⟩,
  ⟨some 36, some (35, true), .mv (.t 3)⟩,
  ⟨some 37, some (35, true), .un .not (.t 36)⟩,
  ⟨some 38, some (35, true), .mv (.t 37)⟩,
  ⟨some 39, some (38, false), .fad 40 2 10 (.t 1)⟩,
  ⟨some 40, some (38, false), .ld 10 (.t 39)⟩,
  ⟨some 41, some (38, false), .bin .eql (.t 40) (.k (.int .i64 0))⟩,
  ⟨some 42, some (38, false), .mv (.t 41)⟩,
  ⟨some 43, some (42, true), .fad 40 3 10 (.t 1)⟩,
  ⟨some 44, some (42, true), .ld 10 (.t 43)⟩,
  ⟨some 45, some (42, true), .bin .eql (.t 44) (.k (.int .i64 0))⟩,
  ⟨some 46, some (38, false), .pick (.t 42) (.t 45) (.k (.bool false))⟩,
  ⟨some 47, some (35, true), .pick (.t 38) (.k (.bool true)) (.t 46)⟩,
  ⟨some 48, none, .pick (.t 35) (.t 47) (.k (.bool false))⟩,
  ⟨some 2, none, .mv (.t 48)⟩]
/-- steadfast/caps.may -/
@[go_sem] def fc_caps_may : Fc := ⟨1,
  .seq ((.reg (some [1]) o_caps_may_0)) (
  .seq ((.reg (some [1, 3]) o_caps_may_1)) (
  .seq ((.reg (some [2]) o_caps_may_2)) (
  .ret))),
  [.t 2]⟩
def o_bank_by_0 : List Ab.Op := [
  ⟨some 2, none, .mv (.k (.int .i64 0))⟩]
def o_bank_by_1 : List Ab.Op := [
  ⟨some 3, none, .mv (.t 0)⟩,
  ⟨some 4, none, .call (.k (.fn f_caps_May [])) [(.t 3), (.k (.int .i64 5)), (.k (.int .i64 2))]⟩,
  ⟨some 2, none, .mv (.t 4)⟩]
/-- steadfast/bank.by -/
@[go_sem] def fc_bank_by : Fc := ⟨1,
  .seq ((.reg (some [0]) o_bank_by_0)) (
  .seq ((.reg (some [2]) o_bank_by_1)) (
  .ret)),
  [.t 2]⟩
def o_objects_Store_Next_0 : List Ab.Op := [
  ⟨some 4, none, .mv (.k (.int .i64 0))⟩,
  ⟨some 5, none, .mv (.k (.int .i64 0))⟩,
  ⟨some 6, none, .mv (.k (.int .i64 0))⟩]
def o_objects_Store_Next_1 : List Ab.Op := [
  ⟨some 9, none, .mv (.t 1)⟩]
def o_objects_Store_Next_2 : List Ab.Op := [
  ⟨some 11, none, .bin .eql (.t 9) (.k (.int .i64 1))⟩,
  ⟨some 10, none, .mv (.t 11)⟩]
def o_objects_Store_Next_3 : List Ab.Op := [
  ⟨some 12, none, .bin .eql (.t 9) (.k (.int .i64 2))⟩,
  ⟨some 10, none, .mv (.t 12)⟩]
def o_objects_Store_Next_4 : List Ab.Op := [
  ⟨some 13, none, .bin .eql (.t 9) (.k (.int .i64 4))⟩,
  ⟨some 10, none, .mv (.t 13)⟩]
def o_objects_Store_Next_5 : List Ab.Op := [
  ⟨some 4, none, .mv (.k (.int .i64 0))⟩,
  ⟨some 5, none, .mv (.k (.int .i64 0))⟩,
  ⟨some 6, none, .mv (.k (.int .i64 1))⟩]
def o_objects_Store_Next_6 : List Ab.Op := [
  ⟨some 14, none, .mv (.t 0)⟩,
  ⟨some 15, none, .nilc (.t 14)⟩,
  ⟨some 16, none, .fad 43 2 48 (.t 15)⟩,
  ⟨some 17, none, .ld 48 (.t 16)⟩,
  ⟨some 18, none, .mv (.k (.int .i64 0))⟩]
def o_objects_Store_Next_7 : List Ab.Op := [
  ⟨some 19, none, .bin .lss (.t 18) (.k (.int .i64 49))⟩]
def o_objects_Store_Next_8 : List Ab.Op := [
  ⟨some 20, none, .mv (.t 18)⟩,
  ⟨some 21, none, .idx 48 49 (.t 17) (.t 18)⟩,
  ⟨some 8, none, .alloc false (.agg 42 [(.int .i64 0), (.int .i64 0), (.int .i64 0)])⟩,
  ⟨some 7, none, .mv (.t 20)⟩,
  ⟨none, none, .st 42 (.t 8) (.t 21)⟩]
def o_objects_Store_Next_9 : List Ab.Op := [
  ⟨some 22, none, .ld 42 (.t 8)⟩,
  ⟨some 23, none, .call (.k (.fn f_entry_Open [])) [(.t 22)]⟩]
def o_objects_Store_Next_10 : List Ab.Op := [
  ⟨some 24, none, .mv (.t 7)⟩,
  ⟨some 25, none, .fad 42 1 10 (.t 8)⟩,
  ⟨some 26, none, .ld 10 (.t 25)⟩,
  ⟨some 4, none, .mv (.t 24)⟩,
  ⟨some 5, none, .mv (.t 26)⟩,
  ⟨some 6, none, .mv (.k (.int .i64 0))⟩]
def o_objects_Store_Next_11 : List Ab.Op := [
  ⟨some 27, none, .bin .add (.t 18) (.k (.int .i64 1))⟩,
  ⟨some 18, none, .mv (.t 27)⟩]
def o_objects_Store_Next_12 : List Ab.Op := [
  ⟨some 4, none, .mv (.k (.int .i64 0))⟩,
  ⟨some 5, none, .mv (.k (.int .i64 0))⟩,
  ⟨some 6, none, .mv (.k (.int .i64 34))⟩]
def b_objects_Store_Next_0 : C :=
    .seq ((.reg (some [17, 18, 19]) o_objects_Store_Next_7)) (
    .seq (.cond (.t 19) (
      .skip) (
      .exit 1)) (
    .seq (.block 2 (
      .seq ((.reg (some [7, 8, 17, 18]) o_objects_Store_Next_8)) (
      .seq ((.reg (some [7, 8, 17, 18, 23]) o_objects_Store_Next_9)) (
      .cond (.t 23) (
        .seq ((.regd (some [4, 5, 6]) o_objects_Store_Next_10)) (
        .ret)) (
        .skip))))) (
    (.reg (some [17, 18]) o_objects_Store_Next_11))))
/-- (*steadfast/objects.Store).Next -/
@[go_sem] def fc_objects_Store_Next : Fc := ⟨2,
  .seq ((.reg (some [0, 1]) o_objects_Store_Next_0)) (
  .seq (.seq ((.reg (some [0, 9]) o_objects_Store_Next_1)) (
  .block 0 (
    .seq (.seq ((.reg (some [0, 9, 10]) o_objects_Store_Next_2)) (
    .cond (.t 10) (
      .skip) (
      .seq ((.reg (some [0, 9, 10]) o_objects_Store_Next_3)) (
      .cond (.t 10) (
        .skip) (
        (.reg (some [0, 10]) o_objects_Store_Next_4)))))) (
    .cond (.t 10) (
      .skip) (
      .seq ((.reg (some [4, 5, 6]) o_objects_Store_Next_5)) (
      .ret)))))) (
  .seq (.seq ((.reg (some [17, 18]) o_objects_Store_Next_6)) (
  .block 1 (
    .loop [17, 18] b_objects_Store_Next_0))) (
  .seq ((.reg (some [4, 5, 6]) o_objects_Store_Next_12)) (
  .ret)))),
  [.t 4, .t 5, .t 6]⟩
def o_steadfastref10_Store_Names_0 : List Ab.Op := [
  ⟨some 4, none, .mv (.k (.int .i64 0))⟩,
  ⟨some 5, none, .mv (.k (.int .i64 0))⟩]
def o_steadfastref10_Store_Names_1 : List Ab.Op := [
  ⟨some 10, none, .mv (.t 1)⟩,
  ⟨some 11, none, .call (.k (.fn f_steadfastref07_Of [])) [(.t 10)]⟩,
  ⟨some 9, none, .mv (.t 11)⟩,
  ⟨some 12, none, .ext (.t 9) 0⟩,
  ⟨some 13, none, .ext (.t 9) 1⟩,
  ⟨some 6, none, .alloc false (.agg 40 [(.int .i64 0), (.int .i64 0), (.int .i64 0), (.int .i64 0), (.int .i64 0)])⟩,
  ⟨none, none, .st 40 (.t 6) (.t 12)⟩,
  ⟨some 7, none, .mv (.t 13)⟩]
def o_steadfastref10_Store_Names_2 : List Ab.Op := [
  ⟨some 14, none, .mv (.t 7)⟩,
  ⟨some 15, none, .un .not (.t 14)⟩]
def o_steadfastref10_Store_Names_3 : List Ab.Op := [
  ⟨some 4, none, .mv (.k (.int .i64 0))⟩,
  ⟨some 5, none, .mv (.k (.int .i64 31))⟩]
def o_steadfastref10_Store_Names_4 : List Ab.Op := [
  ⟨some 16, none, .mv (.t 0)⟩,
  ⟨some 17, none, .fad 40 2 10 (.t 6)⟩,
  ⟨some 18, none, .ld 10 (.t 17)⟩,
  ⟨some 19, none, .nilc (.t 16)⟩,
  ⟨some 20, none, .fad 31 2 48 (.t 19)⟩,
  ⟨some 21, none, .iad 48 49 42 (.t 20) (.t 18)⟩,
  ⟨some 22, none, .ld 42 (.t 21)⟩,
  ⟨some 23, none, .fad 40 2 10 (.t 6)⟩,
  ⟨some 24, none, .ld 10 (.t 23)⟩,
  ⟨some 25, none, .mv (.t 1)⟩,
  ⟨some 26, none, .pcall (.k (.fn f_steadfastref08_Names [])) [(.t 22), (.t 24), (.t 25)]⟩,
  ⟨some 8, none, .mv (.t 26)⟩]
def o_steadfastref10_Store_Names_5 : List Ab.Op := [
  ⟨some 27, none, .mv (.t 8)⟩,
  ⟨some 28, none, .bin .neq (.t 27) (.k (.int .i64 0))⟩]
def o_steadfastref10_Store_Names_6 : List Ab.Op := [
  ⟨some 29, none, .mv (.t 8)⟩,
  ⟨some 4, none, .mv (.k (.int .i64 0))⟩,
  ⟨some 5, none, .mv (.t 29)⟩]
def o_steadfastref10_Store_Names_7 : List Ab.Op := [
  ⟨some 30, none, .fad 40 2 10 (.t 6)⟩,
  ⟨some 31, none, .ld 10 (.t 30)⟩,
  ⟨some 4, none, .mv (.t 31)⟩,
  ⟨some 5, none, .mv (.k (.int .i64 0))⟩]
/-- (*steadfast/steadfastref10.Store).Names -/
@[go_sem] def fc_steadfastref10_Store_Names : Fc := ⟨2,
  .seq ((.reg (some [0, 1]) o_steadfastref10_Store_Names_0)) (
  .seq ((.reg (some [0, 1, 6, 7]) o_steadfastref10_Store_Names_1)) (
  .seq (.seq ((.reg (some [0, 1, 6, 15]) o_steadfastref10_Store_Names_2)) (
  .cond (.t 15) (
    .seq ((.reg (some [4, 5]) o_steadfastref10_Store_Names_3)) (
    .ret)) (
    .skip))) (
  .seq ((.regd (some [6, 8]) o_steadfastref10_Store_Names_4)) (
  .seq (.seq ((.reg (some [6, 8, 28]) o_steadfastref10_Store_Names_5)) (
  .cond (.t 28) (
    .seq ((.reg (some [4, 5]) o_steadfastref10_Store_Names_6)) (
    .ret)) (
    .skip))) (
  .seq ((.reg (some [4, 5]) o_steadfastref10_Store_Names_7)) (
  .ret)))))),
  [.t 4, .t 5]⟩
def o_steadfastref10_Store_Get_0 : List Ab.Op := [
  ⟨some 4, none, .alloc false (.agg 26 [(.int .i64 0), (.int .i64 0), (.agg 24 (List.replicate 8 (.int .u64 0)))])⟩,
  ⟨some 5, none, .mv (.k (.int .i64 0))⟩]
def o_steadfastref10_Store_Get_1 : List Ab.Op := [
  ⟨some 8, none, .mv (.t 0)⟩,
  ⟨some 9, none, .mv (.t 1)⟩,
  ⟨some 10, none, .call (.k (.fn f_steadfastref10_Store_is [])) [(.t 8), (.t 9)]⟩,
  ⟨some 6, none, .mv (.t 10)⟩]
def o_steadfastref10_Store_Get_2 : List Ab.Op := [
  ⟨some 11, none, .mv (.t 6)⟩,
  ⟨some 12, none, .bin .neq (.t 11) (.k (.int .i64 0))⟩]
def o_steadfastref10_Store_Get_3 : List Ab.Op := [
  ⟨some 13, none, .bld (.agg 26 [(.int .i64 0), (.int .i64 0), (.agg 24 (List.replicate 8 (.int .u64 0)))]) []⟩,
  ⟨some 14, none, .mv (.t 6)⟩,
  ⟨none, none, .st 26 (.t 4) (.t 13)⟩,
  ⟨some 5, none, .mv (.t 14)⟩]
def o_steadfastref10_Store_Get_4 : List Ab.Op := [
  ⟨some 16, none, .mv (.t 0)⟩,
  ⟨some 17, none, .nilc (.t 16)⟩,
  ⟨some 18, none, .fad 31 0 1 (.t 17)⟩,
  ⟨some 19, none, .ld 1 (.t 18)⟩,
  ⟨some 20, none, .mv (.t 0)⟩,
  ⟨some 21, none, .mv (.t 1)⟩,
  ⟨some 22, none, .nilc (.t 20)⟩,
  ⟨some 23, none, .fad 31 2 48 (.t 22)⟩,
  ⟨some 24, none, .iad 48 49 42 (.t 23) (.t 21)⟩,
  ⟨some 25, none, .fad 42 2 10 (.t 24)⟩,
  ⟨some 26, none, .ld 10 (.t 25)⟩,
  ⟨some 27, none, .pcall (.k (.fn f_steadfastref03_Memory_Load [])) [(.t 19), (.t 26)]⟩,
  ⟨some 15, none, .mv (.t 27)⟩,
  ⟨some 28, none, .ext (.t 15) 0⟩,
  ⟨some 29, none, .ext (.t 15) 1⟩,
  ⟨some 7, none, .alloc false (.agg 24 (List.replicate 8 (.int .u64 0)))⟩,
  ⟨none, none, .st 24 (.t 7) (.t 28)⟩,
  ⟨some 6, none, .mv (.t 29)⟩]
def o_steadfastref10_Store_Get_5 : List Ab.Op := [
  ⟨some 30, none, .mv (.t 6)⟩,
  ⟨some 31, none, .bin .neq (.t 30) (.k (.int .i64 0))⟩]
def o_steadfastref10_Store_Get_6 : List Ab.Op := [
  ⟨some 32, none, .bld (.agg 26 [(.int .i64 0), (.int .i64 0), (.agg 24 (List.replicate 8 (.int .u64 0)))]) []⟩,
  ⟨some 33, none, .mv (.t 6)⟩,
  ⟨none, none, .st 26 (.t 4) (.t 32)⟩,
  ⟨some 5, none, .mv (.t 33)⟩]
def o_steadfastref10_Store_Get_7 : List Ab.Op := [
  ⟨some 34, none, .mv (.t 0)⟩,
  ⟨some 35, none, .mv (.t 1)⟩,
  ⟨some 36, none, .nilc (.t 34)⟩,
  ⟨some 37, none, .fad 31 2 48 (.t 36)⟩,
  ⟨some 38, none, .iad 48 49 42 (.t 37) (.t 35)⟩,
  ⟨some 39, none, .fad 42 0 10 (.t 38)⟩,
  ⟨some 40, none, .ld 10 (.t 39)⟩,
  ⟨some 41, none, .mv (.t 0)⟩,
  ⟨some 42, none, .mv (.t 1)⟩,
  ⟨some 43, none, .nilc (.t 41)⟩,
  ⟨some 44, none, .fad 31 2 48 (.t 43)⟩,
  ⟨some 45, none, .iad 48 49 42 (.t 44) (.t 42)⟩,
  ⟨some 46, none, .fad 42 1 10 (.t 45)⟩,
  ⟨some 47, none, .ld 10 (.t 46)⟩,
  ⟨some 48, none, .ld 24 (.t 7)⟩,
  ⟨some 49, none, .bld (.agg 26 [(.int .i64 0), (.int .i64 0), (.agg 24 (List.replicate 8 (.int .u64 0)))]) [(0, (.t 40)), (1, (.t 47)), (2, (.t 48))]⟩,
  ⟨none, none, .st 26 (.t 4) (.t 49)⟩,
  ⟨some 5, none, .mv (.k (.int .i64 0))⟩]
/-- (*steadfast/steadfastref10.Store).Get -/
@[go_sem] def fc_steadfastref10_Store_Get : Fc := ⟨2,
  .seq ((.reg (some [0, 1, 4]) o_steadfastref10_Store_Get_0)) (
  .seq ((.reg (some [0, 1, 4, 6]) o_steadfastref10_Store_Get_1)) (
  .seq (.seq ((.reg (some [0, 1, 4, 6, 12]) o_steadfastref10_Store_Get_2)) (
  .cond (.t 12) (
    .seq ((.reg (some [4, 5]) o_steadfastref10_Store_Get_3)) (
    .ret)) (
    .skip))) (
  .seq ((.regd (some [0, 1, 4, 6, 7]) o_steadfastref10_Store_Get_4)) (
  .seq (.seq ((.reg (some [0, 1, 4, 6, 7, 31]) o_steadfastref10_Store_Get_5)) (
  .cond (.t 31) (
    .seq ((.reg (some [4, 5]) o_steadfastref10_Store_Get_6)) (
    .ret)) (
    .skip))) (
  .seq ((.regd (some [4, 5]) o_steadfastref10_Store_Get_7)) (
  .ret)))))),
  [.cell 4 26, .t 5]⟩
def o_objects_Store_is_0 : List Ab.Op := [
  ⟨some 4, none, .mv (.k (.int .i64 0))⟩]
def o_objects_Store_is_1 : List Ab.Op := [
  ⟨some 6, none, .mv (.t 1)⟩,
  ⟨some 7, none, .bin .lss (.t 6) (.k (.int .i64 0))⟩,
  ⟨some 5, none, .mv (.t 7)⟩]
def o_objects_Store_is_2 : List Ab.Op := [
  ⟨some 8, none, .mv (.t 1)⟩,
  ⟨some 9, none, .bin .geq (.t 8) (.k (.int .i64 49))⟩,
  ⟨some 5, none, .mv (.t 9)⟩]
def o_objects_Store_is_3 : List Ab.Op := [
  ⟨some 4, none, .mv (.k (.int .i64 1))⟩]
def o_objects_Store_is_4 : List Ab.Op := [
  ⟨some 11, none, .mv (.t 0)⟩,
  ⟨some 12, none, .mv (.t 1)⟩,
  ⟨some 13, none, .nilc (.t 11)⟩,
  ⟨some 14, none, .fad 43 2 48 (.t 13)⟩,
  ⟨some 15, none, .iad 48 49 42 (.t 14) (.t 12)⟩,
  ⟨some 16, none, .fad 42 0 10 (.t 15)⟩,
  ⟨some 17, none, .ld 10 (.t 16)⟩,
  ⟨some 18, none, .bin .eql (.t 17) (.k (.int .i64 0))⟩,
  ⟨some 10, none, .mv (.t 18)⟩]
def o_objects_Store_is_5 : List Ab.Op := [
  ⟨some 4, none, .mv (.k (.int .i64 30))⟩]
def o_objects_Store_is_6 : List Ab.Op := [
  ⟨some 4, none, .mv (.k (.int .i64 0))⟩]
/-- (*steadfast/objects.Store).is -/
@[go_sem] def fc_objects_Store_is : Fc := ⟨2,
  .seq ((.reg (some [0, 1]) o_objects_Store_is_0)) (
  .seq (.block 0 (
    .seq (.seq ((.reg (some [0, 1, 5]) o_objects_Store_is_1)) (
    .cond (.t 5) (
      .skip) (
      (.reg (some [0, 1, 5]) o_objects_Store_is_2)))) (
    .cond (.t 5) (
      .seq ((.reg (some [4]) o_objects_Store_is_3)) (
      .ret)) (
      .seq ((.reg (some [10]) o_objects_Store_is_4)) (
      .cond (.t 10) (
        .seq ((.reg (some [4]) o_objects_Store_is_5)) (
        .ret)) (
        .skip)))))) (
  .seq ((.reg (some [4]) o_objects_Store_is_6)) (
  .ret))),
  [.t 4]⟩
def o_nvm_Memory_Load_0 : List Ab.Op := [
  ⟨some 4, none, .alloc false (.agg 24 (List.replicate 8 (.int .u64 0)))⟩,
  ⟨some 5, none, .mv (.k (.int .i64 0))⟩]
def o_nvm_Memory_Load_1 : List Ab.Op := [
  ⟨some 7, none, .mv (.t 0)⟩,
  ⟨some 8, none, .mv (.t 1)⟩,
  ⟨some 9, none, .call (.k (.fn f_nvm_Memory_at [])) [(.t 7), (.t 8)]⟩,
  ⟨some 6, none, .mv (.t 9)⟩]
def o_nvm_Memory_Load_2 : List Ab.Op := [
  ⟨some 11, none, .mv (.t 6)⟩,
  ⟨some 12, none, .eq false 1 (.t 11) (.k .nilp)⟩,
  ⟨some 10, none, .mv (.t 12)⟩]
def o_nvm_Memory_Load_3 : List Ab.Op := [
  ⟨some 13, none, .bld (.agg 24 (List.replicate 8 (.int .u64 0))) []⟩,
  ⟨none, none, .st 24 (.t 4) (.t 13)⟩,
  ⟨some 5, none, .mv (.k (.int .i64 1))⟩]
def o_nvm_Memory_Load_4 : List Ab.Op := [
  ⟨some 15, none, .mv (.t 0)⟩,
  ⟨some 16, none, .nilc (.t 15)⟩,
  ⟨some 17, none, .fad 59 1 0 (.t 16)⟩,
  ⟨some 18, none, .ld 0 (.t 17)⟩,
  ⟨some 14, none, .mv (.t 18)⟩]
def o_nvm_Memory_Load_5 : List Ab.Op := [
  ⟨some 19, none, .bld (.agg 24 (List.replicate 8 (.int .u64 0))) []⟩,
  ⟨none, none, .st 24 (.t 4) (.t 19)⟩,
  ⟨some 5, none, .mv (.k (.int .i64 4))⟩]
def o_nvm_Memory_Load_6 : List Ab.Op := [
  ⟨some 20, none, .mv (.t 6)⟩,
  ⟨some 21, none, .nilc (.t 20)⟩,
  ⟨some 22, none, .fad 55 0 24 (.t 21)⟩,
  ⟨some 23, none, .ld 24 (.t 22)⟩,
  ⟨none, none, .st 24 (.t 4) (.t 23)⟩,
  ⟨some 5, none, .mv (.k (.int .i64 0))⟩]
/-- (*steadfast/nvm.Memory).Load -/
@[go_sem] def fc_nvm_Memory_Load : Fc := ⟨2,
  .seq ((.reg (some [0, 1, 4]) o_nvm_Memory_Load_0)) (
  .seq ((.reg (some [0, 4, 6]) o_nvm_Memory_Load_1)) (
  .seq (.block 0 (
    .seq ((.reg (some [0, 4, 6, 10]) o_nvm_Memory_Load_2)) (
    .cond (.t 10) (
      .seq ((.reg (some [4, 5]) o_nvm_Memory_Load_3)) (
      .ret)) (
      .seq ((.reg (some [4, 6, 14]) o_nvm_Memory_Load_4)) (
      .cond (.t 14) (
        .seq ((.reg (some [4, 5]) o_nvm_Memory_Load_5)) (
        .ret)) (
        .skip)))))) (
  .seq ((.reg (some [4, 5]) o_nvm_Memory_Load_6)) (
  .ret)))),
  [.cell 4 24, .t 5]⟩
def o_steadfastref07_May_0 : List Ab.Op := [
  ⟨some 6, none, .mv (.k (.int .i64 0))⟩]
def o_steadfastref07_May_1 : List Ab.Op := [
  ⟨some 10, none, .mv (.t 0)⟩,
  ⟨some 11, none, .call (.k (.fn f_steadfastref07_Of [])) [(.t 10)]⟩,
  ⟨some 9, none, .mv (.t 11)⟩,
  ⟨some 12, none, .ext (.t 9) 0⟩,
  ⟨some 13, none, .ext (.t 9) 1⟩,
  ⟨some 7, none, .alloc false (.agg 40 [(.int .i64 0), (.int .i64 0), (.int .i64 0), (.int .i64 0), (.int .i64 0)])⟩,
  ⟨none, none, .st 40 (.t 7) (.t 12)⟩,
  ⟨some 8, none, .mv (.t 13)⟩]
def o_steadfastref07_May_2 : List Ab.Op := [
  ⟨some 14, none, .mv (.t 8)⟩,
  ⟨some 15, none, .un .not (.t 14)⟩,
  ⟨some 16, none, .mv (.t 15)⟩,
  ⟨some 17, some (16, false), .fad 40 0 10 (.t 7)⟩,
  ⟨some 18, some (16, false), .ld 10 (.t 17)⟩,
  ⟨some 19, some (16, false), .mv (.t 1)⟩,
  ⟨some 20, some (16, false), .bin .neq (.t 18) (.t 19)⟩,
  ⟨some 21, none, .pick (.t 16) (.k (.bool true)) (.t 20)⟩]
def o_steadfastref07_May_3 : List Ab.Op := [
  ⟨some 6, none, .mv (.k (.int .i64 31))⟩]
def o_steadfastref07_May_4 : List Ab.Op := [
  ⟨some 22, none, .fad 40 1 10 (.t 7)⟩,
  ⟨some 23, none, .ld 10 (.t 22)⟩,
  ⟨some 24, none, .mv (.t 2)⟩,
  ⟨some 25, none, .bin .and (.t 23) (.t 24)⟩,
  ⟨some 26, none, .mv (.t 2)⟩,
  ⟨some 27, none, .bin .neq (.t 25) (.t 26)⟩]
def o_steadfastref07_May_5 : List Ab.Op := [
  ⟨some 6, none, .mv (.k (.int .i64 32))⟩]
def o_steadfastref07_May_6 : List Ab.Op := [
  ⟨some 6, none, .mv (.k (.int .i64 0))⟩]
/-- steadfast/steadfastref07.May -/
@[go_sem] def fc_steadfastref07_May : Fc := ⟨3,
  .seq ((.reg (some [0, 1, 2]) o_steadfastref07_May_0)) (
  .seq ((.reg (some [1, 2, 7, 8]) o_steadfastref07_May_1)) (
  .seq (.seq ((.reg (some [2, 7, 21]) o_steadfastref07_May_2)) (
  .cond (.t 21) (
    .seq ((.reg (some [6]) o_steadfastref07_May_3)) (
    .ret)) (
    .skip))) (
  .seq (.seq ((.reg (some [27]) o_steadfastref07_May_4)) (
  .cond (.t 27) (
    .seq ((.reg (some [6]) o_steadfastref07_May_5)) (
    .ret)) (
    .skip))) (
  .seq ((.reg (some [6]) o_steadfastref07_May_6)) (
  .ret))))),
  [.t 6]⟩
def o_objects_Store_own_0 : List Ab.Op := [
  ⟨some 4, none, .mv (.k (.bool false))⟩]
def o_objects_Store_own_1 : List Ab.Op := [
  ⟨some 5, none, .mv (.t 0)⟩,
  ⟨some 6, none, .mv (.t 0)⟩,
  ⟨some 7, none, .mv (.t 1)⟩,
  ⟨some 8, none, .nilc (.t 6)⟩,
  ⟨some 9, none, .fad 43 2 48 (.t 8)⟩,
  ⟨some 10, none, .iad 48 49 42 (.t 9) (.t 7)⟩,
  ⟨some 11, none, .fad 42 2 10 (.t 10)⟩,
  ⟨some 12, none, .ld 10 (.t 11)⟩,
  ⟨some 13, none, .nilc (.t 5)⟩,
  ⟨some 14, none, .fad 43 7 82 (.t 13)⟩,
  ⟨some 15, none, .iad 82 1024 0 (.t 14) (.t 12)⟩,
  ⟨some 16, none, .ld 0 (.t 15)⟩,
  ⟨some 17, none, .un .not (.t 16)⟩,
  ⟨some 4, none, .mv (.t 17)⟩]
/-- (*steadfast/objects.Store).own -/
@[go_sem] def fc_objects_Store_own : Fc := ⟨2,
  .seq ((.reg (some [0, 1]) o_objects_Store_own_0)) (
  .seq ((.regd (some [4]) o_objects_Store_own_1)) (
  .ret)),
  [.t 4]⟩
def o_frames_Frames_Free_0 : List Ab.Op := [
  ⟨some 4, none, .mv (.k (.int .i64 0))⟩]
def o_frames_Frames_Free_1 : List Ab.Op := [
  ⟨some 6, none, .mv (.t 0)⟩,
  ⟨some 7, none, .mv (.t 1)⟩,
  ⟨some 8, none, .call (.k (.fn f_frames_Frames_in [])) [(.t 6), (.t 7), (.k (.int .i64 1))]⟩,
  ⟨some 5, none, .mv (.t 8)⟩]
def o_frames_Frames_Free_2 : List Ab.Op := [
  ⟨some 9, none, .mv (.t 5)⟩,
  ⟨some 10, none, .bin .eql (.t 9) (.k (.int .i64 0))⟩]
def o_frames_Frames_Free_3 : List Ab.Op := [
  ⟨some 11, none, .mv (.t 0)⟩,
  ⟨some 12, none, .nilc (.t 11)⟩,
  ⟨some 13, none, .fad 80 2 78 (.t 12)⟩,
  ⟨some 14, none, .mv (.t 1)⟩,
  ⟨some 15, none, .call (.k (.fn f_frames_set_turn [])) [(.t 13), (.t 14)]⟩]
def o_frames_Frames_Free_4 : List Ab.Op := [
  ⟨some 16, none, .mv (.t 5)⟩,
  ⟨some 4, none, .mv (.t 16)⟩]
/-- (*steadfast/frames.Frames).Free -/
@[go_sem] def fc_frames_Frames_Free : Fc := ⟨2,
  .seq ((.reg (some [0, 1]) o_frames_Frames_Free_0)) (
  .seq ((.reg (some [0, 1, 5]) o_frames_Frames_Free_1)) (
  .seq (.seq ((.reg (some [0, 1, 5, 10]) o_frames_Frames_Free_2)) (
  .cond (.t 10) (
    (.reg (some [5]) o_frames_Frames_Free_3)) (
    .skip))) (
  .seq ((.reg (some [4]) o_frames_Frames_Free_4)) (
  .ret)))),
  [.t 4]⟩
def o_entry_End_0 : List Ab.Op := [
  ⟨some 1, none, .box false (.t 0)⟩,
  ⟨some 2, none, .alloc false (.agg 42 [(.int .i64 0), (.int .i64 0), (.int .i64 0)])⟩,
  ⟨some 3, none, .mv (.k (.int .i64 0))⟩]
def o_entry_End_1 : List Ab.Op := [
  ⟨some 4, none, .fad 42 0 10 (.t 1)⟩,
  ⟨some 5, none, .ld 10 (.t 4)⟩,
  ⟨some 6, none, .bin .eql (.t 5) (.k (.int .i64 0))⟩]
def o_entry_End_2 : List Ab.Op := [
  ⟨some 7, none, .bld (.agg 42 [(.int .i64 0), (.int .i64 0), (.int .i64 0)]) []⟩,
  ⟨none, none, .st 42 (.t 2) (.t 7)⟩,
  ⟨some 3, none, .mv (.k (.int .i64 30))⟩]
def o_entry_End_3 : List Ab.Op := [
  ⟨some 8, none, .fad 42 1 10 (.t 1)⟩,
  ⟨some 9, none, .ld 10 (.t 8)⟩,
  ⟨some 10, none, .fad 42 1 10 (.t 1)⟩,
  ⟨some 11, none, .ld 10 (.t 10)⟩,
  ⟨some 12, none, .bin .sub (.k (.int .i64 16777215)) (.t 11)⟩,
  ⟨some 13, none, .mnx false (.k (.int .i64 1)) (.t 12)⟩,
  ⟨some 14, none, .bin .add (.t 9) (.t 13)⟩,
  ⟨some 15, none, .bld (.agg 42 [(.int .i64 0), (.int .i64 0), (.int .i64 0)]) [(1, (.t 14))]⟩,
  ⟨none, none, .st 42 (.t 2) (.t 15)⟩,
  ⟨some 3, none, .mv (.k (.int .i64 0))⟩]
/-- steadfast/entry.End -/
@[go_sem] def fc_entry_End : Fc := ⟨1,
  .seq ((.reg (some [1, 2]) o_entry_End_0)) (
  .seq (.seq ((.reg (some [1, 2, 6]) o_entry_End_1)) (
  .cond (.t 6) (
    .seq ((.reg (some [2, 3]) o_entry_End_2)) (
    .ret)) (
    .skip))) (
  .seq ((.reg (some [2, 3]) o_entry_End_3)) (
  .ret))),
  [.cell 2 42, .t 3]⟩
def o_caps_within_0 : List Ab.Op := [
  ⟨some 6, none, .mv (.k (.bool false))⟩]
def o_caps_within_1 : List Ab.Op := [
  ⟨some 7, none, .mv (.t 0)⟩,
  ⟨some 8, none, .mv (.t 1)⟩,
  ⟨some 9, none, .bin .geq (.t 7) (.t 8)⟩,
  ⟨some 10, none, .mv (.t 9)⟩,
  ⟨some 11, some (10, true), .mv (.t 0)⟩,
  ⟨some 12, some (10, true), .mv (.t 2)⟩,
  ⟨some 13, some (10, true), .bin .leq (.t 11) (.t 12)⟩,
  ⟨some 14, none, .pick (.t 10) (.t 13) (.k (.bool false))⟩,
  ⟨some 6, none, .mv (.t 14)⟩]
/-- steadfast/caps.within -/
@[go_sem] def fc_caps_within : Fc := ⟨3,
  .seq ((.reg (some [0, 1, 2]) o_caps_within_0)) (
  .seq ((.reg (some [6]) o_caps_within_1)) (
  .ret)),
  [.t 6]⟩
def o_steadfastref01_With_0 : List Ab.Op := [
  ⟨some 8, none, .mv (.k (.int .u64 0))⟩,
  ⟨some 9, none, .mv (.k (.int .i64 0))⟩]
def o_steadfastref01_With_1 : List Ab.Op := [
  ⟨some 12, none, .mv (.t 1)⟩,
  ⟨some 13, none, .mv (.t 2)⟩,
  ⟨some 14, none, .call (.k (.fn f_steadfastref01_is [])) [(.t 12), (.t 13)]⟩,
  ⟨some 15, none, .un .not (.t 14)⟩]
def o_steadfastref01_With_2 : List Ab.Op := [
  ⟨some 8, none, .mv (.k (.int .u64 0))⟩,
  ⟨some 9, none, .mv (.k (.int .i64 1))⟩]
def o_steadfastref01_With_3 : List Ab.Op := [
  ⟨some 16, none, .mv (.t 2)⟩,
  ⟨some 10, none, .mv (.t 16)⟩]
def o_steadfastref01_With_4 : List Ab.Op := [
  ⟨some 17, none, .mv (.t 10)⟩,
  ⟨some 18, none, .bin .lss (.t 17) (.k (.int .i64 64))⟩]
def o_steadfastref01_With_5 : List Ab.Op := [
  ⟨some 21, none, .mv (.t 3)⟩,
  ⟨some 22, none, .mv (.t 10)⟩,
  ⟨some 23, none, .call (.k (.fn f_steadfastref01_bit [])) [(.t 21), (.t 22)]⟩,
  ⟨some 24, none, .bin .eql (.t 23) (.k (.int .u64 1))⟩]
def o_steadfastref01_With_6 : List Ab.Op := [
  ⟨some 8, none, .mv (.k (.int .u64 0))⟩,
  ⟨some 9, none, .mv (.k (.int .i64 2))⟩]
def o_steadfastref01_With_7 : List Ab.Op := [
  ⟨some 19, none, .mv (.t 10)⟩,
  ⟨some 20, none, .bin .add (.t 19) (.k (.int .i64 1))⟩,
  ⟨some 10, none, .mv (.t 20)⟩]
def o_steadfastref01_With_8 : List Ab.Op := [
  ⟨some 11, none, .mv (.k (.int .i64 0))⟩]
def o_steadfastref01_With_9 : List Ab.Op := [
  ⟨some 25, none, .mv (.t 11)⟩,
  ⟨some 26, none, .mv (.t 2)⟩,
  ⟨some 27, none, .bin .lss (.t 25) (.t 26)⟩]
def o_steadfastref01_With_10 : List Ab.Op := [
  ⟨some 30, none, .mv (.t 3)⟩,
  ⟨some 31, none, .mv (.t 11)⟩,
  ⟨some 32, none, .call (.k (.fn f_steadfastref01_bit [])) [(.t 30), (.t 31)]⟩,
  ⟨some 33, none, .mv (.t 0)⟩,
  ⟨some 34, none, .mv (.t 1)⟩,
  ⟨some 35, none, .mv (.t 11)⟩,
  ⟨some 36, none, .bin .add (.t 34) (.t 35)⟩,
  ⟨some 37, none, .call (.k (.fn f_steadfastref01_bit [])) [(.t 33), (.t 36)]⟩,
  ⟨some 38, none, .bin .neq (.t 32) (.t 37)⟩]
def o_steadfastref01_With_11 : List Ab.Op := [
  ⟨some 39, none, .mv (.t 0)⟩,
  ⟨some 40, none, .mv (.t 1)⟩,
  ⟨some 41, none, .mv (.t 11)⟩,
  ⟨some 42, none, .bin .add (.t 40) (.t 41)⟩,
  ⟨some 43, none, .bin .shl (.k (.int .u64 1)) (.t 42)⟩,
  ⟨some 44, none, .bin .xor (.t 39) (.t 43)⟩,
  ⟨some 0, none, .mv (.t 44)⟩]
def o_steadfastref01_With_12 : List Ab.Op := [
  ⟨some 28, none, .mv (.t 11)⟩,
  ⟨some 29, none, .bin .add (.t 28) (.k (.int .i64 1))⟩,
  ⟨some 11, none, .mv (.t 29)⟩]
def o_steadfastref01_With_13 : List Ab.Op := [
  ⟨some 45, none, .mv (.t 0)⟩,
  ⟨some 8, none, .mv (.t 45)⟩,
  ⟨some 9, none, .mv (.k (.int .i64 0))⟩]
def b_steadfastref01_With_0 : C :=
    .seq (.seq ((.reg (some [0, 1, 2, 3, 10, 18]) o_steadfastref01_With_4)) (
    .cond (.t 18) (
      .skip) (
      .exit 0))) (
    .seq (.block 1 (
      .seq ((.reg (some [0, 1, 2, 3, 10, 24]) o_steadfastref01_With_5)) (
      .cond (.t 24) (
        .seq ((.reg (some [8, 9]) o_steadfastref01_With_6)) (
        .ret)) (
        .skip)))) (
    (.reg (some [0, 1, 2, 3, 10]) o_steadfastref01_With_7)))
def b_steadfastref01_With_1 : C :=
    .seq (.seq ((.reg (some [0, 1, 2, 3, 11, 27]) o_steadfastref01_With_9)) (
    .cond (.t 27) (
      .skip) (
      .exit 2))) (
    .seq (.block 3 (
      .seq ((.reg (some [0, 1, 2, 3, 11, 38]) o_steadfastref01_With_10)) (
      .cond (.t 38) (
        (.reg (some [0, 1, 2, 3, 11]) o_steadfastref01_With_11)) (
        .skip)))) (
    (.reg (some [0, 1, 2, 3, 11]) o_steadfastref01_With_12)))
/-- steadfast/steadfastref01.With -/
@[go_sem] def fc_steadfastref01_With : Fc := ⟨4,
  .seq ((.reg (some [0, 1, 2, 3]) o_steadfastref01_With_0)) (
  .seq (.seq ((.reg (some [0, 1, 2, 3, 15]) o_steadfastref01_With_1)) (
  .cond (.t 15) (
    .seq ((.reg (some [8, 9]) o_steadfastref01_With_2)) (
    .ret)) (
    .skip))) (
  .seq (.seq ((.reg (some [0, 1, 2, 3, 10]) o_steadfastref01_With_3)) (
  .block 0 (
    .loop [0, 1, 2, 3, 10] b_steadfastref01_With_0))) (
  .seq (.seq ((.reg (some [0, 1, 2, 3, 11]) o_steadfastref01_With_8)) (
  .block 2 (
    .loop [0, 1, 2, 3, 11] b_steadfastref01_With_1))) (
  .seq ((.reg (some [8, 9]) o_steadfastref01_With_13)) (
  .ret))))),
  [.t 8, .t 9]⟩
def o_steadfastref01_Field_0 : List Ab.Op := [
  ⟨some 6, none, .mv (.k (.int .u64 0))⟩]
def o_steadfastref01_Field_1 : List Ab.Op := [
  ⟨some 7, none, .mv (.k (.int .u64 0))⟩]
def o_steadfastref01_Field_2 : List Ab.Op := [
  ⟨some 9, none, .mv (.t 1)⟩,
  ⟨some 10, none, .mv (.t 2)⟩,
  ⟨some 11, none, .call (.k (.fn f_steadfastref01_is [])) [(.t 9), (.t 10)]⟩,
  ⟨some 12, none, .un .not (.t 11)⟩]
def o_steadfastref01_Field_3 : List Ab.Op := [
  ⟨some 6, none, .mv (.k (.int .u64 0))⟩]
def o_steadfastref01_Field_4 : List Ab.Op := [
  ⟨some 8, none, .mv (.k (.int .i64 0))⟩]
def o_steadfastref01_Field_5 : List Ab.Op := [
  ⟨some 13, none, .mv (.t 8)⟩,
  ⟨some 14, none, .mv (.t 2)⟩,
  ⟨some 15, none, .bin .lss (.t 13) (.t 14)⟩]
def o_steadfastref01_Field_6 : List Ab.Op := [
  ⟨some 18, none, .mv (.t 7)⟩,
  ⟨some 19, none, .mv (.t 0)⟩,
  ⟨some 20, none, .mv (.t 1)⟩,
  ⟨some 21, none, .mv (.t 8)⟩,
  ⟨some 22, none, .bin .add (.t 20) (.t 21)⟩,
  ⟨some 23, none, .call (.k (.fn f_steadfastref01_bit [])) [(.t 19), (.t 22)]⟩,
  ⟨some 24, none, .mv (.t 8)⟩,
  ⟨some 25, none, .bin .shl (.t 23) (.t 24)⟩,
  ⟨some 26, none, .bin .or (.t 18) (.t 25)⟩,
  ⟨some 7, none, .mv (.t 26)⟩]
def o_steadfastref01_Field_7 : List Ab.Op := [
  ⟨some 16, none, .mv (.t 8)⟩,
  ⟨some 17, none, .bin .add (.t 16) (.k (.int .i64 1))⟩,
  ⟨some 8, none, .mv (.t 17)⟩]
def o_steadfastref01_Field_8 : List Ab.Op := [
  ⟨some 27, none, .mv (.t 7)⟩,
  ⟨some 6, none, .mv (.t 27)⟩]
def b_steadfastref01_Field_0 : C :=
    .seq (.seq ((.reg (some [0, 1, 2, 7, 8, 15]) o_steadfastref01_Field_5)) (
    .cond (.t 15) (
      .skip) (
      .exit 0))) (
    .seq (.block 1 (
      (.reg (some [0, 1, 2, 7, 8]) o_steadfastref01_Field_6))) (
    (.reg (some [0, 1, 2, 7, 8]) o_steadfastref01_Field_7)))
/-- steadfast/steadfastref01.Field -/
@[go_sem] def fc_steadfastref01_Field : Fc := ⟨3,
  .seq ((.reg (some [0, 1, 2]) o_steadfastref01_Field_0)) (
  .seq ((.reg (some [0, 1, 2, 7]) o_steadfastref01_Field_1)) (
  .seq (.seq ((.reg (some [0, 1, 2, 7, 12]) o_steadfastref01_Field_2)) (
  .cond (.t 12) (
    .seq ((.reg (some [6]) o_steadfastref01_Field_3)) (
    .ret)) (
    .skip))) (
  .seq (.seq ((.reg (some [0, 1, 2, 7, 8]) o_steadfastref01_Field_4)) (
  .block 0 (
    .loop [0, 1, 2, 7, 8] b_steadfastref01_Field_0))) (
  .seq ((.reg (some [6]) o_steadfastref01_Field_8)) (
  .ret))))),
  [.t 6]⟩
def o_nvm_New_0 : List Ab.Op := [
  ⟨some 2, none, .mv (.k .nilp)⟩,
  ⟨some 3, none, .mv (.k (.int .i64 0))⟩]
def o_nvm_New_1 : List Ab.Op := [
  ⟨some 4, none, .mv (.t 0)⟩,
  ⟨some 5, none, .bin .lss (.t 4) (.k (.int .i64 64))⟩,
  ⟨some 6, none, .mv (.t 5)⟩,
  ⟨some 7, some (6, false), .mv (.t 0)⟩,
  ⟨some 8, some (6, false), .bin .gtr (.t 7) (.k (.int .i64 1024))⟩,
  ⟨some 9, none, .pick (.t 6) (.k (.bool true)) (.t 8)⟩]
def o_nvm_New_2 : List Ab.Op := [
  ⟨some 2, none, .mv (.k .nilp)⟩,
  ⟨some 3, none, .mv (.k (.int .i64 1))⟩]
def o_nvm_New_3 : List Ab.Op := [
  ⟨some 10, none, .mv (.t 0)⟩,
  ⟨some 11, none, .mksl true 57 55 (.agg 55 [(.agg 24 (List.replicate 8 (.int .u64 0))), (.agg 24 (List.replicate 8 (.int .u64 0))), .nils, (.agg 50 (List.replicate 8 (.int .i64 0)))]) (.t 10) (.t 10)⟩,
  ⟨some 12, none, .bld (.agg 59 [.nils, (.bool false), (.bool false), (.int .i64 0), (.int .i64 0)]) [(0, (.t 11))]⟩,
  ⟨some 13, none, .box true (.t 12)⟩,
  ⟨some 2, none, .mv (.t 13)⟩,
  ⟨some 3, none, .mv (.k (.int .i64 0))⟩]
/-- steadfast/nvm.New -/
@[go_sem] def fc_nvm_New : Fc := ⟨1,
  .seq ((.reg (some [0]) o_nvm_New_0)) (
  .seq (.seq ((.reg (some [0, 9]) o_nvm_New_1)) (
  .cond (.t 9) (
    .seq ((.reg (some [2, 3]) o_nvm_New_2)) (
    .ret)) (
    .skip))) (
  .seq ((.reg (some [2, 3]) o_nvm_New_3)) (
  .ret))),
  [.t 2, .t 3]⟩
def o_frames_New_0 : List Ab.Op := [
  ⟨some 4, none, .mv (.k .nilp)⟩,
  ⟨some 5, none, .mv (.k (.int .i64 0))⟩]
def o_frames_New_1 : List Ab.Op := [
  ⟨some 8, none, .mv (.t 0)⟩,
  ⟨some 9, none, .bin .lss (.t 8) (.k (.int .i64 0))⟩,
  ⟨some 10, none, .mv (.t 9)⟩,
  ⟨some 11, some (10, false), .mv (.t 0)⟩,
  ⟨some 12, some (10, false), .mv (.t 1)⟩,
  ⟨some 13, some (10, false), .bin .gtr (.t 11) (.t 12)⟩,
  ⟨some 14, none, .pick (.t 10) (.k (.bool true)) (.t 13)⟩,
  ⟨some 15, none, .mv (.t 14)⟩,
  ⟨some 16, some (15, false), .mv (.t 1)⟩,
  ⟨some 17, some (15, false), .bin .gtr (.t 16) (.k (.int .i64 1024))⟩,
  ⟨some 18, none, .pick (.t 15) (.k (.bool true)) (.t 17)⟩]
def o_frames_New_2 : List Ab.Op := [
  ⟨some 4, none, .mv (.k .nilp)⟩,
  ⟨some 5, none, .mv (.k (.int .i64 1))⟩]
def o_frames_New_3 : List Ab.Op := [
  ⟨some 19, none, .mv (.t 0)⟩,
  ⟨some 20, none, .mv (.t 1)⟩,
  ⟨some 21, none, .bld (.agg 80 [(.int .i64 0), (.int .i64 0), (.agg 78 (List.replicate 16 (.int .u64 0))), (.agg 78 (List.replicate 16 (.int .u64 0)))]) [(0, (.t 19)), (1, (.t 20))]⟩,
  ⟨some 22, none, .box true (.t 21)⟩,
  ⟨some 6, none, .mv (.t 22)⟩]
def o_frames_New_4 : List Ab.Op := [
  ⟨some 23, none, .mv (.t 1)⟩,
  ⟨some 24, none, .mv (.t 0)⟩,
  ⟨some 25, none, .bin .sub (.t 23) (.t 24)⟩,
  ⟨some 26, none, .mv (.k (.int .i64 0))⟩]
def o_frames_New_5 : List Ab.Op := [
  ⟨some 27, none, .bin .lss (.t 26) (.t 25)⟩]
def o_frames_New_6 : List Ab.Op := [
  ⟨some 28, none, .mv (.t 26)⟩,
  ⟨some 7, none, .mv (.t 28)⟩]
def o_frames_New_7 : List Ab.Op := [
  ⟨some 29, none, .mv (.t 6)⟩,
  ⟨some 30, none, .nilc (.t 29)⟩,
  ⟨some 31, none, .fad 80 2 78 (.t 30)⟩,
  ⟨some 32, none, .mv (.t 0)⟩,
  ⟨some 33, none, .mv (.t 7)⟩,
  ⟨some 34, none, .bin .add (.t 32) (.t 33)⟩,
  ⟨some 35, none, .call (.k (.fn f_frames_set_turn [])) [(.t 31), (.t 34)]⟩]
def o_frames_New_8 : List Ab.Op := [
  ⟨some 36, none, .bin .add (.t 26) (.k (.int .i64 1))⟩,
  ⟨some 26, none, .mv (.t 36)⟩]
def o_frames_New_9 : List Ab.Op := [
  ⟨some 37, none, .mv (.t 6)⟩,
  ⟨some 4, none, .mv (.t 37)⟩,
  ⟨some 5, none, .mv (.k (.int .i64 0))⟩]
def b_frames_New_0 : C :=
    .seq ((.reg (some [0, 6, 25, 26, 27]) o_frames_New_5)) (
    .seq (.cond (.t 27) (
      .skip) (
      .exit 0)) (
    .seq (.block 1 (
      .seq ((.reg (some [0, 6, 7, 25, 26]) o_frames_New_6)) (
      (.reg (some [0, 6, 25, 26]) o_frames_New_7)))) (
    (.reg (some [0, 6, 25, 26]) o_frames_New_8))))
/-- steadfast/frames.New -/
@[go_sem] def fc_frames_New : Fc := ⟨2,
  .seq ((.reg (some [0, 1]) o_frames_New_0)) (
  .seq (.seq ((.reg (some [0, 1, 18]) o_frames_New_1)) (
  .cond (.t 18) (
    .seq ((.reg (some [4, 5]) o_frames_New_2)) (
    .ret)) (
    .skip))) (
  .seq ((.reg (some [0, 1, 6]) o_frames_New_3)) (
  .seq (.seq ((.reg (some [0, 6, 25, 26]) o_frames_New_4)) (
  .block 0 (
    .loop [0, 6, 25, 26] b_frames_New_0))) (
  .seq ((.reg (some [4, 5]) o_frames_New_9)) (
  .ret))))),
  [.t 4, .t 5]⟩
def o_nvm_Memory_Lines_0 : List Ab.Op := [
  ⟨some 2, none, .mv (.k (.int .i64 0))⟩]
def o_nvm_Memory_Lines_1 : List Ab.Op := [
  ⟨some 3, none, .mv (.t 0)⟩,
  ⟨some 4, none, .nilc (.t 3)⟩,
  ⟨some 5, none, .fad 59 0 1 (.t 4)⟩,
  ⟨some 6, none, .ld 1 (.t 5)⟩,
  ⟨some 7, none, .len false (.t 6)⟩,
  ⟨some 2, none, .mv (.t 7)⟩]
/-- (*steadfast/nvm.Memory).Lines -/
@[go_sem] def fc_nvm_Memory_Lines : Fc := ⟨1,
  .seq ((.reg (some [0]) o_nvm_Memory_Lines_0)) (
  .seq ((.reg (some [2]) o_nvm_Memory_Lines_1)) (
  .ret)),
  [.t 2]⟩
def o_frames_Frames_Take_0 : List Ab.Op := [
  ⟨some 4, none, .mv (.k (.int .i64 0))⟩]
def o_frames_Frames_Take_1 : List Ab.Op := [
  ⟨some 6, none, .mv (.t 0)⟩,
  ⟨some 7, none, .mv (.t 1)⟩,
  ⟨some 8, none, .call (.k (.fn f_frames_Frames_in [])) [(.t 6), (.t 7), (.k (.int .i64 0))]⟩,
  ⟨some 5, none, .mv (.t 8)⟩]
def o_frames_Frames_Take_2 : List Ab.Op := [
  ⟨some 9, none, .mv (.t 5)⟩,
  ⟨some 10, none, .bin .eql (.t 9) (.k (.int .i64 0))⟩]
def o_frames_Frames_Take_3 : List Ab.Op := [
  ⟨some 11, none, .mv (.t 0)⟩,
  ⟨some 12, none, .nilc (.t 11)⟩,
  ⟨some 13, none, .fad 80 2 78 (.t 12)⟩,
  ⟨some 14, none, .mv (.t 1)⟩,
  ⟨some 15, none, .call (.k (.fn f_frames_set_turn [])) [(.t 13), (.t 14)]⟩]
def o_frames_Frames_Take_4 : List Ab.Op := [
  ⟨some 16, none, .mv (.t 5)⟩,
  ⟨some 4, none, .mv (.t 16)⟩]
/-- (*steadfast/frames.Frames).Take -/
@[go_sem] def fc_frames_Frames_Take : Fc := ⟨2,
  .seq ((.reg (some [0, 1]) o_frames_Frames_Take_0)) (
  .seq ((.reg (some [0, 1, 5]) o_frames_Frames_Take_1)) (
  .seq (.seq ((.reg (some [0, 1, 5, 10]) o_frames_Frames_Take_2)) (
  .cond (.t 10) (
    (.reg (some [5]) o_frames_Frames_Take_3)) (
    .skip))) (
  .seq ((.reg (some [4]) o_frames_Frames_Take_4)) (
  .ret)))),
  [.t 4]⟩
def o_objects_Store_share_0 : List Ab.Op := [
  ⟨some 2, none, .mv (.t 0)⟩,
  ⟨some 3, none, .bld (.agg 82 (List.replicate 1024 (.bool false))) []⟩,
  ⟨some 4, none, .nilc (.t 2)⟩,
  ⟨some 5, none, .fad 43 7 82 (.t 4)⟩,
  ⟨none, none, .st 82 (.t 5) (.t 3)⟩]
def o_objects_Store_share_1 : List Ab.Op := [
  ⟨some 6, none, .mv (.t 0)⟩,
  ⟨some 7, none, .nilc (.t 6)⟩,
  ⟨some 8, none, .fad 43 7 82 (.t 7)⟩,
  ⟨some 9, none, .mv (.t 0)⟩,
  ⟨some 10, none, .nilc (.t 9)⟩,
  ⟨some 11, none, .fad 43 3 48 (.t 10)⟩,
  ⟨some 12, none, .ld 48 (.t 11)⟩,
  ⟨some 13, none, .call (.k (.fn f_objects_lines_add [])) [(.t 8), (.t 12)]⟩]
def o_objects_Store_share_2 : List Ab.Op := [
  ⟨some 14, none, .mv (.t 0)⟩,
  ⟨some 15, none, .nilc (.t 14)⟩,
  ⟨some 16, none, .fad 43 6 0 (.t 15)⟩,
  ⟨some 17, none, .ld 0 (.t 16)⟩]
def o_objects_Store_share_3 : List Ab.Op := [
  ⟨some 18, none, .mv (.t 0)⟩,
  ⟨some 19, none, .nilc (.t 18)⟩,
  ⟨some 20, none, .fad 43 7 82 (.t 19)⟩,
  ⟨some 21, none, .mv (.t 0)⟩,
  ⟨some 22, none, .nilc (.t 21)⟩,
  ⟨some 23, none, .fad 43 5 48 (.t 22)⟩,
  ⟨some 24, none, .ld 48 (.t 23)⟩,
  ⟨some 25, none, .call (.k (.fn f_objects_lines_add [])) [(.t 20), (.t 24)]⟩]
/-- (*steadfast/objects.Store).share -/
@[go_sem] def fc_objects_Store_share : Fc := ⟨1,
  .seq ((.reg (some [0]) o_objects_Store_share_0)) (
  .seq ((.regd (some [0]) o_objects_Store_share_1)) (
  .seq ((.reg (some [0, 17]) o_objects_Store_share_2)) (
  .cond (.t 17) (
    (.regd (some []) o_objects_Store_share_3)) (
    .skip)))),
  []⟩
def o_steadfastref04_New_0 : List Ab.Op := [
  ⟨some 4, none, .mv (.k .nilp)⟩,
  ⟨some 5, none, .mv (.k (.int .i64 0))⟩]
def o_steadfastref04_New_1 : List Ab.Op := [
  ⟨some 6, none, .mv (.t 0)⟩,
  ⟨some 7, none, .bin .lss (.t 6) (.k (.int .i64 0))⟩,
  ⟨some 8, none, .mv (.t 7)⟩,
  ⟨some 9, some (8, false), .mv (.t 0)⟩,
  ⟨some 10, some (8, false), .mv (.t 1)⟩,
  ⟨some 11, some (8, false), .bin .gtr (.t 9) (.t 10)⟩,
  ⟨some 12, none, .pick (.t 8) (.k (.bool true)) (.t 11)⟩,
  ⟨some 13, none, .mv (.t 12)⟩,
  ⟨some 14, some (13, false), .mv (.t 1)⟩,
  ⟨some 15, some (13, false), .bin .gtr (.t 14) (.k (.int .i64 1024))⟩,
  ⟨some 16, none, .pick (.t 13) (.k (.bool true)) (.t 15)⟩]
def o_steadfastref04_New_2 : List Ab.Op := [
  ⟨some 4, none, .mv (.k .nilp)⟩,
  ⟨some 5, none, .mv (.k (.int .i64 1))⟩]
def o_steadfastref04_New_3 : List Ab.Op := [
  ⟨some 17, none, .mv (.t 0)⟩,
  ⟨some 18, none, .mv (.t 1)⟩,
  ⟨some 19, none, .mv (.t 0)⟩,
  ⟨some 20, none, .bin .sub (.t 18) (.t 19)⟩,
  ⟨some 21, none, .mksl true 38 10 (.int .i64 0) (.t 20) (.t 20)⟩,
  ⟨some 22, none, .bld (.agg 21 [(.int .i64 0), .nils]) [(0, (.t 17)), (1, (.t 21))]⟩,
  ⟨some 23, none, .box true (.t 22)⟩,
  ⟨some 4, none, .mv (.t 23)⟩,
  ⟨some 5, none, .mv (.k (.int .i64 0))⟩]
/-- steadfast/steadfastref04.New -/
@[go_sem] def fc_steadfastref04_New : Fc := ⟨2,
  .seq ((.reg (some [0, 1]) o_steadfastref04_New_0)) (
  .seq (.seq ((.reg (some [0, 1, 16]) o_steadfastref04_New_1)) (
  .cond (.t 16) (
    .seq ((.reg (some [4, 5]) o_steadfastref04_New_2)) (
    .ret)) (
    .skip))) (
  .seq ((.reg (some [4, 5]) o_steadfastref04_New_3)) (
  .ret))),
  [.t 4, .t 5]⟩
def o_steadfastref10_lines_0 : List Ab.Op := [
  ⟨some 1, none, .box false (.t 0)⟩,
  ⟨some 2, none, .mv (.k .nils)⟩]
def o_steadfastref10_lines_1 : List Ab.Op := [
  ⟨some 3, none, .mv (.k .nils)⟩]
def o_steadfastref10_lines_2 : List Ab.Op := [
  ⟨some 4, none, .mv (.k (.int .i64 0))⟩]
def o_steadfastref10_lines_3 : List Ab.Op := [
  ⟨some 5, none, .mv (.t 4)⟩,
  ⟨some 6, none, .bin .lss (.t 5) (.k (.int .i64 49))⟩]
def o_steadfastref10_lines_4 : List Ab.Op := [
  ⟨some 9, none, .mv (.t 4)⟩,
  ⟨some 10, none, .iad 48 49 42 (.t 1) (.t 9)⟩,
  ⟨some 11, none, .fad 42 0 10 (.t 10)⟩,
  ⟨some 12, none, .ld 10 (.t 11)⟩,
  ⟨some 13, none, .bin .neq (.t 12) (.k (.int .i64 0))⟩]
def o_steadfastref10_lines_5 : List Ab.Op := [
  ⟨some 14, none, .mv (.t 3)⟩,
  ⟨some 15, none, .mv (.t 4)⟩,
  ⟨some 16, none, .iad 48 49 42 (.t 1) (.t 15)⟩,
  ⟨some 17, none, .fad 42 2 10 (.t 16)⟩,
  ⟨some 18, none, .ld 10 (.t 17)⟩,
  ⟨some 19, none, .bsl false 38 10 (.int .i64 0) 1 [(0, (.t 18))]⟩,
  ⟨some 20, none, .app true 38 10 (.t 14) (.t 19)⟩,
  ⟨some 3, none, .mv (.t 20)⟩]
def o_steadfastref10_lines_6 : List Ab.Op := [
  ⟨some 7, none, .mv (.t 4)⟩,
  ⟨some 8, none, .bin .add (.t 7) (.k (.int .i64 1))⟩,
  ⟨some 4, none, .mv (.t 8)⟩]
def o_steadfastref10_lines_7 : List Ab.Op := [
  ⟨some 21, none, .mv (.t 3)⟩,
  ⟨some 2, none, .mv (.t 21)⟩]
def b_steadfastref10_lines_0 : C :=
    .seq (.seq ((.reg (some [1, 3, 4, 6]) o_steadfastref10_lines_3)) (
    .cond (.t 6) (
      .skip) (
      .exit 0))) (
    .seq (.block 1 (
      .seq ((.reg (some [1, 3, 4, 13]) o_steadfastref10_lines_4)) (
      .cond (.t 13) (
        (.reg (some [1, 3, 4]) o_steadfastref10_lines_5)) (
        .skip)))) (
    (.reg (some [1, 3, 4]) o_steadfastref10_lines_6)))
/-- steadfast/steadfastref10.lines -/
@[go_sem] def fc_steadfastref10_lines : Fc := ⟨1,
  .seq ((.reg (some [1]) o_steadfastref10_lines_0)) (
  .seq ((.reg (some [1, 3]) o_steadfastref10_lines_1)) (
  .seq (.seq ((.reg (some [1, 3, 4]) o_steadfastref10_lines_2)) (
  .block 0 (
    .loop [1, 3, 4] b_steadfastref10_lines_0))) (
  .seq ((.reg (some [2]) o_steadfastref10_lines_7)) (
  .ret)))),
  [.t 2]⟩
def o_steadfastref04_Frames_Take_0 : List Ab.Op := [
  ⟨some 4, none, .mv (.k (.int .i64 0))⟩]
def o_steadfastref04_Frames_Take_1 : List Ab.Op := [
  ⟨some 5, none, .mv (.t 0)⟩,
  ⟨some 6, none, .mv (.t 1)⟩,
  ⟨some 7, none, .call (.k (.fn f_steadfastref04_Frames_turn [])) [(.t 5), (.t 6), (.k (.int .i64 0)), (.k (.int .i64 1))]⟩,
  ⟨some 4, none, .mv (.t 7)⟩]
/-- (*steadfast/steadfastref04.Frames).Take -/
@[go_sem] def fc_steadfastref04_Frames_Take : Fc := ⟨2,
  .seq ((.reg (some [0, 1]) o_steadfastref04_Frames_Take_0)) (
  .seq ((.reg (some [4]) o_steadfastref04_Frames_Take_1)) (
  .ret)),
  [.t 4]⟩
def o_caps_May_0 : List Ab.Op := [
  ⟨some 6, none, .mv (.k (.int .i64 0))⟩]
def o_caps_May_1 : List Ab.Op := [
  ⟨some 10, none, .mv (.t 0)⟩,
  ⟨some 11, none, .call (.k (.fn f_caps_Of [])) [(.t 10)]⟩,
  ⟨some 9, none, .mv (.t 11)⟩,
  ⟨some 12, none, .ext (.t 9) 0⟩,
  ⟨some 13, none, .ext (.t 9) 1⟩,
  ⟨some 7, none, .alloc false (.agg 40 [(.int .i64 0), (.int .i64 0), (.int .i64 0), (.int .i64 0), (.int .i64 0)])⟩,
  ⟨none, none, .st 40 (.t 7) (.t 12)⟩,
  ⟨some 8, none, .mv (.t 13)⟩]
def o_caps_May_2 : List Ab.Op := [
  ⟨some 15, none, .mv (.t 8)⟩,
  ⟨some 16, none, .un .not (.t 15)⟩,
  ⟨some 14, none, .mv (.t 16)⟩]
def o_caps_May_3 : List Ab.Op := [
  ⟨some 17, none, .fad 40 0 10 (.t 7)⟩,
  ⟨some 18, none, .ld 10 (.t 17)⟩,
  ⟨some 19, none, .mv (.t 1)⟩,
  ⟨some 20, none, .bin .neq (.t 18) (.t 19)⟩,
  ⟨some 14, none, .mv (.t 20)⟩]
def o_caps_May_4 : List Ab.Op := [
  ⟨some 6, none, .mv (.k (.int .i64 31))⟩]
def o_caps_May_5 : List Ab.Op := [
  ⟨some 22, none, .mv (.t 2)⟩,
  ⟨some 23, none, .fad 40 1 10 (.t 7)⟩,
  ⟨some 24, none, .ld 10 (.t 23)⟩,
  ⟨some 25, none, .bin .andNot (.t 22) (.t 24)⟩,
  ⟨some 26, none, .bin .neq (.t 25) (.k (.int .i64 0))⟩,
  ⟨some 21, none, .mv (.t 26)⟩]
def o_caps_May_6 : List Ab.Op := [
  ⟨some 6, none, .mv (.k (.int .i64 32))⟩]
def o_caps_May_7 : List Ab.Op := [
  ⟨some 6, none, .mv (.k (.int .i64 0))⟩]
/-- steadfast/caps.May -/
@[go_sem] def fc_caps_May : Fc := ⟨3,
  .seq ((.reg (some [0, 1, 2]) o_caps_May_0)) (
  .seq ((.reg (some [1, 2, 7, 8]) o_caps_May_1)) (
  .seq (.block 0 (
    .seq (.seq ((.reg (some [1, 2, 7, 14]) o_caps_May_2)) (
    .cond (.t 14) (
      .skip) (
      (.reg (some [2, 7, 14]) o_caps_May_3)))) (
    .cond (.t 14) (
      .seq ((.reg (some [6]) o_caps_May_4)) (
      .ret)) (
      .seq ((.reg (some [21]) o_caps_May_5)) (
      .cond (.t 21) (
        .seq ((.reg (some [6]) o_caps_May_6)) (
        .ret)) (
        .skip)))))) (
  .seq ((.reg (some [6]) o_caps_May_7)) (
  .ret)))),
  [.t 6]⟩
def o_entry_Open_0 : List Ab.Op := [
  ⟨some 1, none, .box false (.t 0)⟩,
  ⟨some 2, none, .mv (.k (.bool false))⟩]
def o_entry_Open_1 : List Ab.Op := [
  ⟨some 3, none, .fad 42 0 10 (.t 1)⟩,
  ⟨some 4, none, .ld 10 (.t 3)⟩,
  ⟨some 5, none, .bin .eql (.t 4) (.k (.int .i64 0))⟩,
  ⟨some 6, none, .mv (.t 5)⟩,
  ⟨some 7, some (6, true), .fad 42 1 10 (.t 1)⟩,
  ⟨some 8, some (6, true), .ld 10 (.t 7)⟩,
  ⟨some 9, some (6, true), .bin .lss (.t 8) (.k (.int .i64 16777215))⟩,
  ⟨some 10, none, .pick (.t 6) (.t 9) (.k (.bool false))⟩,
  ⟨some 2, none, .mv (.t 10)⟩]
/-- steadfast/entry.Open -/
@[go_sem] def fc_entry_Open : Fc := ⟨1,
  .seq ((.reg (some [1]) o_entry_Open_0)) (
  .seq ((.reg (some [2]) o_entry_Open_1)) (
  .ret)),
  [.t 2]⟩
def o_steadfastref08_Names_0 : List Ab.Op := [
  ⟨some 3, none, .box false (.t 0)⟩,
  ⟨some 6, none, .mv (.k (.int .i64 0))⟩]
def o_steadfastref08_Names_1 : List Ab.Op := [
  ⟨some 10, none, .mv (.t 2)⟩,
  ⟨some 11, none, .call (.k (.fn f_steadfastref07_Of [])) [(.t 10)]⟩,
  ⟨some 9, none, .mv (.t 11)⟩,
  ⟨some 12, none, .ext (.t 9) 0⟩,
  ⟨some 13, none, .ext (.t 9) 1⟩,
  ⟨some 7, none, .alloc false (.agg 40 [(.int .i64 0), (.int .i64 0), (.int .i64 0), (.int .i64 0), (.int .i64 0)])⟩,
  ⟨none, none, .st 40 (.t 7) (.t 12)⟩,
  ⟨some 8, none, .mv (.t 13)⟩]
def o_steadfastref08_Names_2 : List Ab.Op := [
  ⟨some 14, none, .mv (.t 8)⟩,
  ⟨some 15, none, .un .not (.t 14)⟩,
  ⟨some 16, none, .mv (.t 15)⟩,
  ⟨some 17, some (16, false), .fad 40 0 10 (.t 7)⟩,
  ⟨some 18, some (16, false), .ld 10 (.t 17)⟩,
  ⟨some 19, some (16, false), .bin .eql (.t 18) (.k (.int .i64 5))⟩,
  ⟨some 20, none, .pick (.t 16) (.k (.bool true)) (.t 19)⟩,
  ⟨some 21, none, .mv (.t 20)⟩,
  ⟨some 22, some (21, false), .fad 40 0 10 (.t 7)⟩,
  ⟨some 23, some (21, false), .ld 10 (.t 22)⟩,
  ⟨some 24, some (21, false), .bin .eql (.t 23) (.k (.int .i64 6))⟩,
  ⟨some 25, none, .pick (.t 21) (.k (.bool true)) (.t 24)⟩]
def o_steadfastref08_Names_3 : List Ab.Op := [
  ⟨some 6, none, .mv (.k (.int .i64 31))⟩]
def o_steadfastref08_Names_4 : List Ab.Op := [
  ⟨some 26, none, .fad 40 2 10 (.t 7)⟩,
  ⟨some 27, none, .ld 10 (.t 26)⟩,
  ⟨some 28, none, .mv (.t 1)⟩,
  ⟨some 29, none, .bin .neq (.t 27) (.t 28)⟩]
def o_steadfastref08_Names_5 : List Ab.Op := [
  ⟨some 6, none, .mv (.k (.int .i64 30))⟩]
def o_steadfastref08_Names_6 : List Ab.Op := [
  ⟨some 30, none, .fad 40 3 10 (.t 7)⟩,
  ⟨some 31, none, .ld 10 (.t 30)⟩,
  ⟨some 32, none, .fad 42 1 10 (.t 3)⟩,
  ⟨some 33, none, .ld 10 (.t 32)⟩,
  ⟨some 34, none, .bin .neq (.t 31) (.t 33)⟩]
def o_steadfastref08_Names_7 : List Ab.Op := [
  ⟨some 6, none, .mv (.k (.int .i64 33))⟩]
def o_steadfastref08_Names_8 : List Ab.Op := [
  ⟨some 35, none, .fad 42 0 10 (.t 3)⟩,
  ⟨some 36, none, .ld 10 (.t 35)⟩,
  ⟨some 37, none, .bin .eql (.t 36) (.k (.int .i64 0))⟩]
def o_steadfastref08_Names_9 : List Ab.Op := [
  ⟨some 6, none, .mv (.k (.int .i64 30))⟩]
def o_steadfastref08_Names_10 : List Ab.Op := [
  ⟨some 38, none, .fad 40 0 10 (.t 7)⟩,
  ⟨some 39, none, .ld 10 (.t 38)⟩,
  ⟨some 40, none, .fad 42 0 10 (.t 3)⟩,
  ⟨some 41, none, .ld 10 (.t 40)⟩,
  ⟨some 42, none, .bin .neq (.t 39) (.t 41)⟩]
def o_steadfastref08_Names_11 : List Ab.Op := [
  ⟨some 6, none, .mv (.k (.int .i64 31))⟩]
def o_steadfastref08_Names_12 : List Ab.Op := [
  ⟨some 6, none, .mv (.k (.int .i64 0))⟩]
/-- steadfast/steadfastref08.Names -/
@[go_sem] def fc_steadfastref08_Names : Fc := ⟨3,
  .seq ((.reg (some [1, 2, 3]) o_steadfastref08_Names_0)) (
  .seq ((.reg (some [1, 3, 7, 8]) o_steadfastref08_Names_1)) (
  .seq (.seq ((.reg (some [1, 3, 7, 25]) o_steadfastref08_Names_2)) (
  .cond (.t 25) (
    .seq ((.reg (some [6]) o_steadfastref08_Names_3)) (
    .ret)) (
    .skip))) (
  .seq (.seq ((.reg (some [3, 7, 29]) o_steadfastref08_Names_4)) (
  .cond (.t 29) (
    .seq ((.reg (some [6]) o_steadfastref08_Names_5)) (
    .ret)) (
    .skip))) (
  .seq (.seq ((.reg (some [3, 7, 34]) o_steadfastref08_Names_6)) (
  .cond (.t 34) (
    .seq ((.reg (some [6]) o_steadfastref08_Names_7)) (
    .ret)) (
    .skip))) (
  .seq (.seq ((.reg (some [3, 7, 37]) o_steadfastref08_Names_8)) (
  .cond (.t 37) (
    .seq ((.reg (some [6]) o_steadfastref08_Names_9)) (
    .ret)) (
    .skip))) (
  .seq (.seq ((.reg (some [42]) o_steadfastref08_Names_10)) (
  .cond (.t 42) (
    .seq ((.reg (some [6]) o_steadfastref08_Names_11)) (
    .ret)) (
    .skip))) (
  .seq ((.reg (some [6]) o_steadfastref08_Names_12)) (
  .ret)))))))),
  [.t 6]⟩
def o_steadfastref10_Store_is_0 : List Ab.Op := [
  ⟨some 4, none, .mv (.k (.int .i64 0))⟩]
def o_steadfastref10_Store_is_1 : List Ab.Op := [
  ⟨some 5, none, .mv (.t 1)⟩,
  ⟨some 6, none, .bin .lss (.t 5) (.k (.int .i64 0))⟩,
  ⟨some 7, none, .mv (.t 6)⟩,
  ⟨some 8, some (7, false), .mv (.t 1)⟩,
  ⟨some 9, some (7, false), .bin .geq (.t 8) (.k (.int .i64 49))⟩,
  ⟨some 10, none, .pick (.t 7) (.k (.bool true)) (.t 9)⟩]
def o_steadfastref10_Store_is_2 : List Ab.Op := [
  ⟨some 4, none, .mv (.k (.int .i64 1))⟩]
def o_steadfastref10_Store_is_3 : List Ab.Op := [
  ⟨some 11, none, .mv (.t 0)⟩,
  ⟨some 12, none, .mv (.t 1)⟩,
  ⟨some 13, none, .nilc (.t 11)⟩,
  ⟨some 14, none, .fad 31 2 48 (.t 13)⟩,
  ⟨some 15, none, .iad 48 49 42 (.t 14) (.t 12)⟩,
  ⟨some 16, none, .fad 42 0 10 (.t 15)⟩,
  ⟨some 17, none, .ld 10 (.t 16)⟩,
  ⟨some 18, none, .bin .eql (.t 17) (.k (.int .i64 0))⟩]
def o_steadfastref10_Store_is_4 : List Ab.Op := [
  ⟨some 4, none, .mv (.k (.int .i64 30))⟩]
def o_steadfastref10_Store_is_5 : List Ab.Op := [
  ⟨some 4, none, .mv (.k (.int .i64 0))⟩]
/-- (*steadfast/steadfastref10.Store).is -/
@[go_sem] def fc_steadfastref10_Store_is : Fc := ⟨2,
  .seq ((.reg (some [0, 1]) o_steadfastref10_Store_is_0)) (
  .seq (.seq ((.reg (some [0, 1, 10]) o_steadfastref10_Store_is_1)) (
  .cond (.t 10) (
    .seq ((.reg (some [4]) o_steadfastref10_Store_is_2)) (
    .ret)) (
    .skip))) (
  .seq (.seq ((.reg (some [18]) o_steadfastref10_Store_is_3)) (
  .cond (.t 18) (
    .seq ((.reg (some [4]) o_steadfastref10_Store_is_4)) (
    .ret)) (
    .skip))) (
  .seq ((.reg (some [4]) o_steadfastref10_Store_is_5)) (
  .ret)))),
  [.t 4]⟩
def o_steadfastref03_Memory_Load_0 : List Ab.Op := [
  ⟨some 4, none, .alloc false (.agg 24 (List.replicate 8 (.int .u64 0)))⟩,
  ⟨some 5, none, .mv (.k (.int .i64 0))⟩]
def o_steadfastref03_Memory_Load_1 : List Ab.Op := [
  ⟨some 6, none, .mv (.t 0)⟩,
  ⟨some 7, none, .mv (.t 1)⟩,
  ⟨some 8, none, .call (.k (.fn f_steadfastref03_Memory_is [])) [(.t 6), (.t 7)]⟩,
  ⟨some 9, none, .un .not (.t 8)⟩]
def o_steadfastref03_Memory_Load_2 : List Ab.Op := [
  ⟨some 10, none, .bld (.agg 24 (List.replicate 8 (.int .u64 0))) []⟩,
  ⟨none, none, .st 24 (.t 4) (.t 10)⟩,
  ⟨some 5, none, .mv (.k (.int .i64 1))⟩]
def o_steadfastref03_Memory_Load_3 : List Ab.Op := [
  ⟨some 11, none, .mv (.t 0)⟩,
  ⟨some 12, none, .nilc (.t 11)⟩,
  ⟨some 13, none, .fad 33 2 0 (.t 12)⟩,
  ⟨some 14, none, .ld 0 (.t 13)⟩]
def o_steadfastref03_Memory_Load_4 : List Ab.Op := [
  ⟨some 15, none, .bld (.agg 24 (List.replicate 8 (.int .u64 0))) []⟩,
  ⟨none, none, .st 24 (.t 4) (.t 15)⟩,
  ⟨some 5, none, .mv (.k (.int .i64 4))⟩]
def o_steadfastref03_Memory_Load_5 : List Ab.Op := [
  ⟨some 16, none, .mv (.t 0)⟩,
  ⟨some 17, none, .mv (.t 1)⟩,
  ⟨some 18, none, .mv (.t 0)⟩,
  ⟨some 19, none, .nilc (.t 18)⟩,
  ⟨some 20, none, .fad 33 1 1 (.t 19)⟩,
  ⟨some 21, none, .ld 1 (.t 20)⟩,
  ⟨some 22, none, .mv (.t 1)⟩,
  ⟨some 23, none, .sad 1 (.t 21) (.t 22)⟩,
  ⟨some 24, none, .ld 1 (.t 23)⟩,
  ⟨some 25, none, .len false (.t 24)⟩,
  ⟨some 26, none, .call (.k (.fn f_steadfastref03_Memory_has [])) [(.t 16), (.t 17), (.t 25)]⟩,
  ⟨none, none, .st 24 (.t 4) (.t 26)⟩,
  ⟨some 5, none, .mv (.k (.int .i64 0))⟩]
/-- (*steadfast/steadfastref03.Memory).Load -/
@[go_sem] def fc_steadfastref03_Memory_Load : Fc := ⟨2,
  .seq ((.reg (some [0, 1, 4]) o_steadfastref03_Memory_Load_0)) (
  .seq (.seq ((.reg (some [0, 1, 4, 9]) o_steadfastref03_Memory_Load_1)) (
  .cond (.t 9) (
    .seq ((.reg (some [4, 5]) o_steadfastref03_Memory_Load_2)) (
    .ret)) (
    .skip))) (
  .seq (.seq ((.reg (some [0, 1, 4, 14]) o_steadfastref03_Memory_Load_3)) (
  .cond (.t 14) (
    .seq ((.reg (some [4, 5]) o_steadfastref03_Memory_Load_4)) (
    .ret)) (
    .skip))) (
  .seq ((.reg (some [4, 5]) o_steadfastref03_Memory_Load_5)) (
  .ret)))),
  [.cell 4 24, .t 5]⟩
def o_nvm_Memory_at_0 : List Ab.Op := [
  ⟨some 4, none, .mv (.k .nilp)⟩]
def o_nvm_Memory_at_1 : List Ab.Op := [
  ⟨some 5, none, .mv (.t 1)⟩,
  ⟨some 6, none, .bin .lss (.t 5) (.k (.int .i64 0))⟩,
  ⟨some 7, none, .mv (.t 6)⟩,
  ⟨some 8, some (7, false), .mv (.t 1)⟩,
  ⟨some 9, some (7, false), .mv (.t 0)⟩,
  ⟨some 10, some (7, false), .nilc (.t 9)⟩,
  ⟨some 11, some (7, false), .fad 59 0 1 (.t 10)⟩,
  ⟨some 12, some (7, false), .ld 1 (.t 11)⟩,
  ⟨some 13, some (7, false), .len false (.t 12)⟩,
  ⟨some 14, some (7, false), .bin .geq (.t 8) (.t 13)⟩,
  ⟨some 15, none, .pick (.t 7) (.k (.bool true)) (.t 14)⟩]
def o_nvm_Memory_at_2 : List Ab.Op := [
  ⟨some 4, none, .mv (.k .nilp)⟩]
def o_nvm_Memory_at_3 : List Ab.Op := [
  ⟨some 16, none, .mv (.t 0)⟩,
  ⟨some 17, none, .nilc (.t 16)⟩,
  ⟨some 18, none, .fad 59 0 1 (.t 17)⟩,
  ⟨some 19, none, .ld 1 (.t 18)⟩,
  ⟨some 20, none, .mv (.t 1)⟩,
  ⟨some 21, none, .sad 55 (.t 19) (.t 20)⟩,
  ⟨some 4, none, .mv (.t 21)⟩]
/-- (*steadfast/nvm.Memory).at -/
@[go_sem] def fc_nvm_Memory_at : Fc := ⟨2,
  .seq ((.reg (some [0, 1]) o_nvm_Memory_at_0)) (
  .seq (.seq ((.reg (some [0, 1, 15]) o_nvm_Memory_at_1)) (
  .cond (.t 15) (
    .seq ((.reg (some [4]) o_nvm_Memory_at_2)) (
    .ret)) (
    .skip))) (
  .seq ((.reg (some [4]) o_nvm_Memory_at_3)) (
  .ret))),
  [.t 4]⟩
def o_frames_Frames_in_0 : List Ab.Op := [
  ⟨some 6, none, .mv (.k (.int .i64 0))⟩]
def o_frames_Frames_in_1 : List Ab.Op := [
  ⟨some 7, none, .mv (.t 0)⟩,
  ⟨some 8, none, .mv (.t 1)⟩,
  ⟨some 9, none, .call (.k (.fn f_frames_Frames_State [])) [(.t 7), (.t 8)]⟩]
def o_frames_Frames_in_2 : List Ab.Op := [
  ⟨some 11, none, .bin .eql (.t 9) (.k (.int .i64 (-1)))⟩,
  ⟨some 10, none, .mv (.t 11)⟩]
def o_frames_Frames_in_3 : List Ab.Op := [
  ⟨some 6, none, .mv (.k (.int .i64 1))⟩]
def o_frames_Frames_in_4 : List Ab.Op := [
  ⟨some 13, none, .mv (.t 2)⟩,
  ⟨some 14, none, .bin .eql (.t 9) (.t 13)⟩,
  ⟨some 12, none, .mv (.t 14)⟩]
def o_frames_Frames_in_5 : List Ab.Op := [
  ⟨some 6, none, .mv (.k (.int .i64 0))⟩]
def o_frames_Frames_in_6 : List Ab.Op := [
  ⟨some 6, none, .mv (.k (.int .i64 3))⟩]
/-- (*steadfast/frames.Frames).in -/
@[go_sem] def fc_frames_Frames_in : Fc := ⟨3,
  .seq ((.reg (some [0, 1, 2]) o_frames_Frames_in_0)) (
  .seq (.seq ((.reg (some [2, 9]) o_frames_Frames_in_1)) (
  .block 0 (
    .seq ((.reg (some [2, 9, 10]) o_frames_Frames_in_2)) (
    .cond (.t 10) (
      .seq ((.reg (some [6]) o_frames_Frames_in_3)) (
      .ret)) (
      .seq ((.reg (some [12]) o_frames_Frames_in_4)) (
      .cond (.t 12) (
        .seq ((.reg (some [6]) o_frames_Frames_in_5)) (
        .ret)) (
        .skip))))))) (
  .seq ((.reg (some [6]) o_frames_Frames_in_6)) (
  .ret))),
  [.t 6]⟩
def o_frames_set_turn_0 : List Ab.Op := [
  ⟨some 4, none, .mv (.t 0)⟩,
  ⟨some 5, none, .mv (.t 1)⟩,
  ⟨some 6, none, .bin .quo (.t 5) (.k (.int .i64 64))⟩,
  ⟨some 7, none, .nilc (.t 4)⟩,
  ⟨some 8, none, .iad 78 16 18 (.t 7) (.t 6)⟩,
  ⟨some 9, none, .ld 18 (.t 8)⟩,
  ⟨some 10, none, .mv (.t 1)⟩,
  ⟨some 11, none, .bin .rem (.t 10) (.k (.int .i64 64))⟩,
  ⟨some 12, none, .bin .shl (.k (.int .u64 1)) (.t 11)⟩,
  ⟨some 13, none, .bin .xor (.t 9) (.t 12)⟩,
  ⟨some 14, none, .nilc (.t 4)⟩,
  ⟨some 15, none, .iad 78 16 18 (.t 14) (.t 6)⟩,
  ⟨none, none, .st 18 (.t 15) (.t 13)⟩]
/-- (*steadfast/frames.set).turn -/
@[go_sem] def fc_frames_set_turn : Fc := ⟨2,
  (.regd (some []) o_frames_set_turn_0),
  []⟩
def o_steadfastref01_is_0 : List Ab.Op := [
  ⟨some 4, none, .mv (.k (.bool false))⟩]
def o_steadfastref01_is_1 : List Ab.Op := [
  ⟨some 5, none, .mv (.t 0)⟩,
  ⟨some 6, none, .bin .geq (.t 5) (.k (.int .i64 0))⟩,
  ⟨some 7, none, .mv (.t 6)⟩,
  ⟨some 8, some (7, true), .mv (.t 0)⟩,
  ⟨some 9, some (7, true), .bin .leq (.t 8) (.k (.int .i64 63))⟩,
  ⟨some 10, none, .pick (.t 7) (.t 9) (.k (.bool false))⟩,
  ⟨some 11, none, .mv (.t 10)⟩,
  ⟨some 12, some (11, true), .mv (.t 1)⟩,
  ⟨some 13, some (11, true), .bin .geq (.t 12) (.k (.int .i64 1))⟩,
  ⟨some 14, none, .pick (.t 11) (.t 13) (.k (.bool false))⟩,
  ⟨some 15, none, .mv (.t 14)⟩,
  ⟨some 16, some (15, true), .mv (.t 1)⟩,
  ⟨some 17, some (15, true), .bin .leq (.t 16) (.k (.int .i64 64))⟩,
  ⟨some 18, none, .pick (.t 15) (.t 17) (.k (.bool false))⟩,
  ⟨some 19, none, .mv (.t 18)⟩,
  ⟨some 20, some (19, true), .mv (.t 0)⟩,
  ⟨some 21, some (19, true), .mv (.t 1)⟩,
  ⟨some 22, some (19, true), .bin .add (.t 20) (.t 21)⟩,
  ⟨some 23, some (19, true), .bin .leq (.t 22) (.k (.int .i64 64))⟩,
  ⟨some 24, none, .pick (.t 19) (.t 23) (.k (.bool false))⟩,
  ⟨some 4, none, .mv (.t 24)⟩]
/-- steadfast/steadfastref01.is -/
@[go_sem] def fc_steadfastref01_is : Fc := ⟨2,
  .seq ((.reg (some [0, 1]) o_steadfastref01_is_0)) (
  .seq ((.reg (some [4]) o_steadfastref01_is_1)) (
  .ret)),
  [.t 4]⟩
def o_steadfastref01_bit_0 : List Ab.Op := [
  ⟨some 4, none, .mv (.k (.int .u64 0))⟩]
def o_steadfastref01_bit_1 : List Ab.Op := [
  ⟨some 5, none, .mv (.t 0)⟩,
  ⟨some 6, none, .mv (.t 1)⟩,
  ⟨some 7, none, .bin .shr (.t 5) (.t 6)⟩,
  ⟨some 8, none, .bin .and (.t 7) (.k (.int .u64 1))⟩,
  ⟨some 4, none, .mv (.t 8)⟩]
/-- steadfast/steadfastref01.bit -/
@[go_sem] def fc_steadfastref01_bit : Fc := ⟨2,
  .seq ((.reg (some [0, 1]) o_steadfastref01_bit_0)) (
  .seq ((.reg (some [4]) o_steadfastref01_bit_1)) (
  .ret)),
  [.t 4]⟩
def o_objects_lines_add_0 : List Ab.Op := [
  ⟨some 3, none, .box false (.t 1)⟩]
def o_objects_lines_add_1 : List Ab.Op := [
  ⟨some 6, none, .ld 48 (.t 3)⟩,
  ⟨some 7, none, .mv (.k (.int .i64 0))⟩]
def o_objects_lines_add_2 : List Ab.Op := [
  ⟨some 8, none, .bin .lss (.t 7) (.k (.int .i64 49))⟩]
def o_objects_lines_add_3 : List Ab.Op := [
  ⟨some 9, none, .idx 48 49 (.t 6) (.t 7)⟩,
  ⟨some 5, none, .alloc false (.agg 42 [(.int .i64 0), (.int .i64 0), (.int .i64 0)])⟩,
  ⟨none, none, .st 42 (.t 5) (.t 9)⟩]
def o_objects_lines_add_4 : List Ab.Op := [
  ⟨some 10, none, .fad 42 0 10 (.t 5)⟩,
  ⟨some 11, none, .ld 10 (.t 10)⟩,
  ⟨some 12, none, .bin .neq (.t 11) (.k (.int .i64 0))⟩]
def o_objects_lines_add_5 : List Ab.Op := [
  ⟨some 13, none, .mv (.t 0)⟩,
  ⟨some 14, none, .fad 42 2 10 (.t 5)⟩,
  ⟨some 15, none, .ld 10 (.t 14)⟩,
  ⟨some 16, none, .nilc (.t 13)⟩,
  ⟨some 17, none, .iad 82 1024 0 (.t 16) (.t 15)⟩,
  ⟨none, none, .st 0 (.t 17) (.k (.bool true))⟩]
def o_objects_lines_add_6 : List Ab.Op := [
  ⟨some 18, none, .bin .add (.t 7) (.k (.int .i64 1))⟩,
  ⟨some 7, none, .mv (.t 18)⟩]
def b_objects_lines_add_0 : C :=
    .seq ((.reg (some [0, 6, 7, 8]) o_objects_lines_add_2)) (
    .seq (.cond (.t 8) (
      .skip) (
      .exit 0)) (
    .seq (.block 1 (
      .seq ((.reg (some [0, 5, 6, 7]) o_objects_lines_add_3)) (
      .seq ((.reg (some [0, 5, 6, 7, 12]) o_objects_lines_add_4)) (
      .cond (.t 12) (
        (.regd (some [0, 6, 7]) o_objects_lines_add_5)) (
        .skip))))) (
    (.reg (some [0, 6, 7]) o_objects_lines_add_6))))
/-- (*steadfast/objects.lines).add -/
@[go_sem] def fc_objects_lines_add : Fc := ⟨2,
  .seq ((.reg (some [0, 3]) o_objects_lines_add_0)) (
  .seq ((.reg (some [0, 6, 7]) o_objects_lines_add_1)) (
  .block 0 (
    .loop [0, 6, 7] b_objects_lines_add_0))),
  []⟩
def o_steadfastref04_Frames_turn_0 : List Ab.Op := [
  ⟨some 8, none, .mv (.k (.int .i64 0))⟩]
def o_steadfastref04_Frames_turn_1 : List Ab.Op := [
  ⟨some 10, none, .mv (.t 0)⟩,
  ⟨some 11, none, .mv (.t 1)⟩,
  ⟨some 12, none, .call (.k (.fn f_steadfastref04_Frames_State [])) [(.t 10), (.t 11)]⟩,
  ⟨some 9, none, .mv (.t 12)⟩]
def o_steadfastref04_Frames_turn_2 : List Ab.Op := [
  ⟨some 13, none, .mv (.t 9)⟩,
  ⟨some 14, none, .bin .lss (.t 13) (.k (.int .i64 0))⟩]
def o_steadfastref04_Frames_turn_3 : List Ab.Op := [
  ⟨some 8, none, .mv (.k (.int .i64 1))⟩]
def o_steadfastref04_Frames_turn_4 : List Ab.Op := [
  ⟨some 15, none, .mv (.t 9)⟩,
  ⟨some 16, none, .mv (.t 2)⟩,
  ⟨some 17, none, .bin .neq (.t 15) (.t 16)⟩]
def o_steadfastref04_Frames_turn_5 : List Ab.Op := [
  ⟨some 8, none, .mv (.k (.int .i64 3))⟩]
def o_steadfastref04_Frames_turn_6 : List Ab.Op := [
  ⟨some 18, none, .mv (.t 0)⟩,
  ⟨some 19, none, .nilc (.t 18)⟩,
  ⟨some 20, none, .fad 21 1 1 (.t 19)⟩,
  ⟨some 21, none, .ld 1 (.t 20)⟩,
  ⟨some 22, none, .mv (.t 1)⟩,
  ⟨some 23, none, .mv (.t 0)⟩,
  ⟨some 24, none, .nilc (.t 23)⟩,
  ⟨some 25, none, .fad 21 0 10 (.t 24)⟩,
  ⟨some 26, none, .ld 10 (.t 25)⟩,
  ⟨some 27, none, .bin .sub (.t 22) (.t 26)⟩,
  ⟨some 28, none, .mv (.t 3)⟩,
  ⟨some 29, none, .sad 10 (.t 21) (.t 27)⟩,
  ⟨none, none, .st 10 (.t 29) (.t 28)⟩]
def o_steadfastref04_Frames_turn_7 : List Ab.Op := [
  ⟨some 8, none, .mv (.k (.int .i64 0))⟩]
/-- (*steadfast/steadfastref04.Frames).turn -/
@[go_sem] def fc_steadfastref04_Frames_turn : Fc := ⟨4,
  .seq ((.reg (some [0, 1, 2, 3]) o_steadfastref04_Frames_turn_0)) (
  .seq ((.reg (some [0, 1, 2, 3, 9]) o_steadfastref04_Frames_turn_1)) (
  .seq (.seq ((.reg (some [0, 1, 2, 3, 9, 14]) o_steadfastref04_Frames_turn_2)) (
  .cond (.t 14) (
    .seq ((.reg (some [8]) o_steadfastref04_Frames_turn_3)) (
    .ret)) (
    .skip))) (
  .seq (.seq ((.reg (some [0, 1, 3, 17]) o_steadfastref04_Frames_turn_4)) (
  .cond (.t 17) (
    .seq ((.reg (some [8]) o_steadfastref04_Frames_turn_5)) (
    .ret)) (
    .skip))) (
  .seq ((.regd (some []) o_steadfastref04_Frames_turn_6)) (
  .seq ((.reg (some [8]) o_steadfastref04_Frames_turn_7)) (
  .ret)))))),
  [.t 8]⟩
def o_steadfastref03_Memory_is_0 : List Ab.Op := [
  ⟨some 4, none, .mv (.k (.bool false))⟩]
def o_steadfastref03_Memory_is_1 : List Ab.Op := [
  ⟨some 5, none, .mv (.t 1)⟩,
  ⟨some 6, none, .bin .geq (.t 5) (.k (.int .i64 0))⟩,
  ⟨some 7, none, .mv (.t 6)⟩,
  ⟨some 8, some (7, true), .mv (.t 1)⟩,
  ⟨some 9, some (7, true), .mv (.t 0)⟩,
  ⟨some 10, some (7, true), .nilc (.t 9)⟩,
  ⟨some 11, some (7, true), .fad 33 0 1 (.t 10)⟩,
  ⟨some 12, some (7, true), .ld 1 (.t 11)⟩,
  ⟨some 13, some (7, true), .len false (.t 12)⟩,
  ⟨some 14, some (7, true), .bin .lss (.t 8) (.t 13)⟩,
  ⟨some 15, none, .pick (.t 7) (.t 14) (.k (.bool false))⟩,
  ⟨some 4, none, .mv (.t 15)⟩]
/-- (*steadfast/steadfastref03.Memory).is -/
@[go_sem] def fc_steadfastref03_Memory_is : Fc := ⟨2,
  .seq ((.reg (some [0, 1]) o_steadfastref03_Memory_is_0)) (
  .seq ((.reg (some [4]) o_steadfastref03_Memory_is_1)) (
  .ret)),
  [.t 4]⟩
def o_steadfastref03_Memory_has_0 : List Ab.Op := [
  ⟨some 6, none, .alloc false (.agg 24 (List.replicate 8 (.int .u64 0)))⟩]
def o_steadfastref03_Memory_has_1 : List Ab.Op := [
  ⟨some 9, none, .mv (.t 0)⟩,
  ⟨some 10, none, .nilc (.t 9)⟩,
  ⟨some 11, none, .fad 33 0 1 (.t 10)⟩,
  ⟨some 12, none, .ld 1 (.t 11)⟩,
  ⟨some 13, none, .mv (.t 1)⟩,
  ⟨some 14, none, .sad 24 (.t 12) (.t 13)⟩,
  ⟨some 15, none, .ld 24 (.t 14)⟩,
  ⟨some 7, none, .alloc false (.agg 24 (List.replicate 8 (.int .u64 0)))⟩,
  ⟨none, none, .st 24 (.t 7) (.t 15)⟩]
def o_steadfastref03_Memory_has_2 : List Ab.Op := [
  ⟨some 8, none, .mv (.k (.int .i64 0))⟩]
def o_steadfastref03_Memory_has_3 : List Ab.Op := [
  ⟨some 16, none, .mv (.t 8)⟩,
  ⟨some 17, none, .mv (.t 2)⟩,
  ⟨some 18, none, .bin .lss (.t 16) (.t 17)⟩]
def o_steadfastref03_Memory_has_4 : List Ab.Op := [
  ⟨some 21, none, .mv (.t 0)⟩,
  ⟨some 22, none, .nilc (.t 21)⟩,
  ⟨some 23, none, .fad 33 1 1 (.t 22)⟩,
  ⟨some 24, none, .ld 1 (.t 23)⟩,
  ⟨some 25, none, .mv (.t 1)⟩,
  ⟨some 26, none, .sad 1 (.t 24) (.t 25)⟩,
  ⟨some 27, none, .ld 1 (.t 26)⟩,
  ⟨some 28, none, .mv (.t 8)⟩,
  ⟨some 29, none, .sad 90 (.t 27) (.t 28)⟩,
  ⟨some 30, none, .fad 90 0 10 (.t 29)⟩,
  ⟨some 31, none, .ld 10 (.t 30)⟩,
  ⟨some 32, none, .mv (.t 0)⟩,
  ⟨some 33, none, .nilc (.t 32)⟩,
  ⟨some 34, none, .fad 33 1 1 (.t 33)⟩,
  ⟨some 35, none, .ld 1 (.t 34)⟩,
  ⟨some 36, none, .mv (.t 1)⟩,
  ⟨some 37, none, .sad 1 (.t 35) (.t 36)⟩,
  ⟨some 38, none, .ld 1 (.t 37)⟩,
  ⟨some 39, none, .mv (.t 8)⟩,
  ⟨some 40, none, .sad 90 (.t 38) (.t 39)⟩,
  ⟨some 41, none, .fad 90 1 18 (.t 40)⟩,
  ⟨some 42, none, .ld 18 (.t 41)⟩,
  ⟨some 43, none, .iad 24 8 18 (.t 7) (.t 31)⟩,
  ⟨none, none, .st 18 (.t 43) (.t 42)⟩]
def o_steadfastref03_Memory_has_5 : List Ab.Op := [
  ⟨some 19, none, .mv (.t 8)⟩,
  ⟨some 20, none, .bin .add (.t 19) (.k (.int .i64 1))⟩,
  ⟨some 8, none, .mv (.t 20)⟩]
def o_steadfastref03_Memory_has_6 : List Ab.Op := [
  ⟨some 44, none, .ld 24 (.t 7)⟩,
  ⟨none, none, .st 24 (.t 6) (.t 44)⟩]
def b_steadfastref03_Memory_has_0 : C :=
    .seq (.seq ((.reg (some [0, 1, 2, 6, 7, 8, 18]) o_steadfastref03_Memory_has_3)) (
    .cond (.t 18) (
      .skip) (
      .exit 0))) (
    .seq (.block 1 (
      (.regd (some [0, 1, 2, 6, 7, 8]) o_steadfastref03_Memory_has_4))) (
    (.reg (some [0, 1, 2, 6, 7, 8]) o_steadfastref03_Memory_has_5)))
/-- (*steadfast/steadfastref03.Memory).has -/
@[go_sem] def fc_steadfastref03_Memory_has : Fc := ⟨3,
  .seq ((.reg (some [0, 1, 2, 6]) o_steadfastref03_Memory_has_0)) (
  .seq ((.reg (some [0, 1, 2, 6, 7]) o_steadfastref03_Memory_has_1)) (
  .seq (.seq ((.reg (some [0, 1, 2, 6, 7, 8]) o_steadfastref03_Memory_has_2)) (
  .block 0 (
    .loop [0, 1, 2, 6, 7, 8] b_steadfastref03_Memory_has_0))) (
  .seq ((.reg (some [6]) o_steadfastref03_Memory_has_6)) (
  .ret)))),
  [.cell 6 24]⟩
def o_frames_Frames_State_0 : List Ab.Op := [
  ⟨some 4, none, .mv (.k (.int .i64 0))⟩]
def o_frames_Frames_State_1 : List Ab.Op := [
  ⟨some 6, none, .mv (.t 1)⟩,
  ⟨some 7, none, .mv (.t 0)⟩,
  ⟨some 8, none, .nilc (.t 7)⟩,
  ⟨some 9, none, .fad 80 0 10 (.t 8)⟩,
  ⟨some 10, none, .ld 10 (.t 9)⟩,
  ⟨some 11, none, .bin .lss (.t 6) (.t 10)⟩,
  ⟨some 5, none, .mv (.t 11)⟩]
def o_frames_Frames_State_2 : List Ab.Op := [
  ⟨some 12, none, .mv (.t 1)⟩,
  ⟨some 13, none, .mv (.t 0)⟩,
  ⟨some 14, none, .nilc (.t 13)⟩,
  ⟨some 15, none, .fad 80 1 10 (.t 14)⟩,
  ⟨some 16, none, .ld 10 (.t 15)⟩,
  ⟨some 17, none, .bin .geq (.t 12) (.t 16)⟩,
  ⟨some 5, none, .mv (.t 17)⟩]
def o_frames_Frames_State_3 : List Ab.Op := [
  ⟨some 4, none, .mv (.k (.int .i64 (-1)))⟩]
def o_frames_Frames_State_4 : List Ab.Op := [
  ⟨some 19, none, .mv (.t 0)⟩,
  ⟨some 20, none, .nilc (.t 19)⟩,
  ⟨some 21, none, .fad 80 2 78 (.t 20)⟩,
  ⟨some 22, none, .mv (.t 1)⟩,
  ⟨some 23, none, .call (.k (.fn f_frames_set_has [])) [(.t 21), (.t 22)]⟩,
  ⟨some 18, none, .mv (.t 23)⟩]
def o_frames_Frames_State_5 : List Ab.Op := [
  ⟨some 4, none, .mv (.k (.int .i64 0))⟩]
def o_frames_Frames_State_6 : List Ab.Op := [
  ⟨some 25, none, .mv (.t 0)⟩,
  ⟨some 26, none, .nilc (.t 25)⟩,
  ⟨some 27, none, .fad 80 3 78 (.t 26)⟩,
  ⟨some 28, none, .mv (.t 1)⟩,
  ⟨some 29, none, .call (.k (.fn f_frames_set_has [])) [(.t 27), (.t 28)]⟩,
  ⟨some 24, none, .mv (.t 29)⟩]
def o_frames_Frames_State_7 : List Ab.Op := [
  ⟨some 4, none, .mv (.k (.int .i64 2))⟩]
def o_frames_Frames_State_8 : List Ab.Op := [
  ⟨some 4, none, .mv (.k (.int .i64 1))⟩]
/-- (*steadfast/frames.Frames).State -/
@[go_sem] def fc_frames_Frames_State : Fc := ⟨2,
  .seq ((.reg (some [0, 1]) o_frames_Frames_State_0)) (
  .seq (.block 0 (
    .seq (.seq ((.reg (some [0, 1, 5]) o_frames_Frames_State_1)) (
    .cond (.t 5) (
      .skip) (
      (.reg (some [0, 1, 5]) o_frames_Frames_State_2)))) (
    .cond (.t 5) (
      .seq ((.reg (some [4]) o_frames_Frames_State_3)) (
      .ret)) (
      .seq ((.reg (some [0, 1, 18]) o_frames_Frames_State_4)) (
      .cond (.t 18) (
        .seq ((.reg (some [4]) o_frames_Frames_State_5)) (
        .ret)) (
        .seq ((.reg (some [24]) o_frames_Frames_State_6)) (
        .cond (.t 24) (
          .seq ((.reg (some [4]) o_frames_Frames_State_7)) (
          .ret)) (
          .skip)))))))) (
  .seq ((.reg (some [4]) o_frames_Frames_State_8)) (
  .ret))),
  [.t 4]⟩
def o_steadfastref04_Frames_State_0 : List Ab.Op := [
  ⟨some 4, none, .mv (.k (.int .i64 0))⟩]
def o_steadfastref04_Frames_State_1 : List Ab.Op := [
  ⟨some 5, none, .mv (.t 1)⟩,
  ⟨some 6, none, .mv (.t 0)⟩,
  ⟨some 7, none, .nilc (.t 6)⟩,
  ⟨some 8, none, .fad 21 0 10 (.t 7)⟩,
  ⟨some 9, none, .ld 10 (.t 8)⟩,
  ⟨some 10, none, .bin .lss (.t 5) (.t 9)⟩,
  ⟨some 11, none, .mv (.t 10)⟩,
  ⟨some 12, some (11, false), .mv (.t 1)⟩,
  ⟨some 13, some (11, false), .mv (.t 0)⟩,
  ⟨some 14, some (11, false), .nilc (.t 13)⟩,
  ⟨some 15, some (11, false), .fad 21 0 10 (.t 14)⟩,
  ⟨some 16, some (11, false), .ld 10 (.t 15)⟩,
  ⟨some 17, some (11, false), .bin .sub (.t 12) (.t 16)⟩,
  ⟨some 18, some (11, false), .mv (.t 0)⟩,
  ⟨some 19, some (11, false), .nilc (.t 18)⟩,
  ⟨some 20, some (11, false), .fad 21 1 1 (.t 19)⟩,
  ⟨some 21, some (11, false), .ld 1 (.t 20)⟩,
  ⟨some 22, some (11, false), .len false (.t 21)⟩,
  ⟨some 23, some (11, false), .bin .geq (.t 17) (.t 22)⟩,
  ⟨some 24, none, .pick (.t 11) (.k (.bool true)) (.t 23)⟩]
def o_steadfastref04_Frames_State_2 : List Ab.Op := [
  ⟨some 4, none, .mv (.k (.int .i64 (-1)))⟩]
def o_steadfastref04_Frames_State_3 : List Ab.Op := [
  ⟨some 25, none, .mv (.t 0)⟩,
  ⟨some 26, none, .nilc (.t 25)⟩,
  ⟨some 27, none, .fad 21 1 1 (.t 26)⟩,
  ⟨some 28, none, .ld 1 (.t 27)⟩,
  ⟨some 29, none, .mv (.t 1)⟩,
  ⟨some 30, none, .mv (.t 0)⟩,
  ⟨some 31, none, .nilc (.t 30)⟩,
  ⟨some 32, none, .fad 21 0 10 (.t 31)⟩,
  ⟨some 33, none, .ld 10 (.t 32)⟩,
  ⟨some 34, none, .bin .sub (.t 29) (.t 33)⟩,
  ⟨some 35, none, .sad 10 (.t 28) (.t 34)⟩,
  ⟨some 36, none, .ld 10 (.t 35)⟩,
  ⟨some 4, none, .mv (.t 36)⟩]
/-- (*steadfast/steadfastref04.Frames).State -/
@[go_sem] def fc_steadfastref04_Frames_State : Fc := ⟨2,
  .seq ((.reg (some [0, 1]) o_steadfastref04_Frames_State_0)) (
  .seq (.seq ((.regd (some [0, 1, 24]) o_steadfastref04_Frames_State_1)) (
  .cond (.t 24) (
    .seq ((.reg (some [4]) o_steadfastref04_Frames_State_2)) (
    .ret)) (
    .skip))) (
  .seq ((.regd (some [4]) o_steadfastref04_Frames_State_3)) (
  .ret))),
  [.t 4]⟩
def o_frames_set_has_0 : List Ab.Op := [
  ⟨some 4, none, .mv (.k (.bool false))⟩]
def o_frames_set_has_1 : List Ab.Op := [
  ⟨some 5, none, .mv (.t 0)⟩,
  ⟨some 6, none, .mv (.t 1)⟩,
  ⟨some 7, none, .bin .quo (.t 6) (.k (.int .i64 64))⟩,
  ⟨some 8, none, .nilc (.t 5)⟩,
  ⟨some 9, none, .iad 78 16 18 (.t 8) (.t 7)⟩,
  ⟨some 10, none, .ld 18 (.t 9)⟩,
  ⟨some 11, none, .mv (.t 1)⟩,
  ⟨some 12, none, .bin .rem (.t 11) (.k (.int .i64 64))⟩,
  ⟨some 13, none, .bin .shr (.t 10) (.t 12)⟩,
  ⟨some 14, none, .bin .and (.t 13) (.k (.int .u64 1))⟩,
  ⟨some 15, none, .bin .eql (.t 14) (.k (.int .u64 1))⟩,
  ⟨some 4, none, .mv (.t 15)⟩]
/-- (*steadfast/frames.set).has -/
@[go_sem] def fc_frames_set_has : Fc := ⟨2,
  .seq ((.reg (some [0, 1]) o_frames_set_has_0)) (
  .seq ((.reg (some [4]) o_frames_set_has_1)) (
  .ret)),
  [.t 4]⟩
def D : Nat → Option Fc
  | 5 => some fc_steadfastlaw18_BankFull
  | 10 => some fc_steadfastlaw18_BankEnds
  | 24 => some fc_steadfastlaw18_shown
  | 25 => some fc_steadfastlaw18_made
  | 26 => some fc_caps_Word
  | 27 => some fc_bank_Make
  | 28 => some fc_caps_Of
  | 35 => some fc_objects_Store_Names
  | 36 => some fc_objects_Store_Get
  | 37 => some fc_bank_End
  | 38 => some fc_steadfastref18_End
  | 39 => some fc_objects_Store_End
  | 40 => some fc_caps_Diminish
  | 41 => some fc_steadfastref07_Word
  | 42 => some fc_entry_Names
  | 43 => some fc_steadfastref07_Of
  | 54 => some fc_nvm_Of
  | 55 => some fc_steadfastref03_Of
  | 56 => some fc_objects_Of
  | 57 => some fc_steadfastref10_Of
  | 58 => some fc_caps_may
  | 59 => some fc_bank_by
  | 60 => some fc_objects_Store_Next
  | 62 => some fc_steadfastref10_Store_Names
  | 63 => some fc_steadfastref10_Store_Get
  | 64 => some fc_objects_Store_is
  | 65 => some fc_nvm_Memory_Load
  | 66 => some fc_steadfastref07_May
  | 67 => some fc_objects_Store_own
  | 68 => some fc_frames_Frames_Free
  | 69 => some fc_entry_End
  | 70 => some fc_caps_within
  | 71 => some fc_steadfastref01_With
  | 72 => some fc_steadfastref01_Field
  | 82 => some fc_nvm_New
  | 83 => some fc_frames_New
  | 84 => some fc_nvm_Memory_Lines
  | 85 => some fc_frames_Frames_Take
  | 86 => some fc_objects_Store_share
  | 87 => some fc_steadfastref04_New
  | 88 => some fc_steadfastref10_lines
  | 89 => some fc_steadfastref04_Frames_Take
  | 90 => some fc_caps_May
  | 91 => some fc_entry_Open
  | 92 => some fc_steadfastref08_Names
  | 93 => some fc_steadfastref10_Store_is
  | 94 => some fc_steadfastref03_Memory_Load
  | 95 => some fc_nvm_Memory_at
  | 96 => some fc_frames_Frames_in
  | 97 => some fc_frames_set_turn
  | 98 => some fc_steadfastref01_is
  | 99 => some fc_steadfastref01_bit
  | 104 => some fc_objects_lines_add
  | 105 => some fc_steadfastref04_Frames_turn
  | 106 => some fc_steadfastref03_Memory_is
  | 107 => some fc_steadfastref03_Memory_has
  | 108 => some fc_frames_Frames_State
  | 109 => some fc_steadfastref04_Frames_State
  | 110 => some fc_frames_set_has
  | _ => none
theorem D_steadfastlaw18_BankFull : D f_steadfastlaw18_BankFull = some fc_steadfastlaw18_BankFull := rfl
theorem D_steadfastlaw18_BankEnds : D f_steadfastlaw18_BankEnds = some fc_steadfastlaw18_BankEnds := rfl
theorem D_steadfastlaw18_shown : D f_steadfastlaw18_shown = some fc_steadfastlaw18_shown := rfl
theorem D_steadfastlaw18_made : D f_steadfastlaw18_made = some fc_steadfastlaw18_made := rfl
theorem D_caps_Word : D f_caps_Word = some fc_caps_Word := rfl
theorem D_bank_Make : D f_bank_Make = some fc_bank_Make := rfl
theorem D_caps_Of : D f_caps_Of = some fc_caps_Of := rfl
theorem D_objects_Store_Names : D f_objects_Store_Names = some fc_objects_Store_Names := rfl
theorem D_objects_Store_Get : D f_objects_Store_Get = some fc_objects_Store_Get := rfl
theorem D_bank_End : D f_bank_End = some fc_bank_End := rfl
theorem D_steadfastref18_End : D f_steadfastref18_End = some fc_steadfastref18_End := rfl
theorem D_objects_Store_End : D f_objects_Store_End = some fc_objects_Store_End := rfl
theorem D_caps_Diminish : D f_caps_Diminish = some fc_caps_Diminish := rfl
theorem D_steadfastref07_Word : D f_steadfastref07_Word = some fc_steadfastref07_Word := rfl
theorem D_entry_Names : D f_entry_Names = some fc_entry_Names := rfl
theorem D_steadfastref07_Of : D f_steadfastref07_Of = some fc_steadfastref07_Of := rfl
theorem D_nvm_Of : D f_nvm_Of = some fc_nvm_Of := rfl
theorem D_steadfastref03_Of : D f_steadfastref03_Of = some fc_steadfastref03_Of := rfl
theorem D_objects_Of : D f_objects_Of = some fc_objects_Of := rfl
theorem D_steadfastref10_Of : D f_steadfastref10_Of = some fc_steadfastref10_Of := rfl
theorem D_caps_may : D f_caps_may = some fc_caps_may := rfl
theorem D_bank_by : D f_bank_by = some fc_bank_by := rfl
theorem D_objects_Store_Next : D f_objects_Store_Next = some fc_objects_Store_Next := rfl
theorem D_steadfastref10_Store_Names : D f_steadfastref10_Store_Names = some fc_steadfastref10_Store_Names := rfl
theorem D_steadfastref10_Store_Get : D f_steadfastref10_Store_Get = some fc_steadfastref10_Store_Get := rfl
theorem D_objects_Store_is : D f_objects_Store_is = some fc_objects_Store_is := rfl
theorem D_nvm_Memory_Load : D f_nvm_Memory_Load = some fc_nvm_Memory_Load := rfl
theorem D_steadfastref07_May : D f_steadfastref07_May = some fc_steadfastref07_May := rfl
theorem D_objects_Store_own : D f_objects_Store_own = some fc_objects_Store_own := rfl
theorem D_frames_Frames_Free : D f_frames_Frames_Free = some fc_frames_Frames_Free := rfl
theorem D_entry_End : D f_entry_End = some fc_entry_End := rfl
theorem D_caps_within : D f_caps_within = some fc_caps_within := rfl
theorem D_steadfastref01_With : D f_steadfastref01_With = some fc_steadfastref01_With := rfl
theorem D_steadfastref01_Field : D f_steadfastref01_Field = some fc_steadfastref01_Field := rfl
theorem D_nvm_New : D f_nvm_New = some fc_nvm_New := rfl
theorem D_frames_New : D f_frames_New = some fc_frames_New := rfl
theorem D_nvm_Memory_Lines : D f_nvm_Memory_Lines = some fc_nvm_Memory_Lines := rfl
theorem D_frames_Frames_Take : D f_frames_Frames_Take = some fc_frames_Frames_Take := rfl
theorem D_objects_Store_share : D f_objects_Store_share = some fc_objects_Store_share := rfl
theorem D_steadfastref04_New : D f_steadfastref04_New = some fc_steadfastref04_New := rfl
theorem D_steadfastref10_lines : D f_steadfastref10_lines = some fc_steadfastref10_lines := rfl
theorem D_steadfastref04_Frames_Take : D f_steadfastref04_Frames_Take = some fc_steadfastref04_Frames_Take := rfl
theorem D_caps_May : D f_caps_May = some fc_caps_May := rfl
theorem D_entry_Open : D f_entry_Open = some fc_entry_Open := rfl
theorem D_steadfastref08_Names : D f_steadfastref08_Names = some fc_steadfastref08_Names := rfl
theorem D_steadfastref10_Store_is : D f_steadfastref10_Store_is = some fc_steadfastref10_Store_is := rfl
theorem D_steadfastref03_Memory_Load : D f_steadfastref03_Memory_Load = some fc_steadfastref03_Memory_Load := rfl
theorem D_nvm_Memory_at : D f_nvm_Memory_at = some fc_nvm_Memory_at := rfl
theorem D_frames_Frames_in : D f_frames_Frames_in = some fc_frames_Frames_in := rfl
theorem D_frames_set_turn : D f_frames_set_turn = some fc_frames_set_turn := rfl
theorem D_steadfastref01_is : D f_steadfastref01_is = some fc_steadfastref01_is := rfl
theorem D_steadfastref01_bit : D f_steadfastref01_bit = some fc_steadfastref01_bit := rfl
theorem D_objects_lines_add : D f_objects_lines_add = some fc_objects_lines_add := rfl
theorem D_steadfastref04_Frames_turn : D f_steadfastref04_Frames_turn = some fc_steadfastref04_Frames_turn := rfl
theorem D_steadfastref03_Memory_is : D f_steadfastref03_Memory_is = some fc_steadfastref03_Memory_is := rfl
theorem D_steadfastref03_Memory_has : D f_steadfastref03_Memory_has = some fc_steadfastref03_Memory_has := rfl
theorem D_frames_Frames_State : D f_frames_Frames_State = some fc_frames_Frames_State := rfl
theorem D_steadfastref04_Frames_State : D f_steadfastref04_Frames_State = some fc_steadfastref04_Frames_State := rfl
theorem D_frames_set_has : D f_frames_set_has = some fc_frames_set_has := rfl
@[go_sem] noncomputable def R_steadfastlaw18_BankFull_0 (_base : Nat) (s : St) (v0 v1 : V) : Option (Ex × Env × St) :=
  some (.normal, [(0, v0), (1, v1)], s)
@[go_sem] theorem rc_steadfastlaw18_BankFull_0 {base : Nat} {ρ : Env} {s : St} : rc D base (.reg (some [0, 1]) o_steadfastlaw18_BankFull_0) ρ s = R_steadfastlaw18_BankFull_0 base s (get ρ 0) (get ρ 1) := rc_reg_O.trans (by kernel_rfl)
@[go_sem] noncomputable def R_steadfastlaw18_BankFull_1 (_base : Nat) (s : St) (v0 v1 : V) : Option (Ex × Env × St) :=
  obind (rf D f_steadfastlaw18_shown [] s) fun x0 =>
  some (.normal, [(0, v0), (1, v1), (5, x0.1)], x0.2)
@[go_sem] theorem rc_steadfastlaw18_BankFull_1 {base : Nat} {ρ : Env} {s : St} : rc D base (.reg (some [0, 1, 5]) o_steadfastlaw18_BankFull_1) ρ s = R_steadfastlaw18_BankFull_1 base s (get ρ 0) (get ρ 1) := rc_reg_O.trans (by kernel_rfl)
@[go_sem] noncomputable def R_steadfastlaw18_BankFull_2 (_base : Nat) (s : St) (v0 v1 v5 : V) : Option (Ex × Env × St) :=
  obind (vbin .rem v1 (.int .i64 50)) fun x0 =>
  some (.normal, [(0, v0), (5, v5), (6, x0)], s)
@[go_sem] theorem rc_steadfastlaw18_BankFull_2 {base : Nat} {ρ : Env} {s : St} : rc D base (.reg (some [0, 5, 6]) o_steadfastlaw18_BankFull_2) ρ s = R_steadfastlaw18_BankFull_2 base s (get ρ 0) (get ρ 1) (get ρ 5) := rc_reg_O.trans (by kernel_rfl)
@[go_sem] noncomputable def R_steadfastlaw18_BankFull_3 (_base : Nat) (s : St) (v0 v5 v6 : V) : Option (Ex × Env × St) :=
  obind (vbin .lss v6 (.int .i64 0)) fun x0 =>
  some (.normal, [(0, v0), (5, v5), (6, v6), (22, x0)], s)
@[go_sem] theorem rc_steadfastlaw18_BankFull_3 {base : Nat} {ρ : Env} {s : St} : rc D base (.reg (some [0, 5, 6, 22]) o_steadfastlaw18_BankFull_3) ρ s = R_steadfastlaw18_BankFull_3 base s (get ρ 0) (get ρ 5) (get ρ 6) := rc_reg_O.trans (by kernel_rfl)
@[go_sem] noncomputable def R_steadfastlaw18_BankFull_4 (_base : Nat) (s : St) (v0 v5 v6 : V) : Option (Ex × Env × St) :=
  obind (vun .neg v6) fun x0 =>
  some (.normal, [(0, v0), (5, v5), (6, x0)], s)
@[go_sem] theorem rc_steadfastlaw18_BankFull_4 {base : Nat} {ρ : Env} {s : St} : rc D base (.reg (some [0, 5, 6]) o_steadfastlaw18_BankFull_4) ρ s = R_steadfastlaw18_BankFull_4 base s (get ρ 0) (get ρ 5) (get ρ 6) := rc_reg_O.trans (by kernel_rfl)
@[go_sem] noncomputable def R_steadfastlaw18_BankFull_5 (_base : Nat) (s : St) (v0 v5 v6 : V) : Option (Ex × Env × St) :=
  obind (bslv false 28 26 0 (.agg 26 [(.int .i64 0), (.int .i64 0), (.agg 24 (List.replicate 8 (.int .u64 0)))]) s []) fun x0 =>
  some (.normal, [(0, v0), (5, v5), (6, v6), (7, x0.1)], x0.2)
@[go_sem] theorem rc_steadfastlaw18_BankFull_5 {base : Nat} {ρ : Env} {s : St} : rc D base (.reg (some [0, 5, 6, 7]) o_steadfastlaw18_BankFull_5) ρ s = R_steadfastlaw18_BankFull_5 base s (get ρ 0) (get ρ 5) (get ρ 6) := rc_reg_O.trans (by kernel_rfl)
@[go_sem] noncomputable def R_steadfastlaw18_BankFull_6 (_base : Nat) (s : St) (v0 v5 v6 v7 : V) : Option (Ex × Env × St) :=
  some (.normal, [(0, v0), (5, v5), (6, v6), (7, v7), (8, (.int .i64 0))], s)
@[go_sem] theorem rc_steadfastlaw18_BankFull_6 {base : Nat} {ρ : Env} {s : St} : rc D base (.reg (some [0, 5, 6, 7, 8]) o_steadfastlaw18_BankFull_6) ρ s = R_steadfastlaw18_BankFull_6 base s (get ρ 0) (get ρ 5) (get ρ 6) (get ρ 7) := rc_reg_O.trans (by kernel_rfl)
@[go_sem] noncomputable def R_steadfastlaw18_BankFull_7 (_base : Nat) (s : St) (v0 v5 v6 v7 v8 : V) : Option (Ex × Env × St) :=
  obind (vbin .lss v8 v6) fun x0 =>
  some (.normal, [(0, v0), (5, v5), (6, v6), (7, v7), (8, v8), (28, x0)], s)
@[go_sem] theorem rc_steadfastlaw18_BankFull_7 {base : Nat} {ρ : Env} {s : St} : rc D base (.reg (some [0, 5, 6, 7, 8, 28]) o_steadfastlaw18_BankFull_7) ρ s = R_steadfastlaw18_BankFull_7 base s (get ρ 0) (get ρ 5) (get ρ 6) (get ρ 7) (get ρ 8) := rc_reg_O.trans (by kernel_rfl)
@[go_sem] noncomputable def R_steadfastlaw18_BankFull_8 (base : Nat) (s : St) (v0 v5 v6 v7 v8 : V) : Option (Ex × Env × St) :=
  obind (setParts [(.int .i64 0), (.int .i64 0), (.agg 24 (List.replicate 8 (.int .u64 0)))] [(0, (.int .i64 1))]) fun x0 =>
  obind (bslv false 28 26 1 (.agg 26 [(.int .i64 0), (.int .i64 0), (.agg 24 (List.replicate 8 (.int .u64 0)))]) s [(0, (.agg 26 x0))]) fun x1 =>
  obind (vappend base true 28 26 v7 x1.1 x1.2) fun x2 =>
  some (.normal, [(0, v0), (5, v5), (6, v6), (7, x2.1), (8, v8)], x2.2)
@[go_sem] theorem rc_steadfastlaw18_BankFull_8 {base : Nat} {ρ : Env} {s : St} : rc D base (.reg (some [0, 5, 6, 7, 8]) o_steadfastlaw18_BankFull_8) ρ s = R_steadfastlaw18_BankFull_8 base s (get ρ 0) (get ρ 5) (get ρ 6) (get ρ 7) (get ρ 8) := rc_reg_O.trans (by kernel_rfl)
@[go_sem] noncomputable def R_steadfastlaw18_BankFull_9 (_base : Nat) (s : St) (v0 v5 v6 v7 v8 : V) : Option (Ex × Env × St) :=
  obind (vbin .add v8 (.int .i64 1)) fun x0 =>
  some (.normal, [(0, v0), (5, v5), (6, v6), (7, v7), (8, x0)], s)
@[go_sem] theorem rc_steadfastlaw18_BankFull_9 {base : Nat} {ρ : Env} {s : St} : rc D base (.reg (some [0, 5, 6, 7, 8]) o_steadfastlaw18_BankFull_9) ρ s = R_steadfastlaw18_BankFull_9 base s (get ρ 0) (get ρ 5) (get ρ 6) (get ρ 7) (get ρ 8) := rc_reg_O.trans (by kernel_rfl)
@[go_sem] noncomputable def R_steadfastlaw18_BankFull_10 (_base : Nat) (s : St) (v0 v5 v6 v7 : V) : Option (Ex × Env × St) :=
  obind (rf D f_steadfastlaw18_made [v7] s) fun x0 =>
  obind (extv 0 x0.1) fun x1 =>
  obind (extv 1 x0.1) fun _x2 =>
  some (.normal, [(0, v0), (5, v5), (6, v6), (9, x1)], x0.2)
@[go_sem] theorem rc_steadfastlaw18_BankFull_10 {base : Nat} {ρ : Env} {s : St} : rc D base (.reg (some [0, 5, 6, 9]) o_steadfastlaw18_BankFull_10) ρ s = R_steadfastlaw18_BankFull_10 base s (get ρ 0) (get ρ 5) (get ρ 6) (get ρ 7) := rc_reg_O.trans (by kernel_rfl)
@[go_sem] noncomputable def R_steadfastlaw18_BankFull_11 (_base : Nat) (s : St) (v0 v5 v6 v9 : V) : Option (Ex × Env × St) :=
  obind (setParts [(.int .i64 0), (.int .i64 0), (.int .i64 0), (.int .i64 0), (.int .i64 0)] [(0, (.int .i64 5)), (1, (.int .i64 2))]) fun x0 =>
  obind (rf D f_caps_Word [(.agg 40 x0)] s) fun x1 =>
  obind (extv 0 x1.1) fun x2 =>
  obind (extv 1 x1.1) fun _x3 =>
  some (.normal, [(0, v0), (5, v5), (6, v6), (9, v9), (11, x2)], x1.2)
@[go_sem] theorem rc_steadfastlaw18_BankFull_11 {base : Nat} {ρ : Env} {s : St} : rc D base (.reg (some [0, 5, 6, 9, 11]) o_steadfastlaw18_BankFull_11) ρ s = R_steadfastlaw18_BankFull_11 base s (get ρ 0) (get ρ 5) (get ρ 6) (get ρ 9) := rc_reg_O.trans (by kernel_rfl)
@[go_sem] noncomputable def R_steadfastlaw18_BankFull_12 (_base : Nat) (s : St) (v0 v5 v6 v9 v11 : V) : Option (Ex × Env × St) :=
  obind (vun .not v5) fun x0 =>
  oguard x0 false (
    obind (eqv false 1 v9 .nilp) fun x1 =>
    some (.normal, [(0, v0), (6, v6), (9, v9), (11, v11), (50, x1)], s)) (
    some (.normal, [(0, v0), (6, v6), (9, v9), (11, v11), (50, (.bool true))], s)) (
    none)
@[go_sem] theorem rc_steadfastlaw18_BankFull_12 {base : Nat} {ρ : Env} {s : St} : rc D base (.reg (some [0, 6, 9, 11, 50]) o_steadfastlaw18_BankFull_12) ρ s = R_steadfastlaw18_BankFull_12 base s (get ρ 0) (get ρ 5) (get ρ 6) (get ρ 9) (get ρ 11) := rc_reg_O.trans (by kernel_rfl)
@[go_sem] noncomputable def R_steadfastlaw18_BankFull_13 (_base : Nat) (s : St) : Option (Ex × Env × St) :=
  some (.normal, [(4, (.bool false))], s)
@[go_sem] theorem rc_steadfastlaw18_BankFull_13 {base : Nat} {ρ : Env} {s : St} : rc D base (.reg (some [4]) o_steadfastlaw18_BankFull_13) ρ s = R_steadfastlaw18_BankFull_13 base s := rc_reg_O.trans (by kernel_rfl)
@[go_sem] noncomputable def R_steadfastlaw18_BankFull_14 (_base : Nat) (s : St) (v0 v6 v9 v11 : V) : Option (Ex × Env × St) :=
  obind (rf D f_bank_Make [v9, v11, v0] s) fun x0 =>
  obind (extv 0 x0.1) fun x1 =>
  obind (extv 1 x0.1) fun x2 =>
  obind (extv 2 x0.1) fun x3 =>
  some (.normal, [(0, v0), (6, v6), (13, x1), (14, x2), (15, x3)], x0.2)
@[go_sem] theorem rc_steadfastlaw18_BankFull_14 {base : Nat} {ρ : Env} {s : St} : rc D base (.reg (some [0, 6, 13, 14, 15]) o_steadfastlaw18_BankFull_14) ρ s = R_steadfastlaw18_BankFull_14 base s (get ρ 0) (get ρ 6) (get ρ 9) (get ρ 11) := rc_reg_O.trans (by kernel_rfl)
@[go_sem] noncomputable def R_steadfastlaw18_BankFull_15 (_base : Nat) (s : St) (v0 v6 v13 v14 v15 : V) : Option (Ex × Env × St) :=
  obind (vbin .neq v0 (.int .i64 1)) fun x0 =>
  oguard x0 true (
    obind (vbin .neq v0 (.int .i64 2)) fun x1 =>
    oguard x1 true (
      obind (vbin .neq v0 (.int .i64 4)) fun x2 =>
      some (.normal, [(0, v0), (6, v6), (13, v13), (14, v14), (15, v15), (68, x2)], s)) (
      some (.normal, [(0, v0), (6, v6), (13, v13), (14, v14), (15, v15), (68, (.bool false))], s)) (
      none)) (
    some (.normal, [(0, v0), (6, v6), (13, v13), (14, v14), (15, v15), (68, (.bool false))], s)) (
    none)
@[go_sem] theorem rc_steadfastlaw18_BankFull_15 {base : Nat} {ρ : Env} {s : St} : rc D base (.reg (some [0, 6, 13, 14, 15, 68]) o_steadfastlaw18_BankFull_15) ρ s = R_steadfastlaw18_BankFull_15 base s (get ρ 0) (get ρ 6) (get ρ 13) (get ρ 14) (get ρ 15) := rc_reg_O.trans (by kernel_rfl)
@[go_sem] noncomputable def R_steadfastlaw18_BankFull_16 (_base : Nat) (s : St) (v13 v14 v15 : V) : Option (Ex × Env × St) :=
  obind (vbin .eql v15 (.int .i64 1)) fun x0 =>
  oguard x0 true (
    obind (vbin .eql v13 (.int .i64 0)) fun x1 =>
    oguard x1 true (
      obind (vbin .eql v14 (.int .u64 0)) fun x2 =>
      some (.normal, [(4, x2)], s)) (
      some (.normal, [(4, (.bool false))], s)) (
      none)) (
    some (.normal, [(4, (.bool false))], s)) (
    none)
@[go_sem] theorem rc_steadfastlaw18_BankFull_16 {base : Nat} {ρ : Env} {s : St} : rc D base (.reg (some [4]) o_steadfastlaw18_BankFull_16) ρ s = R_steadfastlaw18_BankFull_16 base s (get ρ 13) (get ρ 14) (get ρ 15) := rc_reg_O.trans (by kernel_rfl)
@[go_sem] noncomputable def R_steadfastlaw18_BankFull_17 (_base : Nat) (s : St) (v0 v6 v13 v14 v15 : V) : Option (Ex × Env × St) :=
  obind (vbin .eql v6 (.int .i64 49)) fun x0 =>
  some (.normal, [(0, v0), (6, v6), (13, v13), (14, v14), (15, v15), (80, x0)], s)
@[go_sem] theorem rc_steadfastlaw18_BankFull_17 {base : Nat} {ρ : Env} {s : St} : rc D base (.reg (some [0, 6, 13, 14, 15, 80]) o_steadfastlaw18_BankFull_17) ρ s = R_steadfastlaw18_BankFull_17 base s (get ρ 0) (get ρ 6) (get ρ 13) (get ρ 14) (get ρ 15) := rc_reg_O.trans (by kernel_rfl)
@[go_sem] noncomputable def R_steadfastlaw18_BankFull_18 (_base : Nat) (s : St) (v13 v14 v15 : V) : Option (Ex × Env × St) :=
  obind (vbin .eql v15 (.int .i64 34)) fun x0 =>
  oguard x0 true (
    obind (vbin .eql v13 (.int .i64 0)) fun x1 =>
    oguard x1 true (
      obind (vbin .eql v14 (.int .u64 0)) fun x2 =>
      some (.normal, [(4, x2)], s)) (
      some (.normal, [(4, (.bool false))], s)) (
      none)) (
    some (.normal, [(4, (.bool false))], s)) (
    none)
@[go_sem] theorem rc_steadfastlaw18_BankFull_18 {base : Nat} {ρ : Env} {s : St} : rc D base (.reg (some [4]) o_steadfastlaw18_BankFull_18) ρ s = R_steadfastlaw18_BankFull_18 base s (get ρ 13) (get ρ 14) (get ρ 15) := rc_reg_O.trans (by kernel_rfl)
@[go_sem] noncomputable def R_steadfastlaw18_BankFull_19 (base : Nat) (s : St) (v0 v6 v13 v14 v15 : V) : Option (Ex × Env × St) :=
  obind (rf D f_caps_Of [v14] s) fun x0 =>
  obind (extv 0 x0.1) fun x1 =>
  obind (extv 1 x0.1) fun x2 =>
  let x3 : V := .ptr (St.fresh x0.2 false) [] 40; let s3 : St := St.new x0.2 false (.agg 40 [(.int .i64 0), (.int .i64 0), (.int .i64 0), (.int .i64 0), (.int .i64 0)])
  obind (stv base s3 40 x1 x3) fun s4 =>
  some (.normal, [(0, v0), (6, v6), (13, v13), (15, v15), (16, x3), (17, x2)], s4)
@[go_sem] theorem rc_steadfastlaw18_BankFull_19 {base : Nat} {ρ : Env} {s : St} : rc D base (.reg (some [0, 6, 13, 15, 16, 17]) o_steadfastlaw18_BankFull_19) ρ s = R_steadfastlaw18_BankFull_19 base s (get ρ 0) (get ρ 6) (get ρ 13) (get ρ 14) (get ρ 15) := rc_reg_O.trans (by kernel_rfl)
@[go_sem] noncomputable def R_steadfastlaw18_BankFull_20 (_base : Nat) (s : St) (v0 v6 v13 v15 v16 v17 : V) : Option (Ex × Env × St) :=
  obind (vbin .eql v15 (.int .i64 0)) fun x0 =>
  oguard x0 true (
    obind (vbin .eql v13 v6) fun x1 =>
    oguard x1 true (
      oguard v17 true (
        obind (ldv s 40 v16) fun x2 =>
        obind (setParts [(.int .i64 0), (.int .i64 0), (.int .i64 0), (.int .i64 0), (.int .i64 0)] [(0, v0), (1, (.int .i64 15)), (2, v6)]) fun x3 =>
        obind (eqv false 40 x2 (.agg 40 x3)) fun x4 =>
        some (.normal, [(4, x4)], s)) (
        some (.normal, [(4, (.bool false))], s)) (
        none)) (
      some (.normal, [(4, (.bool false))], s)) (
      none)) (
    some (.normal, [(4, (.bool false))], s)) (
    none)
@[go_sem] theorem rc_steadfastlaw18_BankFull_20 {base : Nat} {ρ : Env} {s : St} : rc D base (.reg (some [4]) o_steadfastlaw18_BankFull_20) ρ s = R_steadfastlaw18_BankFull_20 base s (get ρ 0) (get ρ 6) (get ρ 13) (get ρ 15) (get ρ 16) (get ρ 17) := rc_reg_O.trans (by kernel_rfl)

@[go_sem] noncomputable def R_steadfastlaw18_BankEnds_0 (_base : Nat) (s : St) (v0 v1 v2 : V) : Option (Ex × Env × St) :=
  some (.normal, [(0, v0), (1, v1), (2, v2)], s)
@[go_sem] theorem rc_steadfastlaw18_BankEnds_0 {base : Nat} {ρ : Env} {s : St} : rc D base (.reg (some [0, 1, 2]) o_steadfastlaw18_BankEnds_0) ρ s = R_steadfastlaw18_BankEnds_0 base s (get ρ 0) (get ρ 1) (get ρ 2) := rc_reg_O.trans (by kernel_rfl)
@[go_sem] noncomputable def R_steadfastlaw18_BankEnds_1 (_base : Nat) (s : St) (v0 v1 v2 : V) : Option (Ex × Env × St) :=
  obind (rf D f_steadfastlaw18_shown [] s) fun x0 =>
  some (.normal, [(0, v0), (1, v1), (2, v2), (7, x0.1)], x0.2)
@[go_sem] theorem rc_steadfastlaw18_BankEnds_1 {base : Nat} {ρ : Env} {s : St} : rc D base (.reg (some [0, 1, 2, 7]) o_steadfastlaw18_BankEnds_1) ρ s = R_steadfastlaw18_BankEnds_1 base s (get ρ 0) (get ρ 1) (get ρ 2) := rc_reg_O.trans (by kernel_rfl)
@[go_sem] noncomputable def R_steadfastlaw18_BankEnds_2 (_base : Nat) (s : St) (v0 v1 v2 v7 : V) : Option (Ex × Env × St) :=
  obind (rf D f_steadfastlaw18_made [v0] s) fun x0 =>
  obind (extv 0 x0.1) fun x1 =>
  obind (extv 1 x0.1) fun x2 =>
  some (.normal, [(1, v1), (2, v2), (7, v7), (8, x1), (9, x2)], x0.2)
@[go_sem] theorem rc_steadfastlaw18_BankEnds_2 {base : Nat} {ρ : Env} {s : St} : rc D base (.reg (some [1, 2, 7, 8, 9]) o_steadfastlaw18_BankEnds_2) ρ s = R_steadfastlaw18_BankEnds_2 base s (get ρ 0) (get ρ 1) (get ρ 2) (get ρ 7) := rc_reg_O.trans (by kernel_rfl)
@[go_sem] noncomputable def R_steadfastlaw18_BankEnds_3 (_base : Nat) (s : St) (v1 v2 v7 v8 v9 : V) : Option (Ex × Env × St) :=
  obind (vun .not v7) fun x0 =>
  oguard x0 false (
    obind (eqv false 1 v8 .nilp) fun x1 =>
    some (.normal, [(1, v1), (2, v2), (8, v8), (9, v9), (32, x1)], s)) (
    some (.normal, [(1, v1), (2, v2), (8, v8), (9, v9), (32, (.bool true))], s)) (
    none)
@[go_sem] theorem rc_steadfastlaw18_BankEnds_3 {base : Nat} {ρ : Env} {s : St} : rc D base (.reg (some [1, 2, 8, 9, 32]) o_steadfastlaw18_BankEnds_3) ρ s = R_steadfastlaw18_BankEnds_3 base s (get ρ 1) (get ρ 2) (get ρ 7) (get ρ 8) (get ρ 9) := rc_reg_O.trans (by kernel_rfl)
@[go_sem] noncomputable def R_steadfastlaw18_BankEnds_4 (_base : Nat) (s : St) : Option (Ex × Env × St) :=
  some (.normal, [(6, (.bool false))], s)
@[go_sem] theorem rc_steadfastlaw18_BankEnds_4 {base : Nat} {ρ : Env} {s : St} : rc D base (.reg (some [6]) o_steadfastlaw18_BankEnds_4) ρ s = R_steadfastlaw18_BankEnds_4 base s := rc_reg_O.trans (by kernel_rfl)
@[go_sem] noncomputable def R_steadfastlaw18_BankEnds_5 (_base : Nat) (s : St) (v1 v2 v8 v9 : V) : Option (Ex × Env × St) :=
  obind (rf D f_bank_End [v8, v1, v2] s) fun x0 =>
  obind (extv 0 x0.1) fun x1 =>
  obind (extv 1 x0.1) fun x2 =>
  some (.normal, [(1, v1), (2, v2), (8, v8), (9, v9), (10, x1), (11, x2)], x0.2)
@[go_sem] theorem rc_steadfastlaw18_BankEnds_5 {base : Nat} {ρ : Env} {s : St} : rc D base (.reg (some [1, 2, 8, 9, 10, 11]) o_steadfastlaw18_BankEnds_5) ρ s = R_steadfastlaw18_BankEnds_5 base s (get ρ 1) (get ρ 2) (get ρ 8) (get ρ 9) := rc_reg_O.trans (by kernel_rfl)
@[go_sem] noncomputable def R_steadfastlaw18_BankEnds_6 (_base : Nat) (s : St) (v1 v2 v8 v9 v10 v11 : V) : Option (Ex × Env × St) :=
  obind (rf D f_steadfastref18_End [v9, v1, v2] s) fun x0 =>
  obind (extv 0 x0.1) fun x1 =>
  obind (extv 1 x0.1) fun x2 =>
  some (.normal, [(1, v1), (2, v2), (8, v8), (10, v10), (11, v11), (12, x1), (13, x2)], x0.2)
@[go_sem] theorem rc_steadfastlaw18_BankEnds_6 {base : Nat} {ρ : Env} {s : St} : rc D base (.reg (some [1, 2, 8, 10, 11, 12, 13]) o_steadfastlaw18_BankEnds_6) ρ s = R_steadfastlaw18_BankEnds_6 base s (get ρ 1) (get ρ 2) (get ρ 8) (get ρ 9) (get ρ 10) (get ρ 11) := rc_reg_O.trans (by kernel_rfl)
@[go_sem] noncomputable def R_steadfastlaw18_BankEnds_7 (_base : Nat) (s : St) (v1 v2 v8 v10 v11 v12 v13 : V) : Option (Ex × Env × St) :=
  obind (vbin .neq v10 v12) fun x0 =>
  oguard x0 false (
    obind (vbin .neq v11 v13) fun x1 =>
    some (.normal, [(1, v1), (2, v2), (8, v8), (10, v10), (11, v11), (54, x1)], s)) (
    some (.normal, [(1, v1), (2, v2), (8, v8), (10, v10), (11, v11), (54, (.bool true))], s)) (
    none)
@[go_sem] theorem rc_steadfastlaw18_BankEnds_7 {base : Nat} {ρ : Env} {s : St} : rc D base (.reg (some [1, 2, 8, 10, 11, 54]) o_steadfastlaw18_BankEnds_7) ρ s = R_steadfastlaw18_BankEnds_7 base s (get ρ 1) (get ρ 2) (get ρ 8) (get ρ 10) (get ρ 11) (get ρ 12) (get ρ 13) := rc_reg_O.trans (by kernel_rfl)
@[go_sem] noncomputable def R_steadfastlaw18_BankEnds_8 (_base : Nat) (s : St) : Option (Ex × Env × St) :=
  some (.normal, [(6, (.bool false))], s)
@[go_sem] theorem rc_steadfastlaw18_BankEnds_8 {base : Nat} {ρ : Env} {s : St} : rc D base (.reg (some [6]) o_steadfastlaw18_BankEnds_8) ρ s = R_steadfastlaw18_BankEnds_8 base s := rc_reg_O.trans (by kernel_rfl)
@[go_sem] noncomputable def R_steadfastlaw18_BankEnds_9 (_base : Nat) (s : St) (v1 v2 v8 v10 v11 : V) : Option (Ex × Env × St) :=
  obind (vbin .neq v11 (.int .i64 0)) fun x0 =>
  some (.normal, [(1, v1), (2, v2), (8, v8), (10, v10), (56, x0)], s)
@[go_sem] theorem rc_steadfastlaw18_BankEnds_9 {base : Nat} {ρ : Env} {s : St} : rc D base (.reg (some [1, 2, 8, 10, 56]) o_steadfastlaw18_BankEnds_9) ρ s = R_steadfastlaw18_BankEnds_9 base s (get ρ 1) (get ρ 2) (get ρ 8) (get ρ 10) (get ρ 11) := rc_reg_O.trans (by kernel_rfl)
@[go_sem] noncomputable def R_steadfastlaw18_BankEnds_10 (_base : Nat) (s : St) : Option (Ex × Env × St) :=
  some (.normal, [(6, (.bool true))], s)
@[go_sem] theorem rc_steadfastlaw18_BankEnds_10 {base : Nat} {ρ : Env} {s : St} : rc D base (.reg (some [6]) o_steadfastlaw18_BankEnds_10) ρ s = R_steadfastlaw18_BankEnds_10 base s := rc_reg_O.trans (by kernel_rfl)
@[go_sem] noncomputable def R_steadfastlaw18_BankEnds_11 (_base : Nat) (s : St) (v1 v2 v8 v10 : V) : Option (Ex × Env × St) :=
  obind (rf D f_objects_Store_Names [v8, v2] s) fun x0 =>
  obind (extv 0 x0.1) fun x1 =>
  obind (extv 1 x0.1) fun x2 =>
  some (.normal, [(1, v1), (2, v2), (8, v8), (10, v10), (14, x1), (15, x2)], x0.2)
@[go_sem] theorem rc_steadfastlaw18_BankEnds_11 {base : Nat} {ρ : Env} {s : St} : rc D base (.reg (some [1, 2, 8, 10, 14, 15]) o_steadfastlaw18_BankEnds_11) ρ s = R_steadfastlaw18_BankEnds_11 base s (get ρ 1) (get ρ 2) (get ρ 8) (get ρ 10) := rc_reg_O.trans (by kernel_rfl)
@[go_sem] noncomputable def R_steadfastlaw18_BankEnds_12 (_base : Nat) (s : St) (v1 v2 v8 v10 v14 v15 : V) : Option (Ex × Env × St) :=
  obind (rf D f_objects_Store_End [v8, v10] s) fun x0 =>
  some (.normal, [(1, v1), (2, v2), (8, v8), (10, v10), (14, v14), (15, v15), (16, x0.1)], x0.2)
@[go_sem] theorem rc_steadfastlaw18_BankEnds_12 {base : Nat} {ρ : Env} {s : St} : rc D base (.reg (some [1, 2, 8, 10, 14, 15, 16]) o_steadfastlaw18_BankEnds_12) ρ s = R_steadfastlaw18_BankEnds_12 base s (get ρ 1) (get ρ 2) (get ρ 8) (get ρ 10) (get ρ 14) (get ρ 15) := rc_reg_O.trans (by kernel_rfl)
@[go_sem] noncomputable def R_steadfastlaw18_BankEnds_13 (_base : Nat) (s : St) (v1 v2 v8 v10 v14 v15 v16 : V) : Option (Ex × Env × St) :=
  obind (rf D f_objects_Store_Names [v8, v2] s) fun x0 =>
  obind (extv 0 x0.1) fun _x1 =>
  obind (extv 1 x0.1) fun x2 =>
  some (.normal, [(1, v1), (2, v2), (8, v8), (10, v10), (14, v14), (15, v15), (16, v16), (18, x2)], x0.2)
@[go_sem] theorem rc_steadfastlaw18_BankEnds_13 {base : Nat} {ρ : Env} {s : St} : rc D base (.reg (some [1, 2, 8, 10, 14, 15, 16, 18]) o_steadfastlaw18_BankEnds_13) ρ s = R_steadfastlaw18_BankEnds_13 base s (get ρ 1) (get ρ 2) (get ρ 8) (get ρ 10) (get ρ 14) (get ρ 15) (get ρ 16) := rc_reg_O.trans (by kernel_rfl)
@[go_sem] noncomputable def R_steadfastlaw18_BankEnds_14 (_base : Nat) (s : St) (v1 v2 v8 v10 v14 v15 v16 v18 : V) : Option (Ex × Env × St) :=
  obind (rf D f_bank_End [v8, v1, v2] s) fun x0 =>
  obind (extv 0 x0.1) fun _x1 =>
  obind (extv 1 x0.1) fun x2 =>
  some (.normal, [(10, v10), (14, v14), (15, v15), (16, v16), (18, v18), (20, x2)], x0.2)
@[go_sem] theorem rc_steadfastlaw18_BankEnds_14 {base : Nat} {ρ : Env} {s : St} : rc D base (.reg (some [10, 14, 15, 16, 18, 20]) o_steadfastlaw18_BankEnds_14) ρ s = R_steadfastlaw18_BankEnds_14 base s (get ρ 1) (get ρ 2) (get ρ 8) (get ρ 10) (get ρ 14) (get ρ 15) (get ρ 16) (get ρ 18) := rc_reg_O.trans (by kernel_rfl)
@[go_sem] noncomputable def R_steadfastlaw18_BankEnds_15 (_base : Nat) (s : St) (v10 v14 v15 v16 v18 v20 : V) : Option (Ex × Env × St) :=
  obind (vbin .eql v14 v10) fun x0 =>
  oguard x0 true (
    obind (vbin .eql v15 (.int .i64 0)) fun x1 =>
    oguard x1 true (
      obind (vbin .eql v16 (.int .i64 0)) fun x2 =>
      oguard x2 true (
        obind (vbin .neq v18 (.int .i64 0)) fun x3 =>
        oguard x3 true (
          obind (vbin .eql v20 v18) fun x4 =>
          some (.normal, [(6, x4)], s)) (
          some (.normal, [(6, (.bool false))], s)) (
          none)) (
        some (.normal, [(6, (.bool false))], s)) (
        none)) (
      some (.normal, [(6, (.bool false))], s)) (
      none)) (
    some (.normal, [(6, (.bool false))], s)) (
    none)
@[go_sem] theorem rc_steadfastlaw18_BankEnds_15 {base : Nat} {ρ : Env} {s : St} : rc D base (.reg (some [6]) o_steadfastlaw18_BankEnds_15) ρ s = R_steadfastlaw18_BankEnds_15 base s (get ρ 10) (get ρ 14) (get ρ 15) (get ρ 16) (get ρ 18) (get ρ 20) := rc_reg_O.trans (by kernel_rfl)

@[go_sem] noncomputable def R_steadfastlaw18_shown_0 (_base : Nat) (s : St) : Option (Ex × Env × St) :=
  some (.normal, [], s)
@[go_sem] theorem rc_steadfastlaw18_shown_0 {base : Nat} {ρ : Env} {s : St} : rc D base (.reg (some []) o_steadfastlaw18_shown_0) ρ s = R_steadfastlaw18_shown_0 base s := rc_reg_O.trans (by kernel_rfl)
@[go_sem] noncomputable def R_steadfastlaw18_shown_1 (_base : Nat) (s : St) : Option (Ex × Env × St) :=
  obind (rf D f_steadfastlaw18_made [.nils] s) fun x0 =>
  obind (extv 0 x0.1) fun x1 =>
  obind (extv 1 x0.1) fun _x2 =>
  some (.normal, [(1, x1)], x0.2)
@[go_sem] theorem rc_steadfastlaw18_shown_1 {base : Nat} {ρ : Env} {s : St} : rc D base (.reg (some [1]) o_steadfastlaw18_shown_1) ρ s = R_steadfastlaw18_shown_1 base s := rc_reg_O.trans (by kernel_rfl)
@[go_sem] noncomputable def R_steadfastlaw18_shown_2 (_base : Nat) (s : St) (v1 : V) : Option (Ex × Env × St) :=
  obind (eqv false 1 v1 .nilp) fun x0 =>
  some (.normal, [(1, v1), (23, x0)], s)
@[go_sem] theorem rc_steadfastlaw18_shown_2 {base : Nat} {ρ : Env} {s : St} : rc D base (.reg (some [1, 23]) o_steadfastlaw18_shown_2) ρ s = R_steadfastlaw18_shown_2 base s (get ρ 1) := rc_reg_O.trans (by kernel_rfl)
@[go_sem] noncomputable def R_steadfastlaw18_shown_3 (_base : Nat) (s : St) : Option (Ex × Env × St) :=
  some (.normal, [(0, (.bool false))], s)
@[go_sem] theorem rc_steadfastlaw18_shown_3 {base : Nat} {ρ : Env} {s : St} : rc D base (.reg (some [0]) o_steadfastlaw18_shown_3) ρ s = R_steadfastlaw18_shown_3 base s := rc_reg_O.trans (by kernel_rfl)
@[go_sem] noncomputable def R_steadfastlaw18_shown_4 (_base : Nat) (s : St) (v1 : V) : Option (Ex × Env × St) :=
  obind (setParts [(.int .i64 0), (.int .i64 0), (.int .i64 0), (.int .i64 0), (.int .i64 0)] [(0, (.int .i64 5)), (1, (.int .i64 1))]) fun x0 =>
  obind (rf D f_steadfastref07_Word [(.agg 40 x0)] s) fun x1 =>
  obind (extv 0 x1.1) fun x2 =>
  obind (extv 1 x1.1) fun _x3 =>
  some (.normal, [(1, v1), (3, x2)], x1.2)
@[go_sem] theorem rc_steadfastlaw18_shown_4 {base : Nat} {ρ : Env} {s : St} : rc D base (.reg (some [1, 3]) o_steadfastlaw18_shown_4) ρ s = R_steadfastlaw18_shown_4 base s (get ρ 1) := rc_reg_O.trans (by kernel_rfl)
@[go_sem] noncomputable def R_steadfastlaw18_shown_5 (_base : Nat) (s : St) (v1 v3 : V) : Option (Ex × Env × St) :=
  obind (setParts [(.int .i64 0), (.int .i64 0), (.int .i64 0), (.int .i64 0), (.int .i64 0)] [(0, (.int .i64 5)), (1, (.int .i64 3))]) fun x0 =>
  obind (rf D f_steadfastref07_Word [(.agg 40 x0)] s) fun x1 =>
  obind (extv 0 x1.1) fun x2 =>
  obind (extv 1 x1.1) fun _x3 =>
  some (.normal, [(1, v1), (3, v3), (5, x2)], x1.2)
@[go_sem] theorem rc_steadfastlaw18_shown_5 {base : Nat} {ρ : Env} {s : St} : rc D base (.reg (some [1, 3, 5]) o_steadfastlaw18_shown_5) ρ s = R_steadfastlaw18_shown_5 base s (get ρ 1) (get ρ 3) := rc_reg_O.trans (by kernel_rfl)
@[go_sem] noncomputable def R_steadfastlaw18_shown_6 (_base : Nat) (s : St) (v1 v3 v5 : V) : Option (Ex × Env × St) :=
  obind (rf D f_bank_Make [v1, (.int .u64 0), (.int .i64 1)] s) fun x0 =>
  obind (extv 0 x0.1) fun _x1 =>
  obind (extv 1 x0.1) fun _x2 =>
  obind (extv 2 x0.1) fun x3 =>
  some (.normal, [(1, v1), (3, v3), (5, v5), (9, x3)], x0.2)
@[go_sem] theorem rc_steadfastlaw18_shown_6 {base : Nat} {ρ : Env} {s : St} : rc D base (.reg (some [1, 3, 5, 9]) o_steadfastlaw18_shown_6) ρ s = R_steadfastlaw18_shown_6 base s (get ρ 1) (get ρ 3) (get ρ 5) := rc_reg_O.trans (by kernel_rfl)
@[go_sem] noncomputable def R_steadfastlaw18_shown_7 (_base : Nat) (s : St) (v1 v3 v5 v9 : V) : Option (Ex × Env × St) :=
  obind (rf D f_bank_Make [v1, v3, (.int .i64 1)] s) fun x0 =>
  obind (extv 0 x0.1) fun _x1 =>
  obind (extv 1 x0.1) fun _x2 =>
  obind (extv 2 x0.1) fun x3 =>
  some (.normal, [(1, v1), (5, v5), (9, v9), (12, x3)], x0.2)
@[go_sem] theorem rc_steadfastlaw18_shown_7 {base : Nat} {ρ : Env} {s : St} : rc D base (.reg (some [1, 5, 9, 12]) o_steadfastlaw18_shown_7) ρ s = R_steadfastlaw18_shown_7 base s (get ρ 1) (get ρ 3) (get ρ 5) (get ρ 9) := rc_reg_O.trans (by kernel_rfl)
@[go_sem] noncomputable def R_steadfastlaw18_shown_8 (_base : Nat) (s : St) (v1 v5 v9 v12 : V) : Option (Ex × Env × St) :=
  obind (rf D f_bank_End [v1, v5, (.int .u64 0)] s) fun x0 =>
  obind (extv 0 x0.1) fun _x1 =>
  obind (extv 1 x0.1) fun x2 =>
  some (.normal, [(1, v1), (5, v5), (9, v9), (12, v12), (14, x2)], x0.2)
@[go_sem] theorem rc_steadfastlaw18_shown_8 {base : Nat} {ρ : Env} {s : St} : rc D base (.reg (some [1, 5, 9, 12, 14]) o_steadfastlaw18_shown_8) ρ s = R_steadfastlaw18_shown_8 base s (get ρ 1) (get ρ 5) (get ρ 9) (get ρ 12) := rc_reg_O.trans (by kernel_rfl)
@[go_sem] noncomputable def R_steadfastlaw18_shown_9 (_base : Nat) (s : St) (v1 v5 v9 v12 v14 : V) : Option (Ex × Env × St) :=
  obind (rf D f_bank_Make [v1, v5, (.int .i64 1)] s) fun x0 =>
  obind (extv 0 x0.1) fun x1 =>
  obind (extv 1 x0.1) fun x2 =>
  obind (extv 2 x0.1) fun x3 =>
  some (.normal, [(9, v9), (12, v12), (14, v14), (15, x1), (16, x2), (17, x3)], x0.2)
@[go_sem] theorem rc_steadfastlaw18_shown_9 {base : Nat} {ρ : Env} {s : St} : rc D base (.reg (some [9, 12, 14, 15, 16, 17]) o_steadfastlaw18_shown_9) ρ s = R_steadfastlaw18_shown_9 base s (get ρ 1) (get ρ 5) (get ρ 9) (get ρ 12) (get ρ 14) := rc_reg_O.trans (by kernel_rfl)
@[go_sem] noncomputable def R_steadfastlaw18_shown_10 (_base : Nat) (s : St) (v9 v12 v14 v15 v16 v17 : V) : Option (Ex × Env × St) :=
  obind (vbin .eql v9 (.int .i64 31)) fun x0 =>
  oguard x0 true (
    obind (vbin .eql v12 (.int .i64 32)) fun x1 =>
    oguard x1 true (
      obind (vbin .eql v14 (.int .i64 31)) fun x2 =>
      oguard x2 true (
        obind (vbin .eql v15 (.int .i64 0)) fun x3 =>
        oguard x3 true (
          obind (vbin .eql v16 (.int .u64 241)) fun x4 =>
          oguard x4 true (
            obind (vbin .eql v17 (.int .i64 0)) fun x5 =>
            some (.normal, [(0, x5)], s)) (
            some (.normal, [(0, (.bool false))], s)) (
            none)) (
          some (.normal, [(0, (.bool false))], s)) (
          none)) (
        some (.normal, [(0, (.bool false))], s)) (
        none)) (
      some (.normal, [(0, (.bool false))], s)) (
      none)) (
    some (.normal, [(0, (.bool false))], s)) (
    none)
@[go_sem] theorem rc_steadfastlaw18_shown_10 {base : Nat} {ρ : Env} {s : St} : rc D base (.reg (some [0]) o_steadfastlaw18_shown_10) ρ s = R_steadfastlaw18_shown_10 base s (get ρ 9) (get ρ 12) (get ρ 14) (get ρ 15) (get ρ 16) (get ρ 17) := rc_reg_O.trans (by kernel_rfl)

@[go_sem] noncomputable def R_steadfastlaw18_made_0 (_base : Nat) (s : St) (v0 : V) : Option (Ex × Env × St) :=
  some (.normal, [(0, v0)], s)
@[go_sem] theorem rc_steadfastlaw18_made_0 {base : Nat} {ρ : Env} {s : St} : rc D base (.reg (some [0]) o_steadfastlaw18_made_0) ρ s = R_steadfastlaw18_made_0 base s (get ρ 0) := rc_reg_O.trans (by kernel_rfl)
@[go_sem] noncomputable def R_steadfastlaw18_made_1 (_base : Nat) (s : St) (v0 : V) : Option (Ex × Env × St) :=
  obind (mkslv false 58 24 (.agg 24 (List.replicate 8 (.int .u64 0))) s (.int .i64 100) (.int .i64 100)) fun x0 =>
  some (.normal, [(0, v0), (4, x0.1)], x0.2)
@[go_sem] theorem rc_steadfastlaw18_made_1 {base : Nat} {ρ : Env} {s : St} : rc D base (.reg (some [0, 4]) o_steadfastlaw18_made_1) ρ s = R_steadfastlaw18_made_1 base s (get ρ 0) := rc_reg_O.trans (by kernel_rfl)
@[go_sem] noncomputable def R_steadfastlaw18_made_2 (base : Nat) (s : St) (v0 v4 : V) : Option (Ex × Env × St) :=
  obind (setParts (List.replicate 49 (.agg 42 [(.int .i64 0), (.int .i64 0), (.int .i64 0)])) []) fun x0 =>
  let x1 : V := .ptr (St.fresh s false) [] 48; let s1 : St := St.new s false (.agg 48 (List.replicate 49 (.agg 42 [(.int .i64 0), (.int .i64 0), (.int .i64 0)])))
  obind (stv base s1 48 (.agg 48 x0) x1) fun s2 =>
  some (.normal, [(0, v0), (4, v4), (5, x1)], s2)
@[go_sem] theorem rc_steadfastlaw18_made_2 {base : Nat} {ρ : Env} {s : St} : rc D base (.reg (some [0, 4, 5]) o_steadfastlaw18_made_2) ρ s = R_steadfastlaw18_made_2 base s (get ρ 0) (get ρ 4) := rc_reg_O.trans (by kernel_rfl)
@[go_sem] noncomputable def R_steadfastlaw18_made_3 (_base : Nat) (s : St) (v0 v4 v5 : V) : Option (Ex × Env × St) :=
  some (.normal, [(0, v0), (4, v4), (5, v5), (6, (.int .i64 0))], s)
@[go_sem] theorem rc_steadfastlaw18_made_3 {base : Nat} {ρ : Env} {s : St} : rc D base (.reg (some [0, 4, 5, 6]) o_steadfastlaw18_made_3) ρ s = R_steadfastlaw18_made_3 base s (get ρ 0) (get ρ 4) (get ρ 5) := rc_reg_O.trans (by kernel_rfl)
@[go_sem] noncomputable def R_steadfastlaw18_made_4 (_base : Nat) (s : St) (v0 v4 v5 v6 : V) : Option (Ex × Env × St) :=
  obind (V.slen false v0) fun x0 =>
  obind (vbin .lss v6 (.int .i64 x0)) fun x1 =>
  oguard x1 true (
    obind (vbin .lss v6 (.int .i64 49)) fun x2 =>
    some (.normal, [(0, v0), (4, v4), (5, v5), (6, v6), (28, x2)], s)) (
    some (.normal, [(0, v0), (4, v4), (5, v5), (6, v6), (28, (.bool false))], s)) (
    none)
@[go_sem] theorem rc_steadfastlaw18_made_4 {base : Nat} {ρ : Env} {s : St} : rc D base (.reg (some [0, 4, 5, 6, 28]) o_steadfastlaw18_made_4) ρ s = R_steadfastlaw18_made_4 base s (get ρ 0) (get ρ 4) (get ρ 5) (get ρ 6) := rc_reg_O.trans (by kernel_rfl)
@[go_sem] noncomputable def R_steadfastlaw18_made_5 (_base : Nat) (s : St) (v0 v4 v5 v6 : V) : Option (Ex × Env × St) :=
  obind (sadv 26 v0 v6) fun x0 =>
  obind (fadv 26 0 10 x0) fun x1 =>
  obind (ldv s 10 x1) fun x2 =>
  obind (vbin .rem x2 (.int .i64 5)) fun x3 =>
  some (.normal, [(0, v0), (4, v4), (5, v5), (6, v6), (7, x3)], s)
@[go_sem] theorem rc_steadfastlaw18_made_5 {base : Nat} {ρ : Env} {s : St} : rc D base (.reg (some [0, 4, 5, 6, 7]) o_steadfastlaw18_made_5) ρ s = R_steadfastlaw18_made_5 base s (get ρ 0) (get ρ 4) (get ρ 5) (get ρ 6) := rc_reg_O.trans (by kernel_rfl)
@[go_sem] noncomputable def R_steadfastlaw18_made_6 (_base : Nat) (s : St) (v0 v4 v5 v6 v7 : V) : Option (Ex × Env × St) :=
  obind (vbin .lss v7 (.int .i64 0)) fun x0 =>
  some (.normal, [(0, v0), (4, v4), (5, v5), (6, v6), (7, v7), (38, x0)], s)
@[go_sem] theorem rc_steadfastlaw18_made_6 {base : Nat} {ρ : Env} {s : St} : rc D base (.reg (some [0, 4, 5, 6, 7, 38]) o_steadfastlaw18_made_6) ρ s = R_steadfastlaw18_made_6 base s (get ρ 0) (get ρ 4) (get ρ 5) (get ρ 6) (get ρ 7) := rc_reg_O.trans (by kernel_rfl)
@[go_sem] noncomputable def R_steadfastlaw18_made_7 (_base : Nat) (s : St) (v0 v4 v5 v6 v7 : V) : Option (Ex × Env × St) :=
  obind (vun .neg v7) fun x0 =>
  some (.normal, [(0, v0), (4, v4), (5, v5), (6, v6), (7, x0)], s)
@[go_sem] theorem rc_steadfastlaw18_made_7 {base : Nat} {ρ : Env} {s : St} : rc D base (.reg (some [0, 4, 5, 6, 7]) o_steadfastlaw18_made_7) ρ s = R_steadfastlaw18_made_7 base s (get ρ 0) (get ρ 4) (get ρ 5) (get ρ 6) (get ρ 7) := rc_reg_O.trans (by kernel_rfl)
@[go_sem] noncomputable def R_steadfastlaw18_made_8 (_base : Nat) (s : St) (v0 v4 v5 v6 v7 : V) : Option (Ex × Env × St) :=
  obind (sadv 26 v0 v6) fun x0 =>
  obind (fadv 26 1 10 x0) fun x1 =>
  obind (ldv s 10 x1) fun x2 =>
  obind (vbin .rem x2 (.int .i64 16777216)) fun x3 =>
  some (.normal, [(0, v0), (4, v4), (5, v5), (6, v6), (7, v7), (8, x3)], s)
@[go_sem] theorem rc_steadfastlaw18_made_8 {base : Nat} {ρ : Env} {s : St} : rc D base (.reg (some [0, 4, 5, 6, 7, 8]) o_steadfastlaw18_made_8) ρ s = R_steadfastlaw18_made_8 base s (get ρ 0) (get ρ 4) (get ρ 5) (get ρ 6) (get ρ 7) := rc_reg_O.trans (by kernel_rfl)
@[go_sem] noncomputable def R_steadfastlaw18_made_9 (_base : Nat) (s : St) (v0 v4 v5 v6 v7 v8 : V) : Option (Ex × Env × St) :=
  obind (vbin .lss v8 (.int .i64 0)) fun x0 =>
  some (.normal, [(0, v0), (4, v4), (5, v5), (6, v6), (7, v7), (8, v8), (48, x0)], s)
@[go_sem] theorem rc_steadfastlaw18_made_9 {base : Nat} {ρ : Env} {s : St} : rc D base (.reg (some [0, 4, 5, 6, 7, 8, 48]) o_steadfastlaw18_made_9) ρ s = R_steadfastlaw18_made_9 base s (get ρ 0) (get ρ 4) (get ρ 5) (get ρ 6) (get ρ 7) (get ρ 8) := rc_reg_O.trans (by kernel_rfl)
@[go_sem] noncomputable def R_steadfastlaw18_made_10 (_base : Nat) (s : St) (v0 v4 v5 v6 v7 v8 : V) : Option (Ex × Env × St) :=
  obind (vun .neg v8) fun x0 =>
  some (.normal, [(0, v0), (4, v4), (5, v5), (6, v6), (7, v7), (8, x0)], s)
@[go_sem] theorem rc_steadfastlaw18_made_10 {base : Nat} {ρ : Env} {s : St} : rc D base (.reg (some [0, 4, 5, 6, 7, 8]) o_steadfastlaw18_made_10) ρ s = R_steadfastlaw18_made_10 base s (get ρ 0) (get ρ 4) (get ρ 5) (get ρ 6) (get ρ 7) (get ρ 8) := rc_reg_O.trans (by kernel_rfl)
@[go_sem] noncomputable def R_steadfastlaw18_made_11 (base : Nat) (s : St) (v0 v4 v5 v6 v7 v8 : V) : Option (Ex × Env × St) :=
  obind (setParts [(.int .i64 0), (.int .i64 0), (.int .i64 0)] [(0, v7), (1, v8)]) fun x0 =>
  obind (iadv 48 49 42 v5 v6) fun x1 =>
  obind (stv base s 42 (.agg 42 x0) x1) fun s2 =>
  some (.normal, [(0, v0), (4, v4), (5, v5), (6, v6), (7, v7)], s2)
@[go_sem] theorem rc_steadfastlaw18_made_11 {base : Nat} {ρ : Env} {s : St} : rc D base (.reg (some [0, 4, 5, 6, 7]) o_steadfastlaw18_made_11) ρ s = R_steadfastlaw18_made_11 base s (get ρ 0) (get ρ 4) (get ρ 5) (get ρ 6) (get ρ 7) (get ρ 8) := rc_reg_O.trans (by kernel_rfl)
@[go_sem] noncomputable def R_steadfastlaw18_made_12 (_base : Nat) (s : St) (v0 v4 v5 v6 v7 : V) : Option (Ex × Env × St) :=
  obind (vbin .neq v7 (.int .i64 0)) fun x0 =>
  some (.normal, [(0, v0), (4, v4), (5, v5), (6, v6), (57, x0)], s)
@[go_sem] theorem rc_steadfastlaw18_made_12 {base : Nat} {ρ : Env} {s : St} : rc D base (.reg (some [0, 4, 5, 6, 57]) o_steadfastlaw18_made_12) ρ s = R_steadfastlaw18_made_12 base s (get ρ 0) (get ρ 4) (get ρ 5) (get ρ 6) (get ρ 7) := rc_reg_O.trans (by kernel_rfl)
@[go_sem] noncomputable def R_steadfastlaw18_made_13 (base : Nat) (s : St) (v0 v4 v5 v6 : V) : Option (Ex × Env × St) :=
  obind (vbin .add (.int .i64 20) v6) fun x0 =>
  obind (iadv 48 49 42 v5 v6) fun x1 =>
  obind (fadv 42 2 10 x1) fun x2 =>
  obind (stv base s 10 x0 x2) fun s3 =>
  some (.normal, [(0, v0), (4, v4), (5, v5), (6, v6)], s3)
@[go_sem] theorem rc_steadfastlaw18_made_13 {base : Nat} {ρ : Env} {s : St} : rc D base (.reg (some [0, 4, 5, 6]) o_steadfastlaw18_made_13) ρ s = R_steadfastlaw18_made_13 base s (get ρ 0) (get ρ 4) (get ρ 5) (get ρ 6) := rc_reg_O.trans (by kernel_rfl)
@[go_sem] noncomputable def R_steadfastlaw18_made_14 (base : Nat) (s : St) (v0 v4 v5 v6 : V) : Option (Ex × Env × St) :=
  obind (vbin .add (.int .i64 20) v6) fun x0 =>
  obind (sadv 26 v0 v6) fun x1 =>
  obind (fadv 26 2 24 x1) fun x2 =>
  obind (ldv s 24 x2) fun x3 =>
  obind (sadv 24 v4 x0) fun x4 =>
  obind (stv base s 24 x3 x4) fun s5 =>
  some (.normal, [(0, v0), (4, v4), (5, v5), (6, v6)], s5)
@[go_sem] theorem rc_steadfastlaw18_made_14 {base : Nat} {ρ : Env} {s : St} : rc D base (.reg (some [0, 4, 5, 6]) o_steadfastlaw18_made_14) ρ s = R_steadfastlaw18_made_14 base s (get ρ 0) (get ρ 4) (get ρ 5) (get ρ 6) := rc_reg_O.trans (by kernel_rfl)
@[go_sem] noncomputable def R_steadfastlaw18_made_15 (_base : Nat) (s : St) (v0 v4 v5 v6 : V) : Option (Ex × Env × St) :=
  obind (vbin .add v6 (.int .i64 1)) fun x0 =>
  some (.normal, [(0, v0), (4, v4), (5, v5), (6, x0)], s)
@[go_sem] theorem rc_steadfastlaw18_made_15 {base : Nat} {ρ : Env} {s : St} : rc D base (.reg (some [0, 4, 5, 6]) o_steadfastlaw18_made_15) ρ s = R_steadfastlaw18_made_15 base s (get ρ 0) (get ρ 4) (get ρ 5) (get ρ 6) := rc_reg_O.trans (by kernel_rfl)
@[go_sem] noncomputable def R_steadfastlaw18_made_16 (base : Nat) (s : St) (v4 v5 : V) : Option (Ex × Env × St) :=
  obind (setParts (List.replicate 8 (.int .i64 0)) []) fun x0 =>
  let x1 : V := .ptr (St.fresh s false) [] 50; let s1 : St := St.new s false (.agg 50 (List.replicate 8 (.int .i64 0)))
  obind (stv base s1 50 (.agg 50 x0) x1) fun s2 =>
  some (.normal, [(4, v4), (5, v5), (9, x1)], s2)
@[go_sem] theorem rc_steadfastlaw18_made_16 {base : Nat} {ρ : Env} {s : St} : rc D base (.reg (some [4, 5, 9]) o_steadfastlaw18_made_16) ρ s = R_steadfastlaw18_made_16 base s (get ρ 4) (get ρ 5) := rc_reg_O.trans (by kernel_rfl)
@[go_sem] noncomputable def R_steadfastlaw18_made_17 (_base : Nat) (s : St) (v4 v5 v9 : V) : Option (Ex × Env × St) :=
  some (.normal, [(4, v4), (5, v5), (9, v9), (10, (.int .i64 0))], s)
@[go_sem] theorem rc_steadfastlaw18_made_17 {base : Nat} {ρ : Env} {s : St} : rc D base (.reg (some [4, 5, 9, 10]) o_steadfastlaw18_made_17) ρ s = R_steadfastlaw18_made_17 base s (get ρ 4) (get ρ 5) (get ρ 9) := rc_reg_O.trans (by kernel_rfl)
@[go_sem] noncomputable def R_steadfastlaw18_made_18 (_base : Nat) (s : St) (v4 v5 v9 v10 : V) : Option (Ex × Env × St) :=
  obind (vbin .lss v10 (.int .i64 8)) fun x0 =>
  some (.normal, [(4, v4), (5, v5), (9, v9), (10, v10), (74, x0)], s)
@[go_sem] theorem rc_steadfastlaw18_made_18 {base : Nat} {ρ : Env} {s : St} : rc D base (.reg (some [4, 5, 9, 10, 74]) o_steadfastlaw18_made_18) ρ s = R_steadfastlaw18_made_18 base s (get ρ 4) (get ρ 5) (get ρ 9) (get ρ 10) := rc_reg_O.trans (by kernel_rfl)
@[go_sem] noncomputable def R_steadfastlaw18_made_19 (base : Nat) (s : St) (v4 v5 v9 v10 : V) : Option (Ex × Env × St) :=
  obind (vbin .add (.int .i64 10) v10) fun x0 =>
  obind (iadv 50 8 10 v9 v10) fun x1 =>
  obind (stv base s 10 x0 x1) fun s2 =>
  some (.normal, [(4, v4), (5, v5), (9, v9), (10, v10)], s2)
@[go_sem] theorem rc_steadfastlaw18_made_19 {base : Nat} {ρ : Env} {s : St} : rc D base (.reg (some [4, 5, 9, 10]) o_steadfastlaw18_made_19) ρ s = R_steadfastlaw18_made_19 base s (get ρ 4) (get ρ 5) (get ρ 9) (get ρ 10) := rc_reg_O.trans (by kernel_rfl)
@[go_sem] noncomputable def R_steadfastlaw18_made_20 (_base : Nat) (s : St) (v4 v5 v9 v10 : V) : Option (Ex × Env × St) :=
  obind (vbin .add v10 (.int .i64 1)) fun x0 =>
  some (.normal, [(4, v4), (5, v5), (9, v9), (10, x0)], s)
@[go_sem] theorem rc_steadfastlaw18_made_20 {base : Nat} {ρ : Env} {s : St} : rc D base (.reg (some [4, 5, 9, 10]) o_steadfastlaw18_made_20) ρ s = R_steadfastlaw18_made_20 base s (get ρ 4) (get ρ 5) (get ρ 9) (get ρ 10) := rc_reg_O.trans (by kernel_rfl)
@[go_sem] noncomputable def R_steadfastlaw18_made_21 (_base : Nat) (s : St) (v4 v5 v9 : V) : Option (Ex × Env × St) :=
  obind (rf D f_nvm_Of [v4] s) fun x0 =>
  obind (extv 0 x0.1) fun x1 =>
  obind (extv 1 x0.1) fun _x2 =>
  some (.normal, [(4, v4), (5, v5), (9, v9), (11, x1)], x0.2)
@[go_sem] theorem rc_steadfastlaw18_made_21 {base : Nat} {ρ : Env} {s : St} : rc D base (.reg (some [4, 5, 9, 11]) o_steadfastlaw18_made_21) ρ s = R_steadfastlaw18_made_21 base s (get ρ 4) (get ρ 5) (get ρ 9) := rc_reg_O.trans (by kernel_rfl)
@[go_sem] noncomputable def R_steadfastlaw18_made_22 (_base : Nat) (s : St) (v4 v5 v9 v11 : V) : Option (Ex × Env × St) :=
  obind (rf D f_steadfastref03_Of [v4] s) fun x0 =>
  obind (extv 0 x0.1) fun x1 =>
  obind (extv 1 x0.1) fun _x2 =>
  some (.normal, [(5, v5), (9, v9), (11, v11), (13, x1)], x0.2)
@[go_sem] theorem rc_steadfastlaw18_made_22 {base : Nat} {ρ : Env} {s : St} : rc D base (.reg (some [5, 9, 11, 13]) o_steadfastlaw18_made_22) ρ s = R_steadfastlaw18_made_22 base s (get ρ 4) (get ρ 5) (get ρ 9) (get ρ 11) := rc_reg_O.trans (by kernel_rfl)
@[go_sem] noncomputable def R_steadfastlaw18_made_23 (_base : Nat) (s : St) (v5 v9 v11 v13 : V) : Option (Ex × Env × St) :=
  obind (eqv false 1 v11 .nilp) fun x0 =>
  some (.normal, [(5, v5), (9, v9), (11, v11), (13, v13), (92, x0)], s)
@[go_sem] theorem rc_steadfastlaw18_made_23 {base : Nat} {ρ : Env} {s : St} : rc D base (.reg (some [5, 9, 11, 13, 92]) o_steadfastlaw18_made_23) ρ s = R_steadfastlaw18_made_23 base s (get ρ 5) (get ρ 9) (get ρ 11) (get ρ 13) := rc_reg_O.trans (by kernel_rfl)
@[go_sem] noncomputable def R_steadfastlaw18_made_24 (_base : Nat) (s : St) : Option (Ex × Env × St) :=
  some (.normal, [(2, .nilp), (3, .nilp)], s)
@[go_sem] theorem rc_steadfastlaw18_made_24 {base : Nat} {ρ : Env} {s : St} : rc D base (.reg (some [2, 3]) o_steadfastlaw18_made_24) ρ s = R_steadfastlaw18_made_24 base s := rc_reg_O.trans (by kernel_rfl)
@[go_sem] noncomputable def R_steadfastlaw18_made_25 (_base : Nat) (s : St) (v5 v9 v11 v13 : V) : Option (Ex × Env × St) :=
  obind (ldv s 48 v5) fun x0 =>
  obind (ldv s 50 v9) fun x1 =>
  obind (rf D f_objects_Of [v11, (.int .i64 10), x0, x1] s) fun x2 =>
  obind (extv 0 x2.1) fun x3 =>
  obind (extv 1 x2.1) fun _x4 =>
  some (.normal, [(5, v5), (9, v9), (13, v13), (15, x3)], x2.2)
@[go_sem] theorem rc_steadfastlaw18_made_25 {base : Nat} {ρ : Env} {s : St} : rc D base (.reg (some [5, 9, 13, 15]) o_steadfastlaw18_made_25) ρ s = R_steadfastlaw18_made_25 base s (get ρ 5) (get ρ 9) (get ρ 11) (get ρ 13) := rc_reg_O.trans (by kernel_rfl)
@[go_sem] noncomputable def R_steadfastlaw18_made_26 (_base : Nat) (s : St) (v5 v9 v13 v15 : V) : Option (Ex × Env × St) :=
  obind (ldv s 48 v5) fun x0 =>
  obind (ldv s 50 v9) fun x1 =>
  obind (rf D f_steadfastref10_Of [v13, (.int .i64 10), x0, x1] s) fun x2 =>
  obind (extv 0 x2.1) fun x3 =>
  obind (extv 1 x2.1) fun _x4 =>
  some (.normal, [(15, v15), (17, x3)], x2.2)
@[go_sem] theorem rc_steadfastlaw18_made_26 {base : Nat} {ρ : Env} {s : St} : rc D base (.reg (some [15, 17]) o_steadfastlaw18_made_26) ρ s = R_steadfastlaw18_made_26 base s (get ρ 5) (get ρ 9) (get ρ 13) (get ρ 15) := rc_reg_O.trans (by kernel_rfl)
@[go_sem] noncomputable def R_steadfastlaw18_made_27 (_base : Nat) (s : St) (v15 v17 : V) : Option (Ex × Env × St) :=
  some (.normal, [(2, v15), (3, v17)], s)
@[go_sem] theorem rc_steadfastlaw18_made_27 {base : Nat} {ρ : Env} {s : St} : rc D base (.reg (some [2, 3]) o_steadfastlaw18_made_27) ρ s = R_steadfastlaw18_made_27 base s (get ρ 15) (get ρ 17) := rc_reg_O.trans (by kernel_rfl)

@[go_sem] noncomputable def R_caps_Word_0 (_base : Nat) (s : St) (v0 : V) : Option (Ex × Env × St) :=
  if V.ok v0 && mayNew false v0 then let x0 : V := .ptr (St.fresh s false) [] (V.tag v0); let s0 : St := St.new s false v0
  some (.normal, [(1, x0)], s0)
  else none
@[go_sem] theorem rc_caps_Word_0 {base : Nat} {ρ : Env} {s : St} : rc D base (.reg (some [1]) o_caps_Word_0) ρ s = R_caps_Word_0 base s (get ρ 0) := rc_reg_O.trans (by kernel_rfl)
@[go_sem] noncomputable def R_caps_Word_1 (_base : Nat) (s : St) (v1 : V) : Option (Ex × Env × St) :=
  obind (ldv s 40 v1) fun x0 =>
  obind (rf D f_caps_may [x0] s) fun x1 =>
  obind (vun .not x1.1) fun x2 =>
  some (.normal, [(1, v1), (6, x2)], x1.2)
@[go_sem] theorem rc_caps_Word_1 {base : Nat} {ρ : Env} {s : St} : rc D base (.reg (some [1, 6]) o_caps_Word_1) ρ s = R_caps_Word_1 base s (get ρ 1) := rc_reg_O.trans (by kernel_rfl)
@[go_sem] noncomputable def R_caps_Word_2 (_base : Nat) (s : St) : Option (Ex × Env × St) :=
  some (.normal, [(2, (.int .u64 0)), (3, (.int .i64 1))], s)
@[go_sem] theorem rc_caps_Word_2 {base : Nat} {ρ : Env} {s : St} : rc D base (.reg (some [2, 3]) o_caps_Word_2) ρ s = R_caps_Word_2 base s := rc_reg_O.trans (by kernel_rfl)
@[go_sem] noncomputable def R_caps_Word_3 (_base : Nat) (s : St) (v1 : V) : Option (Ex × Env × St) :=
  obind (fadv 40 0 10 v1) fun x0 =>
  obind (ldv s 10 x0) fun x1 =>
  obind (convv .u64 x1) fun x2 =>
  obind (fadv 40 1 10 v1) fun x3 =>
  obind (ldv s 10 x3) fun x4 =>
  obind (convv .u64 x4) fun x5 =>
  obind (vbin .shl x5 (.int .u64 4)) fun x6 =>
  obind (vbin .or x2 x6) fun x7 =>
  obind (fadv 40 2 10 v1) fun x8 =>
  obind (ldv s 10 x8) fun x9 =>
  obind (convv .u64 x9) fun x10 =>
  obind (vbin .shl x10 (.int .u64 8)) fun x11 =>
  obind (vbin .or x7 x11) fun x12 =>
  obind (fadv 40 3 10 v1) fun x13 =>
  obind (ldv s 10 x13) fun x14 =>
  obind (convv .u64 x14) fun x15 =>
  obind (vbin .shl x15 (.int .u64 24)) fun x16 =>
  obind (vbin .or x12 x16) fun x17 =>
  obind (fadv 40 4 10 v1) fun x18 =>
  obind (ldv s 10 x18) fun x19 =>
  obind (convv .u64 x19) fun x20 =>
  obind (vbin .shl x20 (.int .u64 48)) fun x21 =>
  obind (vbin .or x17 x21) fun x22 =>
  some (.normal, [(2, x22), (3, (.int .i64 0))], s)
@[go_sem] theorem rc_caps_Word_3 {base : Nat} {ρ : Env} {s : St} : rc D base (.reg (some [2, 3]) o_caps_Word_3) ρ s = R_caps_Word_3 base s (get ρ 1) := rc_reg_O.trans (by kernel_rfl)

@[go_sem] noncomputable def R_bank_Make_0 (_base : Nat) (s : St) (v0 v1 v2 : V) : Option (Ex × Env × St) :=
  some (.normal, [(0, v0), (1, v1), (2, v2)], s)
@[go_sem] theorem rc_bank_Make_0 {base : Nat} {ρ : Env} {s : St} : rc D base (.reg (some [0, 1, 2]) o_bank_Make_0) ρ s = R_bank_Make_0 base s (get ρ 0) (get ρ 1) (get ρ 2) := rc_reg_O.trans (by kernel_rfl)
@[go_sem] noncomputable def R_bank_Make_1 (_base : Nat) (s : St) (v0 v1 v2 : V) : Option (Ex × Env × St) :=
  some (.normal, [(0, v0), (1, v1), (2, v2)], s)
@[go_sem] theorem rc_bank_Make_1 {base : Nat} {ρ : Env} {s : St} : rc D base (.reg (some [0, 1, 2]) o_bank_Make_1) ρ s = R_bank_Make_1 base s (get ρ 0) (get ρ 1) (get ρ 2) := rc_reg_O.trans (by kernel_rfl)
@[go_sem] noncomputable def R_bank_Make_2 (_base : Nat) (s : St) (v0 v1 v2 : V) : Option (Ex × Env × St) :=
  obind (rf D f_bank_by [v1] s) fun x0 =>
  some (.normal, [(0, v0), (2, v2), (8, x0.1)], x0.2)
@[go_sem] theorem rc_bank_Make_2 {base : Nat} {ρ : Env} {s : St} : rc D base (.reg (some [0, 2, 8]) o_bank_Make_2) ρ s = R_bank_Make_2 base s (get ρ 0) (get ρ 1) (get ρ 2) := rc_reg_O.trans (by kernel_rfl)
@[go_sem] noncomputable def R_bank_Make_3 (_base : Nat) (s : St) (v0 v2 v8 : V) : Option (Ex × Env × St) :=
  obind (vbin .neq v8 (.int .i64 0)) fun x0 =>
  some (.normal, [(0, v0), (2, v2), (8, v8), (13, x0)], s)
@[go_sem] theorem rc_bank_Make_3 {base : Nat} {ρ : Env} {s : St} : rc D base (.reg (some [0, 2, 8, 13]) o_bank_Make_3) ρ s = R_bank_Make_3 base s (get ρ 0) (get ρ 2) (get ρ 8) := rc_reg_O.trans (by kernel_rfl)
@[go_sem] noncomputable def R_bank_Make_4 (_base : Nat) (s : St) (v0 v2 : V) : Option (Ex × Env × St) :=
  obind (rf D f_objects_Store_Next [v0, v2] s) fun x0 =>
  obind (extv 0 x0.1) fun x1 =>
  obind (extv 1 x0.1) fun x2 =>
  obind (extv 2 x0.1) fun x3 =>
  some (.normal, [(2, v2), (6, x1), (8, x3), (9, x2)], x0.2)
@[go_sem] theorem rc_bank_Make_4 {base : Nat} {ρ : Env} {s : St} : rc D base (.reg (some [2, 6, 8, 9]) o_bank_Make_4) ρ s = R_bank_Make_4 base s (get ρ 0) (get ρ 2) := rc_reg_O.trans (by kernel_rfl)
@[go_sem] noncomputable def R_bank_Make_5 (_base : Nat) (s : St) (v2 v6 v8 v9 : V) : Option (Ex × Env × St) :=
  obind (vbin .neq v8 (.int .i64 0)) fun x0 =>
  some (.normal, [(2, v2), (6, v6), (8, v8), (9, v9), (22, x0)], s)
@[go_sem] theorem rc_bank_Make_5 {base : Nat} {ρ : Env} {s : St} : rc D base (.reg (some [2, 6, 8, 9, 22]) o_bank_Make_5) ρ s = R_bank_Make_5 base s (get ρ 2) (get ρ 6) (get ρ 8) (get ρ 9) := rc_reg_O.trans (by kernel_rfl)
@[go_sem] noncomputable def R_bank_Make_6 (_base : Nat) (s : St) (v2 v6 v9 : V) : Option (Ex × Env × St) :=
  obind (setParts [(.int .i64 0), (.int .i64 0), (.int .i64 0), (.int .i64 0), (.int .i64 0)] [(0, v2), (1, (.int .i64 15)), (2, v6), (3, v9)]) fun x0 =>
  obind (rf D f_caps_Word [(.agg 40 x0)] s) fun x1 =>
  obind (extv 0 x1.1) fun x2 =>
  obind (extv 1 x1.1) fun x3 =>
  some (.normal, [(6, v6), (7, x2), (8, x3)], x1.2)
@[go_sem] theorem rc_bank_Make_6 {base : Nat} {ρ : Env} {s : St} : rc D base (.reg (some [6, 7, 8]) o_bank_Make_6) ρ s = R_bank_Make_6 base s (get ρ 2) (get ρ 6) (get ρ 9) := rc_reg_O.trans (by kernel_rfl)
@[go_sem] noncomputable def R_bank_Make_7 (_base : Nat) (s : St) (v6 v7 v8 : V) : Option (Ex × Env × St) :=
  some (.normal, [(6, v6), (7, v7), (8, v8)], s)
@[go_sem] theorem rc_bank_Make_7 {base : Nat} {ρ : Env} {s : St} : rc D base (.reg (some [6, 7, 8]) o_bank_Make_7) ρ s = R_bank_Make_7 base s (get ρ 6) (get ρ 7) (get ρ 8) := rc_reg_O.trans (by kernel_rfl)
@[go_sem] noncomputable def R_bank_Make_8 (_base : Nat) (s : St) (v8 : V) : Option (Ex × Env × St) :=
  some (.normal, [(6, (.int .i64 0)), (7, (.int .u64 0)), (8, v8)], s)
@[go_sem] theorem rc_bank_Make_8 {base : Nat} {ρ : Env} {s : St} : rc D base (.reg (some [6, 7, 8]) o_bank_Make_8) ρ s = R_bank_Make_8 base s (get ρ 8) := rc_reg_O.trans (by kernel_rfl)

@[go_sem] noncomputable def R_caps_Of_0 (_base : Nat) (s : St) (v0 : V) : Option (Ex × Env × St) :=
  let x0 : V := .ptr (St.fresh s false) [] 40; let s0 : St := St.new s false (.agg 40 [(.int .i64 0), (.int .i64 0), (.int .i64 0), (.int .i64 0), (.int .i64 0)])
  some (.normal, [(0, v0), (2, x0)], s0)
@[go_sem] theorem rc_caps_Of_0 {base : Nat} {ρ : Env} {s : St} : rc D base (.reg (some [0, 2]) o_caps_Of_0) ρ s = R_caps_Of_0 base s (get ρ 0) := rc_reg_O.trans (by kernel_rfl)
@[go_sem] noncomputable def R_caps_Of_1 (base : Nat) (s : St) (v0 v2 : V) : Option (Ex × Env × St) :=
  obind (vbin .and v0 (.int .u64 15)) fun x0 =>
  obind (convv .i64 x0) fun x1 =>
  obind (vbin .shr v0 (.int .u64 4)) fun x2 =>
  obind (vbin .and x2 (.int .u64 15)) fun x3 =>
  obind (convv .i64 x3) fun x4 =>
  obind (vbin .shr v0 (.int .u64 8)) fun x5 =>
  obind (vbin .and x5 (.int .u64 65535)) fun x6 =>
  obind (convv .i64 x6) fun x7 =>
  obind (vbin .shr v0 (.int .u64 24)) fun x8 =>
  obind (vbin .and x8 (.int .u64 16777215)) fun x9 =>
  obind (convv .i64 x9) fun x10 =>
  obind (vbin .shr v0 (.int .u64 48)) fun x11 =>
  obind (convv .i64 x11) fun x12 =>
  obind (setParts [(.int .i64 0), (.int .i64 0), (.int .i64 0), (.int .i64 0), (.int .i64 0)] [(0, x1), (1, x4), (2, x7), (3, x10), (4, x12)]) fun x13 =>
  let x14 : V := .ptr (St.fresh s false) [] 40; let s14 : St := St.new s false (.agg 40 [(.int .i64 0), (.int .i64 0), (.int .i64 0), (.int .i64 0), (.int .i64 0)])
  obind (stv base s14 40 (.agg 40 x13) x14) fun s15 =>
  some (.normal, [(2, v2), (4, x14)], s15)
@[go_sem] theorem rc_caps_Of_1 {base : Nat} {ρ : Env} {s : St} : rc D base (.reg (some [2, 4]) o_caps_Of_1) ρ s = R_caps_Of_1 base s (get ρ 0) (get ρ 2) := rc_reg_O.trans (by kernel_rfl)
@[go_sem] noncomputable def R_caps_Of_2 (_base : Nat) (s : St) (v2 v4 : V) : Option (Ex × Env × St) :=
  obind (ldv s 40 v4) fun x0 =>
  obind (rf D f_caps_may [x0] s) fun x1 =>
  obind (vun .not x1.1) fun x2 =>
  some (.normal, [(2, v2), (4, v4), (26, x2)], x1.2)
@[go_sem] theorem rc_caps_Of_2 {base : Nat} {ρ : Env} {s : St} : rc D base (.reg (some [2, 4, 26]) o_caps_Of_2) ρ s = R_caps_Of_2 base s (get ρ 2) (get ρ 4) := rc_reg_O.trans (by kernel_rfl)
@[go_sem] noncomputable def R_caps_Of_3 (base : Nat) (s : St) (v2 : V) : Option (Ex × Env × St) :=
  obind (setParts [(.int .i64 0), (.int .i64 0), (.int .i64 0), (.int .i64 0), (.int .i64 0)] []) fun x0 =>
  obind (stv base s 40 (.agg 40 x0) v2) fun s1 =>
  some (.normal, [(2, v2), (3, (.bool false))], s1)
@[go_sem] theorem rc_caps_Of_3 {base : Nat} {ρ : Env} {s : St} : rc D base (.reg (some [2, 3]) o_caps_Of_3) ρ s = R_caps_Of_3 base s (get ρ 2) := rc_reg_O.trans (by kernel_rfl)
@[go_sem] noncomputable def R_caps_Of_4 (base : Nat) (s : St) (v2 v4 : V) : Option (Ex × Env × St) :=
  obind (ldv s 40 v4) fun x0 =>
  obind (stv base s 40 x0 v2) fun s1 =>
  some (.normal, [(2, v2), (3, (.bool true))], s1)
@[go_sem] theorem rc_caps_Of_4 {base : Nat} {ρ : Env} {s : St} : rc D base (.reg (some [2, 3]) o_caps_Of_4) ρ s = R_caps_Of_4 base s (get ρ 2) (get ρ 4) := rc_reg_O.trans (by kernel_rfl)

@[go_sem] noncomputable def R_objects_Store_Names_0 (_base : Nat) (s : St) (v0 v1 : V) : Option (Ex × Env × St) :=
  some (.normal, [(0, v0), (1, v1)], s)
@[go_sem] theorem rc_objects_Store_Names_0 {base : Nat} {ρ : Env} {s : St} : rc D base (.reg (some [0, 1]) o_objects_Store_Names_0) ρ s = R_objects_Store_Names_0 base s (get ρ 0) (get ρ 1) := rc_reg_O.trans (by kernel_rfl)
@[go_sem] noncomputable def R_objects_Store_Names_1 (base : Nat) (s : St) (v0 v1 : V) : Option (Ex × Env × St) :=
  obind (rf D f_caps_Of [v1] s) fun x0 =>
  obind (extv 0 x0.1) fun x1 =>
  obind (extv 1 x0.1) fun x2 =>
  let x3 : V := .ptr (St.fresh x0.2 false) [] 40; let s3 : St := St.new x0.2 false (.agg 40 [(.int .i64 0), (.int .i64 0), (.int .i64 0), (.int .i64 0), (.int .i64 0)])
  obind (stv base s3 40 x1 x3) fun s4 =>
  some (.normal, [(0, v0), (1, v1), (6, x3), (7, x2)], s4)
@[go_sem] theorem rc_objects_Store_Names_1 {base : Nat} {ρ : Env} {s : St} : rc D base (.reg (some [0, 1, 6, 7]) o_objects_Store_Names_1) ρ s = R_objects_Store_Names_1 base s (get ρ 0) (get ρ 1) := rc_reg_O.trans (by kernel_rfl)
@[go_sem] noncomputable def R_objects_Store_Names_2 (_base : Nat) (s : St) (v0 v1 v6 v7 : V) : Option (Ex × Env × St) :=
  obind (vun .not v7) fun x0 =>
  some (.normal, [(0, v0), (1, v1), (6, v6), (15, x0)], s)
@[go_sem] theorem rc_objects_Store_Names_2 {base : Nat} {ρ : Env} {s : St} : rc D base (.reg (some [0, 1, 6, 15]) o_objects_Store_Names_2) ρ s = R_objects_Store_Names_2 base s (get ρ 0) (get ρ 1) (get ρ 6) (get ρ 7) := rc_reg_O.trans (by kernel_rfl)
@[go_sem] noncomputable def R_objects_Store_Names_3 (_base : Nat) (s : St) : Option (Ex × Env × St) :=
  some (.normal, [(4, (.int .i64 0)), (5, (.int .i64 31))], s)
@[go_sem] theorem rc_objects_Store_Names_3 {base : Nat} {ρ : Env} {s : St} : rc D base (.reg (some [4, 5]) o_objects_Store_Names_3) ρ s = R_objects_Store_Names_3 base s := rc_reg_O.trans (by kernel_rfl)
@[go_sem] noncomputable def R_objects_Store_Names_4 (base : Nat) (s : St) (v0 v1 v6 : V) : Option (Ex × Env × St) :=
  obind (fadv 40 2 10 v6) fun x0 =>
  obind (ldv s 10 x0) fun x1 =>
  obind (nilv v0) fun x2 =>
  obind (fadv 43 2 48 x2) fun x3 =>
  obind (iadv 48 49 42 x3 x1) fun x4 =>
  obind (ldv s 42 x4) fun x5 =>
  obind (fadv 40 2 10 v6) fun x6 =>
  obind (ldv s 10 x6) fun x7 =>
  obind (pcallw D (pcut base [x5, x7, v1]) base f_entry_Names [x5, x7, v1] s) fun x8 =>
  some (.normal, [(6, v6), (8, x8)], s)
@[go_sem] theorem rc_objects_Store_Names_4 {base : Nat} {ρ : Env} {s : St} : rc D base (.regd (some [6, 8]) o_objects_Store_Names_4) ρ s = R_objects_Store_Names_4 base s (get ρ 0) (get ρ 1) (get ρ 6) := rc_regd_O.trans (by kernel_rfl)
@[go_sem] noncomputable def R_objects_Store_Names_5 (_base : Nat) (s : St) (v6 v8 : V) : Option (Ex × Env × St) :=
  obind (vbin .neq v8 (.int .i64 0)) fun x0 =>
  some (.normal, [(6, v6), (8, v8), (28, x0)], s)
@[go_sem] theorem rc_objects_Store_Names_5 {base : Nat} {ρ : Env} {s : St} : rc D base (.reg (some [6, 8, 28]) o_objects_Store_Names_5) ρ s = R_objects_Store_Names_5 base s (get ρ 6) (get ρ 8) := rc_reg_O.trans (by kernel_rfl)
@[go_sem] noncomputable def R_objects_Store_Names_6 (_base : Nat) (s : St) (v8 : V) : Option (Ex × Env × St) :=
  some (.normal, [(4, (.int .i64 0)), (5, v8)], s)
@[go_sem] theorem rc_objects_Store_Names_6 {base : Nat} {ρ : Env} {s : St} : rc D base (.reg (some [4, 5]) o_objects_Store_Names_6) ρ s = R_objects_Store_Names_6 base s (get ρ 8) := rc_reg_O.trans (by kernel_rfl)
@[go_sem] noncomputable def R_objects_Store_Names_7 (_base : Nat) (s : St) (v6 : V) : Option (Ex × Env × St) :=
  obind (fadv 40 2 10 v6) fun x0 =>
  obind (ldv s 10 x0) fun x1 =>
  some (.normal, [(4, x1), (5, (.int .i64 0))], s)
@[go_sem] theorem rc_objects_Store_Names_7 {base : Nat} {ρ : Env} {s : St} : rc D base (.reg (some [4, 5]) o_objects_Store_Names_7) ρ s = R_objects_Store_Names_7 base s (get ρ 6) := rc_reg_O.trans (by kernel_rfl)

@[go_sem] noncomputable def R_objects_Store_Get_0 (_base : Nat) (s : St) (v0 v1 : V) : Option (Ex × Env × St) :=
  let x0 : V := .ptr (St.fresh s false) [] 26; let s0 : St := St.new s false (.agg 26 [(.int .i64 0), (.int .i64 0), (.agg 24 (List.replicate 8 (.int .u64 0)))])
  some (.normal, [(0, v0), (1, v1), (4, x0)], s0)
@[go_sem] theorem rc_objects_Store_Get_0 {base : Nat} {ρ : Env} {s : St} : rc D base (.reg (some [0, 1, 4]) o_objects_Store_Get_0) ρ s = R_objects_Store_Get_0 base s (get ρ 0) (get ρ 1) := rc_reg_O.trans (by kernel_rfl)
@[go_sem] noncomputable def R_objects_Store_Get_1 (_base : Nat) (s : St) (v0 v1 v4 : V) : Option (Ex × Env × St) :=
  obind (rf D f_objects_Store_is [v0, v1] s) fun x0 =>
  some (.normal, [(0, v0), (1, v1), (4, v4), (6, x0.1)], x0.2)
@[go_sem] theorem rc_objects_Store_Get_1 {base : Nat} {ρ : Env} {s : St} : rc D base (.reg (some [0, 1, 4, 6]) o_objects_Store_Get_1) ρ s = R_objects_Store_Get_1 base s (get ρ 0) (get ρ 1) (get ρ 4) := rc_reg_O.trans (by kernel_rfl)
@[go_sem] noncomputable def R_objects_Store_Get_2 (_base : Nat) (s : St) (v0 v1 v4 v6 : V) : Option (Ex × Env × St) :=
  obind (vbin .neq v6 (.int .i64 0)) fun x0 =>
  some (.normal, [(0, v0), (1, v1), (4, v4), (6, v6), (14, x0)], s)
@[go_sem] theorem rc_objects_Store_Get_2 {base : Nat} {ρ : Env} {s : St} : rc D base (.reg (some [0, 1, 4, 6, 14]) o_objects_Store_Get_2) ρ s = R_objects_Store_Get_2 base s (get ρ 0) (get ρ 1) (get ρ 4) (get ρ 6) := rc_reg_O.trans (by kernel_rfl)
@[go_sem] noncomputable def R_objects_Store_Get_3 (base : Nat) (s : St) (v4 v6 : V) : Option (Ex × Env × St) :=
  obind (setParts [(.int .i64 0), (.int .i64 0), (.agg 24 (List.replicate 8 (.int .u64 0)))] []) fun x0 =>
  obind (stv base s 26 (.agg 26 x0) v4) fun s1 =>
  some (.normal, [(4, v4), (5, v6)], s1)
@[go_sem] theorem rc_objects_Store_Get_3 {base : Nat} {ρ : Env} {s : St} : rc D base (.reg (some [4, 5]) o_objects_Store_Get_3) ρ s = R_objects_Store_Get_3 base s (get ρ 4) (get ρ 6) := rc_reg_O.trans (by kernel_rfl)
@[go_sem] noncomputable def R_objects_Store_Get_4 (base : Nat) (s : St) (v0 v1 v4 : V) : Option (Ex × Env × St) :=
  obind (nilv v0) fun x0 =>
  obind (fadv 43 2 48 x0) fun x1 =>
  obind (iadv 48 49 42 x1 v1) fun x2 =>
  obind (ldv s 42 x2) fun x3 =>
  let x4 : V := .ptr (St.fresh s false) [] 42; let s4 : St := St.new s false (.agg 42 [(.int .i64 0), (.int .i64 0), (.int .i64 0)])
  obind (stv base s4 42 x3 x4) fun s5 =>
  some (.normal, [(0, v0), (4, v4), (7, x4)], s5)
@[go_sem] theorem rc_objects_Store_Get_4 {base : Nat} {ρ : Env} {s : St} : rc D base (.reg (some [0, 4, 7]) o_objects_Store_Get_4) ρ s = R_objects_Store_Get_4 base s (get ρ 0) (get ρ 1) (get ρ 4) := rc_reg_O.trans (by kernel_rfl)
@[go_sem] noncomputable def R_objects_Store_Get_5 (base : Nat) (s : St) (v0 v4 v7 : V) : Option (Ex × Env × St) :=
  obind (nilv v0) fun x0 =>
  obind (fadv 43 0 1 x0) fun x1 =>
  obind (ldv s 1 x1) fun x2 =>
  obind (fadv 42 2 10 v7) fun x3 =>
  obind (ldv s 10 x3) fun x4 =>
  obind (pcallw D (pcut base [x2, x4]) base f_nvm_Memory_Load [x2, x4] s) fun x5 =>
  obind (extv 0 x5) fun x6 =>
  obind (extv 1 x5) fun x7 =>
  let x8 : V := .ptr (St.fresh s false) [] 24; let s8 : St := St.new s false (.agg 24 (List.replicate 8 (.int .u64 0)))
  obind (stv base s8 24 x6 x8) fun s9 =>
  some (.normal, [(4, v4), (7, v7), (8, x8), (9, x7)], s9)
@[go_sem] theorem rc_objects_Store_Get_5 {base : Nat} {ρ : Env} {s : St} : rc D base (.regd (some [4, 7, 8, 9]) o_objects_Store_Get_5) ρ s = R_objects_Store_Get_5 base s (get ρ 0) (get ρ 4) (get ρ 7) := rc_regd_O.trans (by kernel_rfl)
@[go_sem] noncomputable def R_objects_Store_Get_6 (_base : Nat) (s : St) (v4 v7 v8 v9 : V) : Option (Ex × Env × St) :=
  obind (vbin .neq v9 (.int .i64 0)) fun x0 =>
  some (.normal, [(4, v4), (7, v7), (8, v8), (9, v9), (34, x0)], s)
@[go_sem] theorem rc_objects_Store_Get_6 {base : Nat} {ρ : Env} {s : St} : rc D base (.reg (some [4, 7, 8, 9, 34]) o_objects_Store_Get_6) ρ s = R_objects_Store_Get_6 base s (get ρ 4) (get ρ 7) (get ρ 8) (get ρ 9) := rc_reg_O.trans (by kernel_rfl)
@[go_sem] noncomputable def R_objects_Store_Get_7 (base : Nat) (s : St) (v4 v9 : V) : Option (Ex × Env × St) :=
  obind (setParts [(.int .i64 0), (.int .i64 0), (.agg 24 (List.replicate 8 (.int .u64 0)))] []) fun x0 =>
  obind (stv base s 26 (.agg 26 x0) v4) fun s1 =>
  some (.normal, [(4, v4), (5, v9)], s1)
@[go_sem] theorem rc_objects_Store_Get_7 {base : Nat} {ρ : Env} {s : St} : rc D base (.reg (some [4, 5]) o_objects_Store_Get_7) ρ s = R_objects_Store_Get_7 base s (get ρ 4) (get ρ 9) := rc_reg_O.trans (by kernel_rfl)
@[go_sem] noncomputable def R_objects_Store_Get_8 (base : Nat) (s : St) (v4 v7 v8 : V) : Option (Ex × Env × St) :=
  obind (fadv 42 0 10 v7) fun x0 =>
  obind (ldv s 10 x0) fun x1 =>
  obind (fadv 42 1 10 v7) fun x2 =>
  obind (ldv s 10 x2) fun x3 =>
  obind (ldv s 24 v8) fun x4 =>
  obind (setParts [(.int .i64 0), (.int .i64 0), (.agg 24 (List.replicate 8 (.int .u64 0)))] [(0, x1), (1, x3), (2, x4)]) fun x5 =>
  obind (stv base s 26 (.agg 26 x5) v4) fun s6 =>
  some (.normal, [(4, v4), (5, (.int .i64 0))], s6)
@[go_sem] theorem rc_objects_Store_Get_8 {base : Nat} {ρ : Env} {s : St} : rc D base (.reg (some [4, 5]) o_objects_Store_Get_8) ρ s = R_objects_Store_Get_8 base s (get ρ 4) (get ρ 7) (get ρ 8) := rc_reg_O.trans (by kernel_rfl)

@[go_sem] noncomputable def R_bank_End_0 (_base : Nat) (s : St) (v0 v1 v2 : V) : Option (Ex × Env × St) :=
  some (.normal, [(0, v0), (1, v1), (2, v2)], s)
@[go_sem] theorem rc_bank_End_0 {base : Nat} {ρ : Env} {s : St} : rc D base (.reg (some [0, 1, 2]) o_bank_End_0) ρ s = R_bank_End_0 base s (get ρ 0) (get ρ 1) (get ρ 2) := rc_reg_O.trans (by kernel_rfl)
@[go_sem] noncomputable def R_bank_End_1 (_base : Nat) (s : St) (v0 v1 v2 : V) : Option (Ex × Env × St) :=
  obind (rf D f_bank_by [v1] s) fun x0 =>
  some (.normal, [(0, v0), (2, v2), (8, x0.1)], x0.2)
@[go_sem] theorem rc_bank_End_1 {base : Nat} {ρ : Env} {s : St} : rc D base (.reg (some [0, 2, 8]) o_bank_End_1) ρ s = R_bank_End_1 base s (get ρ 0) (get ρ 1) (get ρ 2) := rc_reg_O.trans (by kernel_rfl)
@[go_sem] noncomputable def R_bank_End_2 (_base : Nat) (s : St) (v0 v2 v8 : V) : Option (Ex × Env × St) :=
  obind (vbin .neq v8 (.int .i64 0)) fun x0 =>
  some (.normal, [(0, v0), (2, v2), (8, v8), (14, x0)], s)
@[go_sem] theorem rc_bank_End_2 {base : Nat} {ρ : Env} {s : St} : rc D base (.reg (some [0, 2, 8, 14]) o_bank_End_2) ρ s = R_bank_End_2 base s (get ρ 0) (get ρ 2) (get ρ 8) := rc_reg_O.trans (by kernel_rfl)
@[go_sem] noncomputable def R_bank_End_3 (_base : Nat) (s : St) (v8 : V) : Option (Ex × Env × St) :=
  some (.normal, [(6, (.int .i64 0)), (7, v8)], s)
@[go_sem] theorem rc_bank_End_3 {base : Nat} {ρ : Env} {s : St} : rc D base (.reg (some [6, 7]) o_bank_End_3) ρ s = R_bank_End_3 base s (get ρ 8) := rc_reg_O.trans (by kernel_rfl)
@[go_sem] noncomputable def R_bank_End_4 (base : Nat) (s : St) (v0 v2 : V) : Option (Ex × Env × St) :=
  obind (rf D f_caps_Of [v2] s) fun x0 =>
  obind (extv 0 x0.1) fun x1 =>
  obind (extv 1 x0.1) fun x2 =>
  let x3 : V := .ptr (St.fresh x0.2 false) [] 40; let s3 : St := St.new x0.2 false (.agg 40 [(.int .i64 0), (.int .i64 0), (.int .i64 0), (.int .i64 0), (.int .i64 0)])
  obind (stv base s3 40 x1 x3) fun s4 =>
  some (.normal, [(0, v0), (2, v2), (9, x3), (10, x2)], s4)
@[go_sem] theorem rc_bank_End_4 {base : Nat} {ρ : Env} {s : St} : rc D base (.reg (some [0, 2, 9, 10]) o_bank_End_4) ρ s = R_bank_End_4 base s (get ρ 0) (get ρ 2) := rc_reg_O.trans (by kernel_rfl)
@[go_sem] noncomputable def R_bank_End_5 (_base : Nat) (s : St) (v0 v2 v9 v10 : V) : Option (Ex × Env × St) :=
  obind (vun .not v10) fun x0 =>
  some (.normal, [(0, v0), (2, v2), (9, v9), (21, x0)], s)
@[go_sem] theorem rc_bank_End_5 {base : Nat} {ρ : Env} {s : St} : rc D base (.reg (some [0, 2, 9, 21]) o_bank_End_5) ρ s = R_bank_End_5 base s (get ρ 0) (get ρ 2) (get ρ 9) (get ρ 10) := rc_reg_O.trans (by kernel_rfl)
@[go_sem] noncomputable def R_bank_End_6 (_base : Nat) (s : St) (v0 v2 v9 : V) : Option (Ex × Env × St) :=
  obind (fadv 40 0 10 v9) fun x0 =>
  obind (ldv s 10 x0) fun x1 =>
  obind (vbin .neq x1 (.int .i64 1)) fun x2 =>
  oguard x2 true (
    obind (fadv 40 0 10 v9) fun x3 =>
    obind (ldv s 10 x3) fun x4 =>
    obind (vbin .neq x4 (.int .i64 2)) fun x5 =>
    some (.normal, [(0, v0), (2, v2), (9, v9), (21, x5)], s)) (
    some (.normal, [(0, v0), (2, v2), (9, v9), (21, (.bool false))], s)) (
    none)
@[go_sem] theorem rc_bank_End_6 {base : Nat} {ρ : Env} {s : St} : rc D base (.reg (some [0, 2, 9, 21]) o_bank_End_6) ρ s = R_bank_End_6 base s (get ρ 0) (get ρ 2) (get ρ 9) := rc_reg_O.trans (by kernel_rfl)
@[go_sem] noncomputable def R_bank_End_7 (_base : Nat) (s : St) : Option (Ex × Env × St) :=
  some (.normal, [(6, (.int .i64 0)), (7, (.int .i64 31))], s)
@[go_sem] theorem rc_bank_End_7 {base : Nat} {ρ : Env} {s : St} : rc D base (.reg (some [6, 7]) o_bank_End_7) ρ s = R_bank_End_7 base s := rc_reg_O.trans (by kernel_rfl)
@[go_sem] noncomputable def R_bank_End_8 (_base : Nat) (s : St) (v0 v2 v9 : V) : Option (Ex × Env × St) :=
  obind (fadv 40 1 10 v9) fun x0 =>
  obind (ldv s 10 x0) fun x1 =>
  obind (vbin .and x1 (.int .i64 2)) fun x2 =>
  obind (vbin .eql x2 (.int .i64 0)) fun x3 =>
  some (.normal, [(0, v0), (2, v2), (32, x3)], s)
@[go_sem] theorem rc_bank_End_8 {base : Nat} {ρ : Env} {s : St} : rc D base (.reg (some [0, 2, 32]) o_bank_End_8) ρ s = R_bank_End_8 base s (get ρ 0) (get ρ 2) (get ρ 9) := rc_reg_O.trans (by kernel_rfl)
@[go_sem] noncomputable def R_bank_End_9 (_base : Nat) (s : St) : Option (Ex × Env × St) :=
  some (.normal, [(6, (.int .i64 0)), (7, (.int .i64 32))], s)
@[go_sem] theorem rc_bank_End_9 {base : Nat} {ρ : Env} {s : St} : rc D base (.reg (some [6, 7]) o_bank_End_9) ρ s = R_bank_End_9 base s := rc_reg_O.trans (by kernel_rfl)
@[go_sem] noncomputable def R_bank_End_10 (_base : Nat) (s : St) (v0 v2 : V) : Option (Ex × Env × St) :=
  obind (rf D f_objects_Store_Names [v0, v2] s) fun x0 =>
  obind (extv 0 x0.1) fun x1 =>
  obind (extv 1 x0.1) fun x2 =>
  some (.normal, [(6, x1), (7, x2)], x0.2)
@[go_sem] theorem rc_bank_End_10 {base : Nat} {ρ : Env} {s : St} : rc D base (.reg (some [6, 7]) o_bank_End_10) ρ s = R_bank_End_10 base s (get ρ 0) (get ρ 2) := rc_reg_O.trans (by kernel_rfl)

@[go_sem] noncomputable def R_steadfastref18_End_0 (_base : Nat) (s : St) (v0 v1 v2 : V) : Option (Ex × Env × St) :=
  some (.normal, [(0, v0), (1, v1), (2, v2)], s)
@[go_sem] theorem rc_steadfastref18_End_0 {base : Nat} {ρ : Env} {s : St} : rc D base (.reg (some [0, 1, 2]) o_steadfastref18_End_0) ρ s = R_steadfastref18_End_0 base s (get ρ 0) (get ρ 1) (get ρ 2) := rc_reg_O.trans (by kernel_rfl)
@[go_sem] noncomputable def R_steadfastref18_End_1 (_base : Nat) (s : St) (v0 v1 v2 : V) : Option (Ex × Env × St) :=
  obind (rf D f_steadfastref07_May [v1, (.int .i64 5), (.int .i64 2)] s) fun x0 =>
  some (.normal, [(0, v0), (2, v2), (8, x0.1)], x0.2)
@[go_sem] theorem rc_steadfastref18_End_1 {base : Nat} {ρ : Env} {s : St} : rc D base (.reg (some [0, 2, 8]) o_steadfastref18_End_1) ρ s = R_steadfastref18_End_1 base s (get ρ 0) (get ρ 1) (get ρ 2) := rc_reg_O.trans (by kernel_rfl)

end Go.Proofs.Ytpbpgbedkmbfkaa
