/- Stamps, spans, writes, notes as trees; contracts of the elder kind, told as data. -/
import Derived.Test.YtlemffcailmmoaaGreatDoorPAbsSimp
import Derived.Test.YtlemffcailmmoaaGreatDoorProg
import Derived.Test.YtlemffcailmmoaaGreatDoorPNoteSmall
set_option linter.unusedSimpArgs false
set_option linter.unusedVariables false
/- What is asked of the types of this seat: made by program (genty.py). -/
namespace Go.Proofs.YtlemffcailmmoaaGreatDoor
open Go.ChangeShapes Go.WideShapes Go.ChangeAt Go.RowKit

@[go_sem] theorem tyK_2 : tyK Tryz.prog 2 = some (0, 1) := by kernel_rfl
@[go_sem] theorem tyInt_2 : tyInt Tryz.prog 2 = some .i64 := by kernel_rfl
@[go_sem] theorem tyZ_2 : tyZ Tryz.prog 2 = some (0, [.int .i64 0]) := by kernel_rfl
@[go_sem] theorem tyK_3 : tyK Tryz.prog 3 = some (0, 1) := by kernel_rfl
@[go_sem] theorem tyInt_3 : tyInt Tryz.prog 3 = some .i64 := by kernel_rfl
@[go_sem] theorem tyZ_3 : tyZ Tryz.prog 3 = some (0, [.int .i64 0]) := by kernel_rfl
@[go_sem] theorem tyK_4 : tyK Tryz.prog 4 = some (0, 1) := by kernel_rfl
@[go_sem] theorem tyZ_4 : tyZ Tryz.prog 4 = some (0, [.bool false]) := by kernel_rfl
@[go_sem] theorem tyK_5 : tyK Tryz.prog 5 = some (0, 1) := by kernel_rfl
@[go_sem] theorem tyInt_5 : tyInt Tryz.prog 5 = some .u8 := by kernel_rfl
@[go_sem] theorem tyZ_5 : tyZ Tryz.prog 5 = some (0, [.int .u8 0]) := by kernel_rfl
@[go_sem] theorem tyK_9 : tyK Tryz.prog 9 = some (0, 1) := by kernel_rfl
@[go_sem] theorem tySl_9 : tySl Tryz.prog 9 = none := by kernel_rfl
@[go_sem] theorem tyStr_9 : tyStr Tryz.prog 9 = true := by kernel_rfl
@[go_sem] theorem tyK_12 : tyK Tryz.prog 12 = some (0, 1) := by kernel_rfl
@[go_sem] theorem tyInt_12 : tyInt Tryz.prog 12 = some .u64 := by kernel_rfl
@[go_sem] theorem tyZ_12 : tyZ Tryz.prog 12 = some (0, [.int .u64 0]) := by kernel_rfl
@[go_sem] theorem tyK_13 : tyK Tryz.prog 13 = some (1, 2) := by kernel_rfl
@[go_sem] theorem tyK_21 : tyK Tryz.prog 21 = some (0, 1) := by kernel_rfl
@[go_sem] theorem tyInt_21 : tyInt Tryz.prog 21 = some .i32 := by kernel_rfl
@[go_sem] theorem tyZ_21 : tyZ Tryz.prog 21 = some (0, [.int .i32 0]) := by kernel_rfl
@[go_sem] theorem tyK_22 : tyK Tryz.prog 22 = some (0, 1) := by kernel_rfl
@[go_sem] theorem tySl_22 : tySl Tryz.prog 22 = some (60, 7, 56) := by kernel_rfl
@[go_sem] theorem tyZ_22 : tyZ Tryz.prog 22 = some (0, [.slice none 0 0]) := by kernel_rfl
@[go_sem] theorem tyK_23 : tyK Tryz.prog 23 = some (2, 2) := by kernel_rfl
@[go_sem] theorem tySl_23 : tySl Tryz.prog 23 = none := by kernel_rfl
@[go_sem] theorem tyAr_23 : tyAr Tryz.prog 23 = some (2, 0, 1) := by kernel_rfl
@[go_sem] theorem tyZ_23 : tyZ Tryz.prog 23 = some (2, [.int .i64 0, .int .i64 0]) := by kernel_rfl
@[go_sem] theorem tyK_24 : tyK Tryz.prog 24 = some (0, 1) := by kernel_rfl
@[go_sem] theorem tySl_24 : tySl Tryz.prog 24 = some (64, 2, 16) := by kernel_rfl
@[go_sem] theorem tyZ_24 : tyZ Tryz.prog 24 = some (0, [.slice none 0 0]) := by kernel_rfl
@[go_sem] theorem tyK_25 : tyK Tryz.prog 25 = some (0, 1) := by kernel_rfl
@[go_sem] theorem tySl_25 : tySl Tryz.prog 25 = some (104, 3, 40) := by kernel_rfl
@[go_sem] theorem tyZ_25 : tyZ Tryz.prog 25 = some (0, [.slice none 0 0]) := by kernel_rfl
@[go_sem] theorem tyK_26 : tyK Tryz.prog 26 = some (0, 1) := by kernel_rfl
@[go_sem] theorem tySl_26 : tySl Tryz.prog 26 = some (80, 4, 32) := by kernel_rfl
@[go_sem] theorem tyZ_26 : tyZ Tryz.prog 26 = some (0, [.slice none 0 0]) := by kernel_rfl
@[go_sem] theorem tyK_27 : tyK Tryz.prog 27 = some (0, 1) := by kernel_rfl
@[go_sem] theorem tySl_27 : tySl Tryz.prog 27 = some (67, 4, 48) := by kernel_rfl
@[go_sem] theorem tyZ_27 : tyZ Tryz.prog 27 = some (0, [.slice none 0 0]) := by kernel_rfl
@[go_sem] theorem tyK_28 : tyK Tryz.prog 28 = some (1, 5) := by kernel_rfl
@[go_sem] theorem tyK_29 : tyK Tryz.prog 29 = some (1, 5) := by kernel_rfl
@[go_sem] theorem tyF_29_0 : tyF Tryz.prog 29 0 = some (0, 0, 1) := by kernel_rfl
@[go_sem] theorem tyF_29_1 : tyF Tryz.prog 29 1 = some (1, 0, 1) := by kernel_rfl
@[go_sem] theorem tyF_29_2 : tyF Tryz.prog 29 2 = some (2, 0, 1) := by kernel_rfl
@[go_sem] theorem tyF_29_3 : tyF Tryz.prog 29 3 = some (3, 0, 1) := by kernel_rfl
@[go_sem] theorem tyF_29_4 : tyF Tryz.prog 29 4 = some (4, 0, 1) := by kernel_rfl
@[go_sem] theorem tyB_29 : tyBld Tryz.prog 29 = some ([.slice none 0 0, .slice none 0 0, .slice none 0 0, .slice none 0 0, .int .i64 0], [(0, 1), (1, 1), (2, 1), (3, 1), (4, 1)]) := by kernel_rfl
@[go_sem] theorem tyZ_29 : tyZ Tryz.prog 29 = some (1, [.slice none 0 0, .slice none 0 0, .slice none 0 0, .slice none 0 0, .int .i64 0]) := by kernel_rfl
@[go_sem] theorem tyK_32 : tyK Tryz.prog 32 = some (0, 1) := by kernel_rfl
@[go_sem] theorem tySl_32 : tySl Tryz.prog 32 = some (69, 12, 160) := by kernel_rfl
@[go_sem] theorem tyZ_32 : tyZ Tryz.prog 32 = some (0, [.slice none 0 0]) := by kernel_rfl
@[go_sem] theorem tyK_33 : tyK Tryz.prog 33 = some (0, 1) := by kernel_rfl
@[go_sem] theorem tyInt_33 : tyInt Tryz.prog 33 = some .i64 := by kernel_rfl
@[go_sem] theorem tyZ_33 : tyZ Tryz.prog 33 = some (0, [.int .i64 0]) := by kernel_rfl
@[go_sem] theorem tyK_40 : tyK Tryz.prog 40 = some (0, 1) := by kernel_rfl
@[go_sem] theorem tySl_40 : tySl Tryz.prog 40 = some (82, 4, 96) := by kernel_rfl
@[go_sem] theorem tyZ_40 : tyZ Tryz.prog 40 = some (0, [.slice none 0 0]) := by kernel_rfl
@[go_sem] theorem tyK_41 : tyK Tryz.prog 41 = some (1, 3) := by kernel_rfl
@[go_sem] theorem tyK_42 : tyK Tryz.prog 42 = some (1, 3) := by kernel_rfl
@[go_sem] theorem tyF_42_0 : tyF Tryz.prog 42 0 = some (0, 0, 1) := by kernel_rfl
@[go_sem] theorem tyF_42_1 : tyF Tryz.prog 42 1 = some (1, 0, 1) := by kernel_rfl
@[go_sem] theorem tyF_42_2 : tyF Tryz.prog 42 2 = some (2, 0, 1) := by kernel_rfl
@[go_sem] theorem tyB_42 : tyBld Tryz.prog 42 = some ([.slice none 0 0, .slice none 0 0, .int .i64 0], [(0, 1), (1, 1), (2, 1)]) := by kernel_rfl
@[go_sem] theorem tyZ_42 : tyZ Tryz.prog 42 = some (1, [.slice none 0 0, .slice none 0 0, .int .i64 0]) := by kernel_rfl
@[go_sem] theorem tyK_43 : tyK Tryz.prog 43 = some (1, 2) := by kernel_rfl
@[go_sem] theorem tyK_44 : tyK Tryz.prog 44 = some (1, 2) := by kernel_rfl
@[go_sem] theorem tyF_44_0 : tyF Tryz.prog 44 0 = some (0, 0, 1) := by kernel_rfl
@[go_sem] theorem tyF_44_1 : tyF Tryz.prog 44 1 = some (1, 0, 1) := by kernel_rfl
@[go_sem] theorem tyB_44 : tyBld Tryz.prog 44 = some ([.int .i64 0, .int .i64 0], [(0, 1), (1, 1)]) := by kernel_rfl
@[go_sem] theorem tyZ_44 : tyZ Tryz.prog 44 = some (1, [.int .i64 0, .int .i64 0]) := by kernel_rfl
@[go_sem] theorem tyK_45 : tyK Tryz.prog 45 = some (0, 1) := by kernel_rfl
@[go_sem] theorem tySl_45 : tySl Tryz.prog 45 = some (58, 2, 16) := by kernel_rfl
@[go_sem] theorem tyZ_45 : tyZ Tryz.prog 45 = some (0, [.slice none 0 0]) := by kernel_rfl
@[go_sem] theorem tyK_57 : tyK Tryz.prog 57 = some (1, 2) := by kernel_rfl
@[go_sem] theorem tyK_58 : tyK Tryz.prog 58 = some (1, 2) := by kernel_rfl
@[go_sem] theorem tyF_58_0 : tyF Tryz.prog 58 0 = some (0, 0, 1) := by kernel_rfl
@[go_sem] theorem tyF_58_1 : tyF Tryz.prog 58 1 = some (1, 0, 1) := by kernel_rfl
@[go_sem] theorem tyB_58 : tyBld Tryz.prog 58 = some ([.int .i64 0, .int .i64 0], [(0, 1), (1, 1)]) := by kernel_rfl
@[go_sem] theorem tyZ_58 : tyZ Tryz.prog 58 = some (1, [.int .i64 0, .int .i64 0]) := by kernel_rfl
@[go_sem] theorem tyK_59 : tyK Tryz.prog 59 = some (1, 7) := by kernel_rfl
@[go_sem] theorem tyK_60 : tyK Tryz.prog 60 = some (1, 7) := by kernel_rfl
@[go_sem] theorem tyF_60_0 : tyF Tryz.prog 60 0 = some (0, 0, 1) := by kernel_rfl
@[go_sem] theorem tyF_60_1 : tyF Tryz.prog 60 1 = some (1, 0, 1) := by kernel_rfl
@[go_sem] theorem tyF_60_2 : tyF Tryz.prog 60 2 = some (2, 0, 1) := by kernel_rfl
@[go_sem] theorem tyF_60_3 : tyF Tryz.prog 60 3 = some (3, 0, 1) := by kernel_rfl
@[go_sem] theorem tyF_60_4 : tyF Tryz.prog 60 4 = some (4, 0, 1) := by kernel_rfl
@[go_sem] theorem tyF_60_5 : tyF Tryz.prog 60 5 = some (5, 0, 1) := by kernel_rfl
@[go_sem] theorem tyF_60_6 : tyF Tryz.prog 60 6 = some (6, 0, 1) := by kernel_rfl
@[go_sem] theorem tyB_60 : tyBld Tryz.prog 60 = some ([.int .i64 0, .slice none 0 0, .int .i64 0, .int .i64 0, .bool false, .bool false, .bool false], [(0, 1), (1, 1), (2, 1), (3, 1), (4, 1), (5, 1), (6, 1)]) := by kernel_rfl
@[go_sem] theorem tyZ_60 : tyZ Tryz.prog 60 = some (1, [.int .i64 0, .slice none 0 0, .int .i64 0, .int .i64 0, .bool false, .bool false, .bool false]) := by kernel_rfl
@[go_sem] theorem tyK_63 : tyK Tryz.prog 63 = some (1, 2) := by kernel_rfl
@[go_sem] theorem tyK_64 : tyK Tryz.prog 64 = some (1, 2) := by kernel_rfl
@[go_sem] theorem tyF_64_0 : tyF Tryz.prog 64 0 = some (0, 0, 1) := by kernel_rfl
@[go_sem] theorem tyF_64_1 : tyF Tryz.prog 64 1 = some (1, 0, 1) := by kernel_rfl
@[go_sem] theorem tyB_64 : tyBld Tryz.prog 64 = some ([.int .i64 0, .int .i64 0], [(0, 1), (1, 1)]) := by kernel_rfl
@[go_sem] theorem tyZ_64 : tyZ Tryz.prog 64 = some (1, [.int .i64 0, .int .i64 0]) := by kernel_rfl
@[go_sem] theorem tyK_65 : tyK Tryz.prog 65 = some (0, 1) := by kernel_rfl
@[go_sem] theorem tySl_65 : tySl Tryz.prog 65 = some (5, 1, 1) := by kernel_rfl
@[go_sem] theorem tyZ_65 : tyZ Tryz.prog 65 = some (0, [.slice none 0 0]) := by kernel_rfl
@[go_sem] theorem tyK_66 : tyK Tryz.prog 66 = some (1, 4) := by kernel_rfl
@[go_sem] theorem tyK_67 : tyK Tryz.prog 67 = some (1, 4) := by kernel_rfl
@[go_sem] theorem tyF_67_0 : tyF Tryz.prog 67 0 = some (0, 0, 1) := by kernel_rfl
@[go_sem] theorem tyF_67_1 : tyF Tryz.prog 67 1 = some (1, 1, 2) := by kernel_rfl
@[go_sem] theorem tyF_67_2 : tyF Tryz.prog 67 2 = some (3, 0, 1) := by kernel_rfl
@[go_sem] theorem tyB_67 : tyBld Tryz.prog 67 = some ([.int .i64 0, .int .i64 0, .int .i64 0, .slice none 0 0], [(0, 1), (1, 2), (3, 1)]) := by kernel_rfl
@[go_sem] theorem tyZ_67 : tyZ Tryz.prog 67 = some (1, [.int .i64 0, .int .i64 0, .int .i64 0, .slice none 0 0]) := by kernel_rfl
@[go_sem] theorem tyK_68 : tyK Tryz.prog 68 = some (1, 12) := by kernel_rfl
@[go_sem] theorem tyK_69 : tyK Tryz.prog 69 = some (1, 12) := by kernel_rfl
@[go_sem] theorem tyF_69_0 : tyF Tryz.prog 69 0 = some (0, 0, 1) := by kernel_rfl
@[go_sem] theorem tyF_69_1 : tyF Tryz.prog 69 1 = some (1, 0, 1) := by kernel_rfl
@[go_sem] theorem tyF_69_2 : tyF Tryz.prog 69 2 = some (2, 0, 1) := by kernel_rfl
@[go_sem] theorem tyF_69_3 : tyF Tryz.prog 69 3 = some (3, 0, 1) := by kernel_rfl
@[go_sem] theorem tyF_69_4 : tyF Tryz.prog 69 4 = some (4, 0, 1) := by kernel_rfl
@[go_sem] theorem tyF_69_5 : tyF Tryz.prog 69 5 = some (5, 0, 1) := by kernel_rfl
@[go_sem] theorem tyF_69_6 : tyF Tryz.prog 69 6 = some (6, 0, 1) := by kernel_rfl
@[go_sem] theorem tyF_69_7 : tyF Tryz.prog 69 7 = some (7, 0, 1) := by kernel_rfl
@[go_sem] theorem tyF_69_8 : tyF Tryz.prog 69 8 = some (8, 1, 4) := by kernel_rfl
@[go_sem] theorem tyB_69 : tyBld Tryz.prog 69 = some ([.int .i64 0, .int .i64 0, .int .i64 0, .int .i64 0, .int .i64 0, .slice none 0 0, .slice none 0 0, .slice none 0 0, .int .i64 0, .int .i64 0, .int .i64 0, .slice none 0 0], [(0, 1), (1, 1), (2, 1), (3, 1), (4, 1), (5, 1), (6, 1), (7, 1), (8, 4)]) := by kernel_rfl
@[go_sem] theorem tyZ_69 : tyZ Tryz.prog 69 = some (1, [.int .i64 0, .int .i64 0, .int .i64 0, .int .i64 0, .int .i64 0, .slice none 0 0, .slice none 0 0, .slice none 0 0, .int .i64 0, .int .i64 0, .int .i64 0, .slice none 0 0]) := by kernel_rfl
@[go_sem] theorem tyK_79 : tyK Tryz.prog 79 = some (1, 4) := by kernel_rfl
@[go_sem] theorem tyK_80 : tyK Tryz.prog 80 = some (1, 4) := by kernel_rfl
@[go_sem] theorem tyF_80_0 : tyF Tryz.prog 80 0 = some (0, 1, 2) := by kernel_rfl
@[go_sem] theorem tyF_80_1 : tyF Tryz.prog 80 1 = some (2, 0, 1) := by kernel_rfl
@[go_sem] theorem tyF_80_2 : tyF Tryz.prog 80 2 = some (3, 0, 1) := by kernel_rfl
@[go_sem] theorem tyB_80 : tyBld Tryz.prog 80 = some ([.int .i64 0, .int .i64 0, .int .i64 0, .bool false], [(0, 2), (2, 1), (3, 1)]) := by kernel_rfl
@[go_sem] theorem tyZ_80 : tyZ Tryz.prog 80 = some (1, [.int .i64 0, .int .i64 0, .int .i64 0, .bool false]) := by kernel_rfl
@[go_sem] theorem tyK_81 : tyK Tryz.prog 81 = some (1, 4) := by kernel_rfl
@[go_sem] theorem tyK_82 : tyK Tryz.prog 82 = some (1, 4) := by kernel_rfl
@[go_sem] theorem tyF_82_0 : tyF Tryz.prog 82 0 = some (0, 0, 1) := by kernel_rfl
@[go_sem] theorem tyF_82_1 : tyF Tryz.prog 82 1 = some (1, 0, 1) := by kernel_rfl
@[go_sem] theorem tyF_82_2 : tyF Tryz.prog 82 2 = some (2, 0, 1) := by kernel_rfl
@[go_sem] theorem tyF_82_3 : tyF Tryz.prog 82 3 = some (3, 0, 1) := by kernel_rfl
@[go_sem] theorem tyB_82 : tyBld Tryz.prog 82 = some ([.slice none 0 0, .slice none 0 0, .slice none 0 0, .slice none 0 0], [(0, 1), (1, 1), (2, 1), (3, 1)]) := by kernel_rfl
@[go_sem] theorem tyZ_82 : tyZ Tryz.prog 82 = some (1, [.slice none 0 0, .slice none 0 0, .slice none 0 0, .slice none 0 0]) := by kernel_rfl
@[go_sem] theorem tyK_86 : tyK Tryz.prog 86 = some (0, 1) := by kernel_rfl
@[go_sem] theorem tyZ_86 : tyZ Tryz.prog 86 = some (0, [.nilFunc]) := by kernel_rfl
@[go_sem] theorem tyK_103 : tyK Tryz.prog 103 = some (1, 3) := by kernel_rfl
@[go_sem] theorem tyK_104 : tyK Tryz.prog 104 = some (1, 3) := by kernel_rfl
@[go_sem] theorem tyF_104_0 : tyF Tryz.prog 104 0 = some (0, 1, 2) := by kernel_rfl
@[go_sem] theorem tyF_104_1 : tyF Tryz.prog 104 1 = some (2, 0, 1) := by kernel_rfl
@[go_sem] theorem tyB_104 : tyBld Tryz.prog 104 = some ([.int .i64 0, .int .i64 0, .slice none 0 0], [(0, 2), (2, 1)]) := by kernel_rfl
@[go_sem] theorem tyZ_104 : tyZ Tryz.prog 104 = some (1, [.int .i64 0, .int .i64 0, .slice none 0 0]) := by kernel_rfl
@[go_sem] theorem tyK_107 : tyK Tryz.prog 107 = some (0, 1) := by kernel_rfl
@[go_sem] theorem tyZ_107 : tyZ Tryz.prog 107 = some (0, [.nilFunc]) := by kernel_rfl
@[go_sem] theorem tyK_119 : tyK Tryz.prog 119 = some (2, 256) := by kernel_rfl
@[go_sem] theorem tySl_119 : tySl Tryz.prog 119 = none := by kernel_rfl
@[go_sem] theorem tyAr_119 : tyAr Tryz.prog 119 = some (256, 0, 1) := by kernel_rfl
@[go_sem] theorem tyZ_119 : tyZ Tryz.prog 119 = some (2, List.replicate 256 (.bool false)) := by kernel_rfl
@[go_sem] theorem tyK_129 : tyK Tryz.prog 129 = some (0, 1) := by kernel_rfl
@[go_sem] theorem tyZ_129 : tyZ Tryz.prog 129 = some (0, [.nilFunc]) := by kernel_rfl
@[go_sem] theorem tyK_146 : tyK Tryz.prog 146 = some (2, 64) := by kernel_rfl
@[go_sem] theorem tySl_146 : tySl Tryz.prog 146 = none := by kernel_rfl
@[go_sem] theorem tyAr_146 : tyAr Tryz.prog 146 = some (64, 0, 1) := by kernel_rfl
@[go_sem] theorem tyZ_146 : tyZ Tryz.prog 146 = some (2, List.replicate 64 (.int .i64 0)) := by kernel_rfl
@[go_sem] theorem tyK_155 : tyK Tryz.prog 155 = some (0, 1) := by kernel_rfl
@[go_sem] theorem tySl_155 : tySl Tryz.prog 155 = some (24, 1, 24) := by kernel_rfl
@[go_sem] theorem tyZ_155 : tyZ Tryz.prog 155 = some (0, [.slice none 0 0]) := by kernel_rfl
@[go_sem] theorem tyK_158 : tyK Tryz.prog 158 = some (0, 1) := by kernel_rfl
@[go_sem] theorem tyK_160 : tyK Tryz.prog 160 = some (2, 4) := by kernel_rfl
@[go_sem] theorem tySl_160 : tySl Tryz.prog 160 = none := by kernel_rfl
@[go_sem] theorem tyAr_160 : tyAr Tryz.prog 160 = some (2, 2, 2) := by kernel_rfl
@[go_sem] theorem tyZ_160 : tyZ Tryz.prog 160 = some (2, [.int .i64 0, .int .i64 0, .int .i64 0, .int .i64 0]) := by kernel_rfl
@[go_sem] theorem tyK_166 : tyK Tryz.prog 166 = some (0, 1) := by kernel_rfl
@[go_sem] theorem tySl_166 : tySl Tryz.prog 166 = some (45, 1, 24) := by kernel_rfl
@[go_sem] theorem tyZ_166 : tyZ Tryz.prog 166 = some (0, [.slice none 0 0]) := by kernel_rfl
@[go_sem] theorem tyK_170 : tyK Tryz.prog 170 = some (0, 1) := by kernel_rfl
@[go_sem] theorem tyZ_170 : tyZ Tryz.prog 170 = some (0, [.nilFunc]) := by kernel_rfl
@[go_sem] theorem tyK_173 : tyK Tryz.prog 173 = some (0, 1) := by kernel_rfl
@[go_sem] theorem tySl_173 : tySl Tryz.prog 173 = some (3, 1, 8) := by kernel_rfl
@[go_sem] theorem tyZ_173 : tyZ Tryz.prog 173 = some (0, [.slice none 0 0]) := by kernel_rfl
@[go_sem] theorem tyK_175 : tyK Tryz.prog 175 = some (0, 1) := by kernel_rfl
@[go_sem] theorem tyInt_175 : tyInt Tryz.prog 175 = some .u64 := by kernel_rfl
@[go_sem] theorem tyZ_175 : tyZ Tryz.prog 175 = some (0, [.int .u64 0]) := by kernel_rfl
@[go_sem] theorem tyK_176 : tyK Tryz.prog 176 = some (1, 65) := by kernel_rfl
@[go_sem] theorem tyK_177 : tyK Tryz.prog 177 = some (1, 65) := by kernel_rfl
@[go_sem] theorem tyF_177_0 : tyF Tryz.prog 177 0 = some (0, 2, 64) := by kernel_rfl
@[go_sem] theorem tyF_177_1 : tyF Tryz.prog 177 1 = some (64, 0, 1) := by kernel_rfl
@[go_sem] theorem tyK_178 : tyK Tryz.prog 178 = some (0, 1) := by kernel_rfl
@[go_sem] theorem tyInt_178 : tyInt Tryz.prog 178 = some .u64 := by kernel_rfl
@[go_sem] theorem tyZ_178 : tyZ Tryz.prog 178 = some (0, [.int .u64 0]) := by kernel_rfl
@[go_sem] theorem tyK_183 : tyK Tryz.prog 183 = some (0, 1) := by kernel_rfl
@[go_sem] theorem tySl_183 : tySl Tryz.prog 183 = some (26, 1, 24) := by kernel_rfl
@[go_sem] theorem tyZ_183 : tyZ Tryz.prog 183 = some (0, [.slice none 0 0]) := by kernel_rfl
@[go_sem] theorem tyK_195 : tyK Tryz.prog 195 = some (0, 1) := by kernel_rfl
@[go_sem] theorem tyZ_195 : tyZ Tryz.prog 195 = some (0, [.pointer none]) := by kernel_rfl
@[go_sem] theorem tyK_204 : tyK Tryz.prog 204 = some (0, 1) := by kernel_rfl
@[go_sem] theorem tyInt_204 : tyInt Tryz.prog 204 = some .i64 := by kernel_rfl
@[go_sem] theorem tyZ_204 : tyZ Tryz.prog 204 = some (0, [.int .i64 0]) := by kernel_rfl
@[go_sem] theorem tyK_211 : tyK Tryz.prog 211 = some (0, 1) := by kernel_rfl
@[go_sem] theorem tyInt_211 : tyInt Tryz.prog 211 = some .u32 := by kernel_rfl
@[go_sem] theorem tyZ_211 : tyZ Tryz.prog 211 = some (0, [.int .u32 0]) := by kernel_rfl
@[go_sem] theorem tyK_212 : tyK Tryz.prog 212 = some (2, 64) := by kernel_rfl
@[go_sem] theorem tySl_212 : tySl Tryz.prog 212 = none := by kernel_rfl
@[go_sem] theorem tyAr_212 : tyAr Tryz.prog 212 = some (64, 0, 1) := by kernel_rfl
@[go_sem] theorem tyZ_212 : tyZ Tryz.prog 212 = some (2, List.replicate 64 (.int .u8 0)) := by kernel_rfl
@[go_sem] theorem tyK_213 : tyK Tryz.prog 213 = some (0, 1) := by kernel_rfl
@[go_sem] theorem tyInt_213 : tyInt Tryz.prog 213 = some .u64 := by kernel_rfl
@[go_sem] theorem tyZ_213 : tyZ Tryz.prog 213 = some (0, [.int .u64 0]) := by kernel_rfl
@[go_sem] theorem tyK_217 : tyK Tryz.prog 217 = some (0, 1) := by kernel_rfl
@[go_sem] theorem tyZ_217 : tyZ Tryz.prog 217 = some (0, [.pointer none]) := by kernel_rfl
@[go_sem] theorem tyK_219 : tyK Tryz.prog 219 = some (0, 1) := by kernel_rfl
@[go_sem] theorem tyZ_219 : tyZ Tryz.prog 219 = some (0, [.pointer none]) := by kernel_rfl
@[go_sem] theorem tyK_225 : tyK Tryz.prog 225 = some (2, 0) := by kernel_rfl
@[go_sem] theorem tySl_225 : tySl Tryz.prog 225 = none := by kernel_rfl
@[go_sem] theorem tyZ_225 : tyZ Tryz.prog 225 = some (2, []) := by kernel_rfl
@[go_sem] theorem tyK_232 : tyK Tryz.prog 232 = some (0, 1) := by kernel_rfl
@[go_sem] theorem tyZ_232 : tyZ Tryz.prog 232 = some (0, [.pointer none]) := by kernel_rfl
end Go.Proofs.YtlemffcailmmoaaGreatDoor
namespace Go.Proofs.YtlemffcailmmoaaGreatDoor
open Go.ChangeShapes Go.WideShapes Go.ChangeAt Go.RowKit

def enSt (s : Stamp) : List IV := [.val (.int .i64 s.count), .val (.int .i64 s.node)]
def enSp (s : Span) : List IV := [.val (.int .i64 s.lo), .val (.int .i64 s.hi)]
def enW (y : Write) : List IV := [.val (.int .i64 y.stamp.count), .val (.int .i64 y.stamp.node), .val (.int .i64 y.object), .val (.bool y.gone)]
def stI (l : List Stamp) : IV := .sl 2 (l.map enSt)
def spI (l : List Span) : IV := .sl 2 (l.map enSp)
def wrI (l : List Write) : IV := .sl 4 (l.map enW)
def enN (x : Note) : List IV := [stI x.start, stI x.end_, spI x.blur, wrI x.writes]
def noI (l : List Note) : IV := .sl 4 (l.map enN)
def noteA (x : Note) : AV := .agg [.iv (stI x.start), .iv (stI x.end_), .iv (spI x.blur), .iv (wrI x.writes)]
theorem enW_eq (y : Write) : enW y = [.val (.int .i64 y.stamp.count), .val (.int .i64 y.stamp.node), .val (.int .i64 y.object), .val (.bool y.gone)] := rfl
theorem enN_eq (x : Note) : enN x = [stI x.start, stI x.end_, spI x.blur, wrI x.writes] := rfl

section
variable {X : World} {v : Value}
theorem st_rep {cs : List Value} {s : Stamp} (h : StampR cs s) : RepVs X cs (enSt s) := by
  obtain ⟨rfl, h1, h2⟩ := h; exact ⟨.val h1, .val h2, trivial⟩
theorem rep_st {cs : List Value} {s : Stamp} (h : RepVs X cs (enSt s)) : StampR cs s := by
  match cs, h with
  | [a, b], ⟨h1, h2, _⟩ => cases h1 with | val i1 => cases h2 with | val i2 => exact ⟨rfl, i1, i2⟩
theorem sp_rep {cs : List Value} {s : Span} (h : SpanR cs s) : RepVs X cs (enSp s) := by
  obtain ⟨rfl, h1, h2⟩ := h; exact ⟨.val h1, .val h2, trivial⟩
theorem rep_sp {cs : List Value} {s : Span} (h : RepVs X cs (enSp s)) : SpanR cs s := by
  match cs, h with
  | [a, b], ⟨h1, h2, _⟩ => cases h1 with | val i1 => cases h2 with | val i2 => exact ⟨rfl, i1, i2⟩
theorem w_rep {cs : List Value} {s : Write} (h : WriteR cs s) : RepVs X cs (enW s) := by
  obtain ⟨rfl, h1, h2, h3⟩ := h; exact ⟨.val h1, .val h2, .val h3, .val trivial, trivial⟩
theorem rep_w {cs : List Value} {s : Write} (h : RepVs X cs (enW s)) : WriteR cs s := by
  match cs, h with
  | [a, b, c, d], ⟨h1, h2, h3, h4, _⟩ => cases h1 with | val i1 => cases h2 with | val i2 => cases h3 with | val i3 => cases h4 with | val i4 => exact ⟨rfl, i1, i2, i3⟩
theorem RepV.stamps {l : List Stamp} (h : RepV X v (stI l)) : Stamps X X.heap.size v l := h.to_typed fun _ _ _ h => rep_st h
theorem RepV.spans {l : List Span} (h : RepV X v (spI l)) : Spans X X.heap.size v l := h.to_typed fun _ _ _ h => rep_sp h
theorem RepV.writes {l : List Write} (h : RepV X v (wrI l)) : Writes X X.heap.size v l := h.to_typed fun _ _ _ h => rep_w h
theorem stamps_rep {l : List Stamp} {B : Nat} (h : Stamps X B v l) (hB : B ≤ X.heap.size) : RepV X v (stI l) := RepV.of_typed (fun _ _ h => st_rep h) h hB
theorem spans_rep {l : List Span} {B : Nat} (h : Spans X B v l) (hB : B ≤ X.heap.size) : RepV X v (spI l) := RepV.of_typed (fun _ _ h => sp_rep h) h hB
theorem writes_rep {l : List Write} {B : Nat} (h : Writes X B v l) (hB : B ≤ X.heap.size) : RepV X v (wrI l) := RepV.of_typed (fun _ _ h => w_rep h) h hB
/-- a note's four slices, read in a world that shows as much -/
theorem rep_note {E : Env} {w : World} (he : Ext X w) {x : Note} (h : RepA E X v (noteA x)) : ∃ v0 v1 v2 v3, v = .agg #[v0, v1, v2, v3] ∧ NoteV w w.heap.size v0 v1 v2 v3 x := by
  cases h with
  | @agg vs _ h1 h2 =>
    obtain ⟨l⟩ := vs
    match l, h1 with
    | [v0, v1, v2, v3], _ =>
      have a0 := h2 0 v0 _ rfl rfl
      have a1 := h2 1 v1 _ rfl rfl
      have a2 := h2 2 v2 _ rfl rfl
      have a3 := h2 3 v3 _ rfl rfl
      cases a0 with | iv a0 => cases a1 with | iv a1 => cases a2 with | iv a2 => cases a3 with | iv a3 =>
      exact ⟨v0, v1, v2, v3, rfl, a0.stamps.ext (fun _ _ h => h) he, a1.stamps.ext (fun _ _ h => h) he, a2.spans.ext (fun _ _ h => h) he, a3.writes.ext (fun _ _ h => h) he⟩
theorem Chunks.map_ {α β : Type} {R : List Value → α → Prop} {R' : List Value → β → Prop} {f : α → β} {k : Nat} (hR : ∀ cs x, R cs x → R' cs (f x)) : ∀ {xs : List Value} {l : List α}, Chunks R k xs l → Chunks R' k xs (l.map f)
  | _, [], h => h
  | _, _ :: _, ⟨cs, rest, e, hk, h1, h⟩ => ⟨cs, rest, e, hk, hR _ _ h1, Chunks.map_ hR h⟩
theorem OwnSl.map_ {α β : Type} {R : List Value → α → Prop} {R' : List Value → β → Prop} {f : α → β} {k : Nat} {w : World} {base : Nat} {e : TypeId} {l : List α} (hR : ∀ cs x, R cs x → R' cs (f x)) (h : OwnSl R k w base e v l) : OwnSl R' k w base e v (l.map f) := by
  obtain ⟨xs, h1, h2, h3⟩ := h
  exact ⟨xs, by rw [List.length_map]; exact h1, h2.map_ hR, by rw [List.length_map]; exact h3⟩
end

section
variable {P : Program} {G : World → Prop} {f : FuncId} {fn : Func} {c : Code}
theorem enters_f (hf : P.funcs[f]? = some fn) (hb : fn.body = some c) (hname : (fn.name == "runtime.NumGoroutine") = false) (vs : Array Value) (w : World) : (callFunc f vs).run P w = .ok (.enter f vs) w := by
  have hname' : ¬ fn.name = "runtime.NumGoroutine" := by simpa using hname
  simp [callFunc, program, Sem.run, hf, hname', hb]
/-- a contract of the elder kind whose result can be read where it comes -/
theorem bridge {args : List AV} {r : AV} (hf : P.funcs[f]? = some fn) (hb : fn.body = some c) (hname : (fn.name == "runtime.NumGoroutine") = false)
    (h : ∀ (V w : World) (E : Env) (vs : Array Value), Ext V w → G w → RepAs E V vs.toList args → Calls P f vs w fun e w' => ∃ v, e = .returned v ∧ Below w.heap.size w w' ∧ RepA E (vis V w w' []) v r) : ACalls P G f args r [] :=
  ⟨enters_f hf hb hname, fun V w E vs hV hG hr => (h V w E vs hV hG hr).mono fun _ w' ⟨v, he, hb, hv⟩ => ⟨v, E, he, hb, List.nodup_nil, fun _ h => (by cases h), fun _ h => (by cases h), hv⟩⟩
theorem args1 {E : Env} {V : World} {vs : Array Value} {a : AV} (h : RepAs E V vs.toList [a]) : ∃ v, vs = #[v] ∧ RepA E V v a := by
  obtain ⟨v, vs', h1, h2, h3⟩ := RepAs.cons_iff.1 h
  rw [RepAs.nil_iff] at h3
  subst h3
  exact ⟨v, by rw [← Array.toArray_toList (xs := vs), h1], h2⟩
theorem args2 {E : Env} {V : World} {vs : Array Value} {a b : AV} (h : RepAs E V vs.toList [a, b]) : ∃ v u, vs = #[v, u] ∧ RepA E V v a ∧ RepA E V u b := by
  obtain ⟨v, vs', h1, h2, h3⟩ := RepAs.cons_iff.1 h
  obtain ⟨u, vs2, rfl, h4, h5⟩ := RepAs.cons_iff.1 h3
  rw [RepAs.nil_iff] at h5
  subst h5
  exact ⟨v, u, by rw [← Array.toArray_toList (xs := vs), h1], h2, h4⟩
theorem iv_stamps {E : Env} {V w : World} {v : Value} {l : List Stamp} (hV : Ext V w) (h : RepA E V v (.iv (stI l))) : Stamps w w.heap.size v l := by
  cases h with | iv h => exact h.stamps.ext (fun _ _ h => h) hV
theorem iv_spans {E : Env} {V w : World} {v : Value} {l : List Span} (hV : Ext V w) (h : RepA E V v (.iv (spI l))) : Spans w w.heap.size v l := by
  cases h with | iv h => exact h.spans.ext (fun _ _ h => h) hV
theorem iv_writes {E : Env} {V w : World} {v : Value} {l : List Write} (hV : Ext V w) (h : RepA E V v (.iv (wrI l))) : Writes w w.heap.size v l := by
  cases h with | iv h => exact h.writes.ext (fun _ _ h => h) hV
/-- a contract of the elder kind whose result is a value without memory -/
theorem bridge_val {args : List AV} {v : Value} (hf : P.funcs[f]? = some fn) (hb : fn.body = some c) (hname : (fn.name == "runtime.NumGoroutine") = false)
    (h : ∀ (V w : World) (E : Env) (vs : Array Value), Ext V w → G w → RepAs E V vs.toList args → Calls P f vs w fun e w' => e = .returned v ∧ Below w.heap.size w w') : ACalls P G f args (.val v) [] :=
  ⟨enters_f hf hb hname, fun V w E vs hV hG hr => (h V w E vs hV hG hr).mono fun _ w' ⟨he, hb⟩ => ⟨v, E, he, hb, List.nodup_nil, fun _ h => (by cases h), fun _ h => (by cases h), .val⟩⟩
/-- whose result is a new row -/
theorem bridge_own {α : Type} {R : List Value → α → Prop} {enc : α → List IV} {k T : Nat} {l : List α} (hR : ∀ X cs x, R cs x → RepVs X cs (enc x)) {args : List AV} (hf : P.funcs[f]? = some fn) (hb : fn.body = some c) (hname : (fn.name == "runtime.NumGoroutine") = false)
    (h : ∀ (V w : World) (E : Env) (vs : Array Value), Ext V w → G w → RepAs E V vs.toList args → Calls P f vs w fun e w' => (∃ v, e = .returned v ∧ OwnSl R k w' w.heap.size T v l) ∧ Below w.heap.size w w') : ACalls P G f args (.own 0) [.row 0 T k (l.map enc)] :=
  ⟨enters_f hf hb hname, fun V w E vs hV hG hr => (h V w E vs hV hG hr).mono fun _ w' ⟨⟨v, he, hO⟩, hb⟩ => by
    obtain ⟨A, cc, hv⟩ := hO.form
    have ho : owns ⟨fun _ => (v.ownBlock).getD 0, fun _ => v⟩ [.row 0 T k (l.map enc)] = v.ownBlock.toList := by simp [owns, BA.owned]
    refine ⟨v, ⟨fun _ => (v.ownBlock).getD 0, fun _ => v⟩, he, hb, by rw [ho]; cases v.ownBlock <;> simp, fun g hg => by rw [ho, Option.mem_toList] at hg; exact (hO.lt g hg).1, fun b hb' => ?_, ?_⟩
    · simp only [List.mem_singleton] at hb'
      subst hb'
      exact ⟨hO.map_ fun cs x h => hR _ cs x h, fun g hg => by simp [hg]⟩
    · rw [hv]
      exact .own rfl⟩
end
end Go.Proofs.YtlemffcailmmoaaGreatDoor
