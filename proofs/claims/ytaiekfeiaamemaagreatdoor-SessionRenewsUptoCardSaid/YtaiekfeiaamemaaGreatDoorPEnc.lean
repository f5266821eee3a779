/- Stamps, spans, writes, notes as trees; contracts of the elder kind, told as data. -/
import Derived.Test.YtaiekfeiaamemaaGreatDoorPAbsSimp
import Derived.Test.YtaiekfeiaamemaaGreatDoorProg
import Derived.Test.YtaiekfeiaamemaaGreatDoorPNoteSmall
set_option linter.all false
set_option linter.unnecessarySimpa false
set_option linter.unusedSimpArgs false
set_option linter.unusedVariables false
/- What is asked of the types of this seat: made by program (genty.py). -/
namespace Go.Proofs.YtaiekfeiaamemaaGreatDoor
open Go.ChangeShapes Go.WideShapes Go.ChangeAt Go.RowKit

@[go_sem] theorem tyK_1 : tyK Tryz.prog 1 = some (0, 1) := by kernel_rfl
@[go_sem] theorem tyZ_1 : tyZ Tryz.prog 1 = some (0, [.nilFunc]) := by kernel_rfl
@[go_sem] theorem tyK_2 : tyK Tryz.prog 2 = some (0, 1) := by kernel_rfl
@[go_sem] theorem tyInt_2 : tyInt Tryz.prog 2 = some .i64 := by kernel_rfl
@[go_sem] theorem tyZ_2 : tyZ Tryz.prog 2 = some (0, [.int .i64 0]) := by kernel_rfl
@[go_sem] theorem tyK_3 : tyK Tryz.prog 3 = some (0, 1) := by kernel_rfl
@[go_sem] theorem tyInt_3 : tyInt Tryz.prog 3 = some .i64 := by kernel_rfl
@[go_sem] theorem tyZ_3 : tyZ Tryz.prog 3 = some (0, [.int .i64 0]) := by kernel_rfl
@[go_sem] theorem tyK_4 : tyK Tryz.prog 4 = some (0, 1) := by kernel_rfl
@[go_sem] theorem tyZ_4 : tyZ Tryz.prog 4 = some (0, [.bool false]) := by kernel_rfl
@[go_sem] theorem tyK_5 : tyK Tryz.prog 5 = some (0, 1) := by kernel_rfl
@[go_sem] theorem tyInt_5 : tyInt Tryz.prog 5 = some .u8 := by kernel_rfl
@[go_sem] theorem tyZ_5 : tyZ Tryz.prog 5 = some (0, [.int .u8 0]) := by kernel_rfl
@[go_sem] theorem tyK_9 : tyK Tryz.prog 9 = some (0, 1) := by kernel_rfl
@[go_sem] theorem tySl_9 : tySl Tryz.prog 9 = none := by kernel_rfl
@[go_sem] theorem tyStr_9 : tyStr Tryz.prog 9 = true := by kernel_rfl
@[go_sem] theorem tyK_12 : tyK Tryz.prog 12 = some (0, 1) := by kernel_rfl
@[go_sem] theorem tyInt_12 : tyInt Tryz.prog 12 = some .u64 := by kernel_rfl
@[go_sem] theorem tyZ_12 : tyZ Tryz.prog 12 = some (0, [.int .u64 0]) := by kernel_rfl
@[go_sem] theorem tyK_13 : tyK Tryz.prog 13 = some (1, 2) := by kernel_rfl
@[go_sem] theorem tyK_21 : tyK Tryz.prog 21 = some (0, 1) := by kernel_rfl
@[go_sem] theorem tyInt_21 : tyInt Tryz.prog 21 = some .i32 := by kernel_rfl
@[go_sem] theorem tyZ_21 : tyZ Tryz.prog 21 = some (0, [.int .i32 0]) := by kernel_rfl
@[go_sem] theorem tyK_22 : tyK Tryz.prog 22 = some (0, 1) := by kernel_rfl
@[go_sem] theorem tySl_22 : tySl Tryz.prog 22 = some (123, 7, 56) := by kernel_rfl
@[go_sem] theorem tyZ_22 : tyZ Tryz.prog 22 = some (0, [.slice none 0 0]) := by kernel_rfl
@[go_sem] theorem tyK_23 : tyK Tryz.prog 23 = some (2, 2) := by kernel_rfl
@[go_sem] theorem tySl_23 : tySl Tryz.prog 23 = none := by kernel_rfl
@[go_sem] theorem tyAr_23 : tyAr Tryz.prog 23 = some (2, 0, 1) := by kernel_rfl
@[go_sem] theorem tyB_23 : tyBld Tryz.prog 23 = some ([.int .i64 0, .int .i64 0], [(0, 1), (1, 1)]) := by kernel_rfl
@[go_sem] theorem tyZ_23 : tyZ Tryz.prog 23 = some (2, [.int .i64 0, .int .i64 0]) := by kernel_rfl
@[go_sem] theorem tyK_24 : tyK Tryz.prog 24 = some (0, 1) := by kernel_rfl
@[go_sem] theorem tySl_24 : tySl Tryz.prog 24 = some (63, 2, 16) := by kernel_rfl
@[go_sem] theorem tyZ_24 : tyZ Tryz.prog 24 = some (0, [.slice none 0 0]) := by kernel_rfl
@[go_sem] theorem tyK_25 : tyK Tryz.prog 25 = some (0, 1) := by kernel_rfl
@[go_sem] theorem tySl_25 : tySl Tryz.prog 25 = some (161, 3, 40) := by kernel_rfl
@[go_sem] theorem tyZ_25 : tyZ Tryz.prog 25 = some (0, [.slice none 0 0]) := by kernel_rfl
@[go_sem] theorem tyK_26 : tyK Tryz.prog 26 = some (0, 1) := by kernel_rfl
@[go_sem] theorem tySl_26 : tySl Tryz.prog 26 = some (69, 4, 32) := by kernel_rfl
@[go_sem] theorem tyZ_26 : tyZ Tryz.prog 26 = some (0, [.slice none 0 0]) := by kernel_rfl
@[go_sem] theorem tyK_27 : tyK Tryz.prog 27 = some (0, 1) := by kernel_rfl
@[go_sem] theorem tySl_27 : tySl Tryz.prog 27 = some (66, 4, 48) := by kernel_rfl
@[go_sem] theorem tyZ_27 : tyZ Tryz.prog 27 = some (0, [.slice none 0 0]) := by kernel_rfl
@[go_sem] theorem tyK_28 : tyK Tryz.prog 28 = some (1, 5) := by kernel_rfl
@[go_sem] theorem tyK_29 : tyK Tryz.prog 29 = some (1, 5) := by kernel_rfl
@[go_sem] theorem tyF_29_0 : tyF Tryz.prog 29 0 = some (0, 0, 1) := by kernel_rfl
@[go_sem] theorem tyF_29_1 : tyF Tryz.prog 29 1 = some (1, 0, 1) := by kernel_rfl
@[go_sem] theorem tyF_29_2 : tyF Tryz.prog 29 2 = some (2, 0, 1) := by kernel_rfl
@[go_sem] theorem tyF_29_3 : tyF Tryz.prog 29 3 = some (3, 0, 1) := by kernel_rfl
@[go_sem] theorem tyF_29_4 : tyF Tryz.prog 29 4 = some (4, 0, 1) := by kernel_rfl
@[go_sem] theorem tyB_29 : tyBld Tryz.prog 29 = some ([.slice none 0 0, .slice none 0 0, .slice none 0 0, .slice none 0 0, .int .i64 0], [(0, 1), (1, 1), (2, 1), (3, 1), (4, 1)]) := by kernel_rfl
@[go_sem] theorem tyZ_29 : tyZ Tryz.prog 29 = some (1, [.slice none 0 0, .slice none 0 0, .slice none 0 0, .slice none 0 0, .int .i64 0]) := by kernel_rfl
@[go_sem] theorem tyK_30 : tyK Tryz.prog 30 = some (0, 1) := by kernel_rfl
@[go_sem] theorem tyZ_30 : tyZ Tryz.prog 30 = some (0, [.nilFunc]) := by kernel_rfl
@[go_sem] theorem tyK_31 : tyK Tryz.prog 31 = some (0, 1) := by kernel_rfl
@[go_sem] theorem tyZ_31 : tyZ Tryz.prog 31 = some (0, [.nilFunc]) := by kernel_rfl
@[go_sem] theorem tyK_32 : tyK Tryz.prog 32 = some (0, 1) := by kernel_rfl
@[go_sem] theorem tySl_32 : tySl Tryz.prog 32 = some (114, 12, 160) := by kernel_rfl
@[go_sem] theorem tyZ_32 : tyZ Tryz.prog 32 = some (0, [.slice none 0 0]) := by kernel_rfl
@[go_sem] theorem tyK_33 : tyK Tryz.prog 33 = some (0, 1) := by kernel_rfl
@[go_sem] theorem tyInt_33 : tyInt Tryz.prog 33 = some .i64 := by kernel_rfl
@[go_sem] theorem tyZ_33 : tyZ Tryz.prog 33 = some (0, [.int .i64 0]) := by kernel_rfl
@[go_sem] theorem tyK_35 : tyK Tryz.prog 35 = some (0, 1) := by kernel_rfl
@[go_sem] theorem tyZ_35 : tyZ Tryz.prog 35 = some (0, [.nilFunc]) := by kernel_rfl
@[go_sem] theorem tyK_36 : tyK Tryz.prog 36 = some (0, 1) := by kernel_rfl
@[go_sem] theorem tyZ_36 : tyZ Tryz.prog 36 = some (0, [.nilFunc]) := by kernel_rfl
@[go_sem] theorem tyK_37 : tyK Tryz.prog 37 = some (0, 1) := by kernel_rfl
@[go_sem] theorem tyZ_37 : tyZ Tryz.prog 37 = some (0, [.nilFunc]) := by kernel_rfl
@[go_sem] theorem tyK_38 : tyK Tryz.prog 38 = some (0, 1) := by kernel_rfl
@[go_sem] theorem tyZ_38 : tyZ Tryz.prog 38 = some (0, [.nilFunc]) := by kernel_rfl
@[go_sem] theorem tyK_39 : tyK Tryz.prog 39 = some (0, 1) := by kernel_rfl
@[go_sem] theorem tyZ_39 : tyZ Tryz.prog 39 = some (0, [.nilFunc]) := by kernel_rfl
@[go_sem] theorem tyK_40 : tyK Tryz.prog 40 = some (0, 1) := by kernel_rfl
@[go_sem] theorem tySl_40 : tySl Tryz.prog 40 = some (53, 4, 96) := by kernel_rfl
@[go_sem] theorem tyZ_40 : tyZ Tryz.prog 40 = some (0, [.slice none 0 0]) := by kernel_rfl
@[go_sem] theorem tyK_41 : tyK Tryz.prog 41 = some (1, 3) := by kernel_rfl
@[go_sem] theorem tyK_42 : tyK Tryz.prog 42 = some (1, 3) := by kernel_rfl
@[go_sem] theorem tyF_42_0 : tyF Tryz.prog 42 0 = some (0, 0, 1) := by kernel_rfl
@[go_sem] theorem tyF_42_1 : tyF Tryz.prog 42 1 = some (1, 0, 1) := by kernel_rfl
@[go_sem] theorem tyF_42_2 : tyF Tryz.prog 42 2 = some (2, 0, 1) := by kernel_rfl
@[go_sem] theorem tyB_42 : tyBld Tryz.prog 42 = some ([.slice none 0 0, .slice none 0 0, .int .i64 0], [(0, 1), (1, 1), (2, 1)]) := by kernel_rfl
@[go_sem] theorem tyZ_42 : tyZ Tryz.prog 42 = some (1, [.slice none 0 0, .slice none 0 0, .int .i64 0]) := by kernel_rfl
@[go_sem] theorem tyK_43 : tyK Tryz.prog 43 = some (1, 2) := by kernel_rfl
@[go_sem] theorem tyK_44 : tyK Tryz.prog 44 = some (1, 2) := by kernel_rfl
@[go_sem] theorem tyF_44_0 : tyF Tryz.prog 44 0 = some (0, 0, 1) := by kernel_rfl
@[go_sem] theorem tyF_44_1 : tyF Tryz.prog 44 1 = some (1, 0, 1) := by kernel_rfl
@[go_sem] theorem tyB_44 : tyBld Tryz.prog 44 = some ([.int .i64 0, .int .i64 0], [(0, 1), (1, 1)]) := by kernel_rfl
@[go_sem] theorem tyZ_44 : tyZ Tryz.prog 44 = some (1, [.int .i64 0, .int .i64 0]) := by kernel_rfl
@[go_sem] theorem tyK_45 : tyK Tryz.prog 45 = some (1, 2) := by kernel_rfl
@[go_sem] theorem tyK_46 : tyK Tryz.prog 46 = some (1, 2) := by kernel_rfl
@[go_sem] theorem tyF_46_0 : tyF Tryz.prog 46 0 = some (0, 0, 1) := by kernel_rfl
@[go_sem] theorem tyF_46_1 : tyF Tryz.prog 46 1 = some (1, 0, 1) := by kernel_rfl
@[go_sem] theorem tyB_46 : tyBld Tryz.prog 46 = some ([.int .i64 0, .int .i64 0], [(0, 1), (1, 1)]) := by kernel_rfl
@[go_sem] theorem tyZ_46 : tyZ Tryz.prog 46 = some (1, [.int .i64 0, .int .i64 0]) := by kernel_rfl
@[go_sem] theorem tyK_47 : tyK Tryz.prog 47 = some (0, 1) := by kernel_rfl
@[go_sem] theorem tySl_47 : tySl Tryz.prog 47 = some (46, 2, 16) := by kernel_rfl
@[go_sem] theorem tyZ_47 : tyZ Tryz.prog 47 = some (0, [.slice none 0 0]) := by kernel_rfl
@[go_sem] theorem tyK_49 : tyK Tryz.prog 49 = some (0, 1) := by kernel_rfl
@[go_sem] theorem tyZ_49 : tyZ Tryz.prog 49 = some (0, [.nilFunc]) := by kernel_rfl
@[go_sem] theorem tyK_50 : tyK Tryz.prog 50 = some (0, 1) := by kernel_rfl
@[go_sem] theorem tyZ_50 : tyZ Tryz.prog 50 = some (0, [.nilFunc]) := by kernel_rfl
@[go_sem] theorem tyK_51 : tyK Tryz.prog 51 = some (0, 1) := by kernel_rfl
@[go_sem] theorem tyZ_51 : tyZ Tryz.prog 51 = some (0, [.nilFunc]) := by kernel_rfl
@[go_sem] theorem tyK_52 : tyK Tryz.prog 52 = some (1, 4) := by kernel_rfl
@[go_sem] theorem tyK_53 : tyK Tryz.prog 53 = some (1, 4) := by kernel_rfl
@[go_sem] theorem tyF_53_0 : tyF Tryz.prog 53 0 = some (0, 0, 1) := by kernel_rfl
@[go_sem] theorem tyF_53_1 : tyF Tryz.prog 53 1 = some (1, 0, 1) := by kernel_rfl
@[go_sem] theorem tyF_53_2 : tyF Tryz.prog 53 2 = some (2, 0, 1) := by kernel_rfl
@[go_sem] theorem tyF_53_3 : tyF Tryz.prog 53 3 = some (3, 0, 1) := by kernel_rfl
@[go_sem] theorem tyB_53 : tyBld Tryz.prog 53 = some ([.slice none 0 0, .slice none 0 0, .slice none 0 0, .slice none 0 0], [(0, 1), (1, 1), (2, 1), (3, 1)]) := by kernel_rfl
@[go_sem] theorem tyZ_53 : tyZ Tryz.prog 53 = some (1, [.slice none 0 0, .slice none 0 0, .slice none 0 0, .slice none 0 0]) := by kernel_rfl
@[go_sem] theorem tyK_54 : tyK Tryz.prog 54 = some (0, 1) := by kernel_rfl
@[go_sem] theorem tyZ_54 : tyZ Tryz.prog 54 = some (0, [.nilFunc]) := by kernel_rfl
@[go_sem] theorem tyK_55 : tyK Tryz.prog 55 = some (0, 1) := by kernel_rfl
@[go_sem] theorem tyZ_55 : tyZ Tryz.prog 55 = some (0, [.nilFunc]) := by kernel_rfl
@[go_sem] theorem tyK_57 : tyK Tryz.prog 57 = some (0, 1) := by kernel_rfl
@[go_sem] theorem tyZ_57 : tyZ Tryz.prog 57 = some (0, [.nilFunc]) := by kernel_rfl
@[go_sem] theorem tyK_58 : tyK Tryz.prog 58 = some (0, 1) := by kernel_rfl
@[go_sem] theorem tyZ_58 : tyZ Tryz.prog 58 = some (0, [.nilFunc]) := by kernel_rfl
@[go_sem] theorem tyK_59 : tyK Tryz.prog 59 = some (0, 1) := by kernel_rfl
@[go_sem] theorem tyZ_59 : tyZ Tryz.prog 59 = some (0, [.nilFunc]) := by kernel_rfl
@[go_sem] theorem tyK_60 : tyK Tryz.prog 60 = some (0, 1) := by kernel_rfl
@[go_sem] theorem tyZ_60 : tyZ Tryz.prog 60 = some (0, [.nilFunc]) := by kernel_rfl
@[go_sem] theorem tyK_61 : tyK Tryz.prog 61 = some (0, 1) := by kernel_rfl
@[go_sem] theorem tyZ_61 : tyZ Tryz.prog 61 = some (0, [.nilFunc]) := by kernel_rfl
@[go_sem] theorem tyK_62 : tyK Tryz.prog 62 = some (1, 2) := by kernel_rfl
@[go_sem] theorem tyK_63 : tyK Tryz.prog 63 = some (1, 2) := by kernel_rfl
@[go_sem] theorem tyF_63_0 : tyF Tryz.prog 63 0 = some (0, 0, 1) := by kernel_rfl
@[go_sem] theorem tyF_63_1 : tyF Tryz.prog 63 1 = some (1, 0, 1) := by kernel_rfl
@[go_sem] theorem tyB_63 : tyBld Tryz.prog 63 = some ([.int .i64 0, .int .i64 0], [(0, 1), (1, 1)]) := by kernel_rfl
@[go_sem] theorem tyZ_63 : tyZ Tryz.prog 63 = some (1, [.int .i64 0, .int .i64 0]) := by kernel_rfl
@[go_sem] theorem tyK_64 : tyK Tryz.prog 64 = some (0, 1) := by kernel_rfl
@[go_sem] theorem tySl_64 : tySl Tryz.prog 64 = some (5, 1, 1) := by kernel_rfl
@[go_sem] theorem tyByt_64 : tyByt Tryz.prog 64 = true := by kernel_rfl
@[go_sem] theorem tyZ_64 : tyZ Tryz.prog 64 = some (0, [.slice none 0 0]) := by kernel_rfl
@[go_sem] theorem tyK_65 : tyK Tryz.prog 65 = some (1, 4) := by kernel_rfl
@[go_sem] theorem tyK_66 : tyK Tryz.prog 66 = some (1, 4) := by kernel_rfl
@[go_sem] theorem tyF_66_0 : tyF Tryz.prog 66 0 = some (0, 0, 1) := by kernel_rfl
@[go_sem] theorem tyF_66_1 : tyF Tryz.prog 66 1 = some (1, 1, 2) := by kernel_rfl
@[go_sem] theorem tyF_66_2 : tyF Tryz.prog 66 2 = some (3, 0, 1) := by kernel_rfl
@[go_sem] theorem tyB_66 : tyBld Tryz.prog 66 = some ([.int .i64 0, .int .i64 0, .int .i64 0, .slice none 0 0], [(0, 1), (1, 2), (3, 1)]) := by kernel_rfl
@[go_sem] theorem tyZ_66 : tyZ Tryz.prog 66 = some (1, [.int .i64 0, .int .i64 0, .int .i64 0, .slice none 0 0]) := by kernel_rfl
@[go_sem] theorem tyK_67 : tyK Tryz.prog 67 = some (0, 1) := by kernel_rfl
@[go_sem] theorem tyZ_67 : tyZ Tryz.prog 67 = some (0, [.nilFunc]) := by kernel_rfl
@[go_sem] theorem tyK_68 : tyK Tryz.prog 68 = some (1, 4) := by kernel_rfl
@[go_sem] theorem tyK_69 : tyK Tryz.prog 69 = some (1, 4) := by kernel_rfl
@[go_sem] theorem tyF_69_0 : tyF Tryz.prog 69 0 = some (0, 1, 2) := by kernel_rfl
@[go_sem] theorem tyF_69_1 : tyF Tryz.prog 69 1 = some (2, 0, 1) := by kernel_rfl
@[go_sem] theorem tyF_69_2 : tyF Tryz.prog 69 2 = some (3, 0, 1) := by kernel_rfl
@[go_sem] theorem tyB_69 : tyBld Tryz.prog 69 = some ([.int .i64 0, .int .i64 0, .int .i64 0, .bool false], [(0, 2), (2, 1), (3, 1)]) := by kernel_rfl
@[go_sem] theorem tyZ_69 : tyZ Tryz.prog 69 = some (1, [.int .i64 0, .int .i64 0, .int .i64 0, .bool false]) := by kernel_rfl
@[go_sem] theorem tyK_71 : tyK Tryz.prog 71 = some (0, 1) := by kernel_rfl
@[go_sem] theorem tyZ_71 : tyZ Tryz.prog 71 = some (0, [.nilFunc]) := by kernel_rfl
@[go_sem] theorem tyK_72 : tyK Tryz.prog 72 = some (0, 1) := by kernel_rfl
@[go_sem] theorem tyZ_72 : tyZ Tryz.prog 72 = some (0, [.nilFunc]) := by kernel_rfl
@[go_sem] theorem tyK_73 : tyK Tryz.prog 73 = some (0, 1) := by kernel_rfl
@[go_sem] theorem tyZ_73 : tyZ Tryz.prog 73 = some (0, [.nilFunc]) := by kernel_rfl
@[go_sem] theorem tyK_74 : tyK Tryz.prog 74 = some (0, 1) := by kernel_rfl
@[go_sem] theorem tySl_74 : tySl Tryz.prog 74 = some (81, 14, 208) := by kernel_rfl
@[go_sem] theorem tyZ_74 : tyZ Tryz.prog 74 = some (0, [.slice none 0 0]) := by kernel_rfl
@[go_sem] theorem tyK_75 : tyK Tryz.prog 75 = some (0, 1) := by kernel_rfl
@[go_sem] theorem tyInt_75 : tyInt Tryz.prog 75 = some .u16 := by kernel_rfl
@[go_sem] theorem tyZ_75 : tyZ Tryz.prog 75 = some (0, [.int .u16 0]) := by kernel_rfl
@[go_sem] theorem tyK_76 : tyK Tryz.prog 76 = some (0, 1) := by kernel_rfl
@[go_sem] theorem tyZ_76 : tyZ Tryz.prog 76 = some (0, [.nilFunc]) := by kernel_rfl
@[go_sem] theorem tyK_77 : tyK Tryz.prog 77 = some (0, 1) := by kernel_rfl
@[go_sem] theorem tyInt_77 : tyInt Tryz.prog 77 = some .u64 := by kernel_rfl
@[go_sem] theorem tyZ_77 : tyZ Tryz.prog 77 = some (0, [.int .u64 0]) := by kernel_rfl
@[go_sem] theorem tyK_78 : tyK Tryz.prog 78 = some (1, 5) := by kernel_rfl
@[go_sem] theorem tyK_79 : tyK Tryz.prog 79 = some (1, 5) := by kernel_rfl
@[go_sem] theorem tyF_79_0 : tyF Tryz.prog 79 0 = some (0, 0, 1) := by kernel_rfl
@[go_sem] theorem tyF_79_1 : tyF Tryz.prog 79 1 = some (1, 0, 1) := by kernel_rfl
@[go_sem] theorem tyF_79_2 : tyF Tryz.prog 79 2 = some (2, 0, 1) := by kernel_rfl
@[go_sem] theorem tyF_79_3 : tyF Tryz.prog 79 3 = some (3, 0, 1) := by kernel_rfl
@[go_sem] theorem tyF_79_4 : tyF Tryz.prog 79 4 = some (4, 0, 1) := by kernel_rfl
@[go_sem] theorem tyB_79 : tyBld Tryz.prog 79 = some ([.int .i64 0, .int .i64 0, .int .i64 0, .slice none 0 0, .bool false], [(0, 1), (1, 1), (2, 1), (3, 1), (4, 1)]) := by kernel_rfl
@[go_sem] theorem tyZ_79 : tyZ Tryz.prog 79 = some (1, [.int .i64 0, .int .i64 0, .int .i64 0, .slice none 0 0, .bool false]) := by kernel_rfl
@[go_sem] theorem tyK_80 : tyK Tryz.prog 80 = some (1, 14) := by kernel_rfl
@[go_sem] theorem tyK_81 : tyK Tryz.prog 81 = some (1, 14) := by kernel_rfl
@[go_sem] theorem tyF_81_0 : tyF Tryz.prog 81 0 = some (0, 0, 1) := by kernel_rfl
@[go_sem] theorem tyF_81_1 : tyF Tryz.prog 81 1 = some (1, 1, 4) := by kernel_rfl
@[go_sem] theorem tyF_81_2 : tyF Tryz.prog 81 2 = some (5, 1, 5) := by kernel_rfl
@[go_sem] theorem tyF_81_3 : tyF Tryz.prog 81 3 = some (10, 1, 4) := by kernel_rfl
@[go_sem] theorem tyB_81 : tyBld Tryz.prog 81 = some ([.int .i64 0, .slice none 0 0, .slice none 0 0, .slice none 0 0, .slice none 0 0, .int .i64 0, .int .i64 0, .int .i64 0, .slice none 0 0, .bool false, .int .i64 0, .int .i64 0, .int .i64 0, .slice none 0 0], [(0, 1), (1, 4), (5, 5), (10, 4)]) := by kernel_rfl
@[go_sem] theorem tyZ_81 : tyZ Tryz.prog 81 = some (1, [.int .i64 0, .slice none 0 0, .slice none 0 0, .slice none 0 0, .slice none 0 0, .int .i64 0, .int .i64 0, .int .i64 0, .slice none 0 0, .bool false, .int .i64 0, .int .i64 0, .int .i64 0, .slice none 0 0]) := by kernel_rfl
@[go_sem] theorem tyK_82 : tyK Tryz.prog 82 = some (0, 1) := by kernel_rfl
@[go_sem] theorem tyZ_82 : tyZ Tryz.prog 82 = some (0, [.nilFunc]) := by kernel_rfl
@[go_sem] theorem tyK_83 : tyK Tryz.prog 83 = some (0, 1) := by kernel_rfl
@[go_sem] theorem tyZ_83 : tyZ Tryz.prog 83 = some (0, [.nilFunc]) := by kernel_rfl
@[go_sem] theorem tyK_85 : tyK Tryz.prog 85 = some (0, 1) := by kernel_rfl
@[go_sem] theorem tyZ_85 : tyZ Tryz.prog 85 = some (0, [.nilFunc]) := by kernel_rfl
@[go_sem] theorem tyK_86 : tyK Tryz.prog 86 = some (0, 1) := by kernel_rfl
@[go_sem] theorem tyZ_86 : tyZ Tryz.prog 86 = some (0, [.nilFunc]) := by kernel_rfl
@[go_sem] theorem tyK_87 : tyK Tryz.prog 87 = some (0, 1) := by kernel_rfl
@[go_sem] theorem tyZ_87 : tyZ Tryz.prog 87 = some (0, [.nilFunc]) := by kernel_rfl
@[go_sem] theorem tyK_88 : tyK Tryz.prog 88 = some (0, 1) := by kernel_rfl
@[go_sem] theorem tyZ_88 : tyZ Tryz.prog 88 = some (0, [.nilFunc]) := by kernel_rfl
@[go_sem] theorem tyK_90 : tyK Tryz.prog 90 = some (0, 1) := by kernel_rfl
@[go_sem] theorem tyZ_90 : tyZ Tryz.prog 90 = some (0, [.nilFunc]) := by kernel_rfl
@[go_sem] theorem tyK_91 : tyK Tryz.prog 91 = some (0, 1) := by kernel_rfl
@[go_sem] theorem tySl_91 : tySl Tryz.prog 91 = some (3, 1, 8) := by kernel_rfl
@[go_sem] theorem tyZ_91 : tyZ Tryz.prog 91 = some (0, [.slice none 0 0]) := by kernel_rfl
@[go_sem] theorem tyK_93 : tyK Tryz.prog 93 = some (0, 1) := by kernel_rfl
@[go_sem] theorem tyZ_93 : tyZ Tryz.prog 93 = some (0, [.nilFunc]) := by kernel_rfl
@[go_sem] theorem tyK_94 : tyK Tryz.prog 94 = some (0, 1) := by kernel_rfl
@[go_sem] theorem tyZ_94 : tyZ Tryz.prog 94 = some (0, [.nilFunc]) := by kernel_rfl
@[go_sem] theorem tyK_95 : tyK Tryz.prog 95 = some (0, 1) := by kernel_rfl
@[go_sem] theorem tyZ_95 : tyZ Tryz.prog 95 = some (0, [.nilFunc]) := by kernel_rfl
@[go_sem] theorem tyK_96 : tyK Tryz.prog 96 = some (0, 1) := by kernel_rfl
@[go_sem] theorem tyZ_96 : tyZ Tryz.prog 96 = some (0, [.nilFunc]) := by kernel_rfl
@[go_sem] theorem tyK_98 : tyK Tryz.prog 98 = some (0, 1) := by kernel_rfl
@[go_sem] theorem tyZ_98 : tyZ Tryz.prog 98 = some (0, [.nilFunc]) := by kernel_rfl
@[go_sem] theorem tyK_99 : tyK Tryz.prog 99 = some (0, 1) := by kernel_rfl
@[go_sem] theorem tyZ_99 : tyZ Tryz.prog 99 = some (0, [.nilFunc]) := by kernel_rfl
@[go_sem] theorem tyK_100 : tyK Tryz.prog 100 = some (0, 1) := by kernel_rfl
@[go_sem] theorem tyZ_100 : tyZ Tryz.prog 100 = some (0, [.nilFunc]) := by kernel_rfl
@[go_sem] theorem tyK_102 : tyK Tryz.prog 102 = some (0, 1) := by kernel_rfl
@[go_sem] theorem tyZ_102 : tyZ Tryz.prog 102 = some (0, [.nilFunc]) := by kernel_rfl
@[go_sem] theorem tyK_103 : tyK Tryz.prog 103 = some (0, 1) := by kernel_rfl
@[go_sem] theorem tyZ_103 : tyZ Tryz.prog 103 = some (0, [.nilFunc]) := by kernel_rfl
@[go_sem] theorem tyK_104 : tyK Tryz.prog 104 = some (0, 1) := by kernel_rfl
@[go_sem] theorem tyZ_104 : tyZ Tryz.prog 104 = some (0, [.nilFunc]) := by kernel_rfl
@[go_sem] theorem tyK_105 : tyK Tryz.prog 105 = some (0, 1) := by kernel_rfl
@[go_sem] theorem tyZ_105 : tyZ Tryz.prog 105 = some (0, [.nilFunc]) := by kernel_rfl
@[go_sem] theorem tyK_106 : tyK Tryz.prog 106 = some (0, 1) := by kernel_rfl
@[go_sem] theorem tyZ_106 : tyZ Tryz.prog 106 = some (0, [.nilFunc]) := by kernel_rfl
@[go_sem] theorem tyK_107 : tyK Tryz.prog 107 = some (0, 1) := by kernel_rfl
@[go_sem] theorem tySl_107 : tySl Tryz.prog 107 = some (119, 5, 56) := by kernel_rfl
@[go_sem] theorem tyZ_107 : tyZ Tryz.prog 107 = some (0, [.slice none 0 0]) := by kernel_rfl
@[go_sem] theorem tyK_108 : tyK Tryz.prog 108 = some (0, 1) := by kernel_rfl
@[go_sem] theorem tyZ_108 : tyZ Tryz.prog 108 = some (0, [.nilFunc]) := by kernel_rfl
@[go_sem] theorem tyK_110 : tyK Tryz.prog 110 = some (0, 1) := by kernel_rfl
@[go_sem] theorem tyZ_110 : tyZ Tryz.prog 110 = some (0, [.nilFunc]) := by kernel_rfl
@[go_sem] theorem tyK_111 : tyK Tryz.prog 111 = some (0, 1) := by kernel_rfl
@[go_sem] theorem tyZ_111 : tyZ Tryz.prog 111 = some (0, [.nilFunc]) := by kernel_rfl
@[go_sem] theorem tyK_112 : tyK Tryz.prog 112 = some (0, 1) := by kernel_rfl
@[go_sem] theorem tyZ_112 : tyZ Tryz.prog 112 = some (0, [.nilFunc]) := by kernel_rfl
@[go_sem] theorem tyK_113 : tyK Tryz.prog 113 = some (1, 12) := by kernel_rfl
@[go_sem] theorem tyK_114 : tyK Tryz.prog 114 = some (1, 12) := by kernel_rfl
@[go_sem] theorem tyF_114_0 : tyF Tryz.prog 114 0 = some (0, 0, 1) := by kernel_rfl
@[go_sem] theorem tyF_114_1 : tyF Tryz.prog 114 1 = some (1, 0, 1) := by kernel_rfl
@[go_sem] theorem tyF_114_2 : tyF Tryz.prog 114 2 = some (2, 0, 1) := by kernel_rfl
@[go_sem] theorem tyF_114_3 : tyF Tryz.prog 114 3 = some (3, 0, 1) := by kernel_rfl
@[go_sem] theorem tyF_114_4 : tyF Tryz.prog 114 4 = some (4, 0, 1) := by kernel_rfl
@[go_sem] theorem tyF_114_5 : tyF Tryz.prog 114 5 = some (5, 0, 1) := by kernel_rfl
@[go_sem] theorem tyF_114_6 : tyF Tryz.prog 114 6 = some (6, 0, 1) := by kernel_rfl
@[go_sem] theorem tyF_114_7 : tyF Tryz.prog 114 7 = some (7, 0, 1) := by kernel_rfl
@[go_sem] theorem tyF_114_8 : tyF Tryz.prog 114 8 = some (8, 1, 4) := by kernel_rfl
@[go_sem] theorem tyB_114 : tyBld Tryz.prog 114 = some ([.int .i64 0, .int .i64 0, .int .i64 0, .int .i64 0, .int .i64 0, .slice none 0 0, .slice none 0 0, .slice none 0 0, .int .i64 0, .int .i64 0, .int .i64 0, .slice none 0 0], [(0, 1), (1, 1), (2, 1), (3, 1), (4, 1), (5, 1), (6, 1), (7, 1), (8, 4)]) := by kernel_rfl
@[go_sem] theorem tyZ_114 : tyZ Tryz.prog 114 = some (1, [.int .i64 0, .int .i64 0, .int .i64 0, .int .i64 0, .int .i64 0, .slice none 0 0, .slice none 0 0, .slice none 0 0, .int .i64 0, .int .i64 0, .int .i64 0, .slice none 0 0]) := by kernel_rfl
@[go_sem] theorem tyK_115 : tyK Tryz.prog 115 = some (0, 1) := by kernel_rfl
@[go_sem] theorem tyZ_115 : tyZ Tryz.prog 115 = some (0, [.nilFunc]) := by kernel_rfl
@[go_sem] theorem tyK_116 : tyK Tryz.prog 116 = some (0, 1) := by kernel_rfl
@[go_sem] theorem tyZ_116 : tyZ Tryz.prog 116 = some (0, [.nilFunc]) := by kernel_rfl
@[go_sem] theorem tyK_117 : tyK Tryz.prog 117 = some (0, 1) := by kernel_rfl
@[go_sem] theorem tyZ_117 : tyZ Tryz.prog 117 = some (0, [.nilFunc]) := by kernel_rfl
@[go_sem] theorem tyK_118 : tyK Tryz.prog 118 = some (1, 5) := by kernel_rfl
@[go_sem] theorem tyK_119 : tyK Tryz.prog 119 = some (1, 5) := by kernel_rfl
@[go_sem] theorem tyF_119_0 : tyF Tryz.prog 119 0 = some (0, 0, 1) := by kernel_rfl
@[go_sem] theorem tyF_119_1 : tyF Tryz.prog 119 1 = some (1, 0, 1) := by kernel_rfl
@[go_sem] theorem tyF_119_2 : tyF Tryz.prog 119 2 = some (2, 0, 1) := by kernel_rfl
@[go_sem] theorem tyF_119_3 : tyF Tryz.prog 119 3 = some (3, 0, 1) := by kernel_rfl
@[go_sem] theorem tyF_119_4 : tyF Tryz.prog 119 4 = some (4, 0, 1) := by kernel_rfl
@[go_sem] theorem tyB_119 : tyBld Tryz.prog 119 = some ([.int .i64 0, .int .i64 0, .slice none 0 0, .int .i64 0, .int .i64 0], [(0, 1), (1, 1), (2, 1), (3, 1), (4, 1)]) := by kernel_rfl
@[go_sem] theorem tyZ_119 : tyZ Tryz.prog 119 = some (1, [.int .i64 0, .int .i64 0, .slice none 0 0, .int .i64 0, .int .i64 0]) := by kernel_rfl
@[go_sem] theorem tyK_120 : tyK Tryz.prog 120 = some (0, 1) := by kernel_rfl
@[go_sem] theorem tyZ_120 : tyZ Tryz.prog 120 = some (0, [.nilFunc]) := by kernel_rfl
@[go_sem] theorem tyK_121 : tyK Tryz.prog 121 = some (0, 1) := by kernel_rfl
@[go_sem] theorem tyZ_121 : tyZ Tryz.prog 121 = some (0, [.nilFunc]) := by kernel_rfl
@[go_sem] theorem tyK_122 : tyK Tryz.prog 122 = some (1, 7) := by kernel_rfl
@[go_sem] theorem tyK_123 : tyK Tryz.prog 123 = some (1, 7) := by kernel_rfl
@[go_sem] theorem tyF_123_0 : tyF Tryz.prog 123 0 = some (0, 0, 1) := by kernel_rfl
@[go_sem] theorem tyF_123_1 : tyF Tryz.prog 123 1 = some (1, 0, 1) := by kernel_rfl
@[go_sem] theorem tyF_123_2 : tyF Tryz.prog 123 2 = some (2, 0, 1) := by kernel_rfl
@[go_sem] theorem tyF_123_3 : tyF Tryz.prog 123 3 = some (3, 0, 1) := by kernel_rfl
@[go_sem] theorem tyF_123_4 : tyF Tryz.prog 123 4 = some (4, 0, 1) := by kernel_rfl
@[go_sem] theorem tyF_123_5 : tyF Tryz.prog 123 5 = some (5, 0, 1) := by kernel_rfl
@[go_sem] theorem tyF_123_6 : tyF Tryz.prog 123 6 = some (6, 0, 1) := by kernel_rfl
@[go_sem] theorem tyB_123 : tyBld Tryz.prog 123 = some ([.int .i64 0, .slice none 0 0, .int .i64 0, .int .i64 0, .bool false, .bool false, .bool false], [(0, 1), (1, 1), (2, 1), (3, 1), (4, 1), (5, 1), (6, 1)]) := by kernel_rfl
@[go_sem] theorem tyZ_123 : tyZ Tryz.prog 123 = some (1, [.int .i64 0, .slice none 0 0, .int .i64 0, .int .i64 0, .bool false, .bool false, .bool false]) := by kernel_rfl
@[go_sem] theorem tyK_125 : tyK Tryz.prog 125 = some (0, 1) := by kernel_rfl
@[go_sem] theorem tyZ_125 : tyZ Tryz.prog 125 = some (0, [.nilFunc]) := by kernel_rfl
@[go_sem] theorem tyK_126 : tyK Tryz.prog 126 = some (0, 1) := by kernel_rfl
@[go_sem] theorem tyZ_126 : tyZ Tryz.prog 126 = some (0, [.nilFunc]) := by kernel_rfl
@[go_sem] theorem tyK_127 : tyK Tryz.prog 127 = some (0, 1) := by kernel_rfl
@[go_sem] theorem tyZ_127 : tyZ Tryz.prog 127 = some (0, [.nilFunc]) := by kernel_rfl
@[go_sem] theorem tyK_128 : tyK Tryz.prog 128 = some (0, 1) := by kernel_rfl
@[go_sem] theorem tyZ_128 : tyZ Tryz.prog 128 = some (0, [.nilFunc]) := by kernel_rfl
@[go_sem] theorem tyK_129 : tyK Tryz.prog 129 = some (0, 1) := by kernel_rfl
@[go_sem] theorem tyZ_129 : tyZ Tryz.prog 129 = some (0, [.nilFunc]) := by kernel_rfl
@[go_sem] theorem tyK_130 : tyK Tryz.prog 130 = some (0, 1) := by kernel_rfl
@[go_sem] theorem tyZ_130 : tyZ Tryz.prog 130 = some (0, [.nilFunc]) := by kernel_rfl
@[go_sem] theorem tyK_131 : tyK Tryz.prog 131 = some (0, 1) := by kernel_rfl
@[go_sem] theorem tyZ_131 : tyZ Tryz.prog 131 = some (0, [.nilFunc]) := by kernel_rfl
@[go_sem] theorem tyK_132 : tyK Tryz.prog 132 = some (0, 1) := by kernel_rfl
@[go_sem] theorem tyZ_132 : tyZ Tryz.prog 132 = some (0, [.nilFunc]) := by kernel_rfl
@[go_sem] theorem tyK_133 : tyK Tryz.prog 133 = some (0, 1) := by kernel_rfl
@[go_sem] theorem tyZ_133 : tyZ Tryz.prog 133 = some (0, [.nilFunc]) := by kernel_rfl
@[go_sem] theorem tyK_134 : tyK Tryz.prog 134 = some (0, 1) := by kernel_rfl
@[go_sem] theorem tyZ_134 : tyZ Tryz.prog 134 = some (0, [.nilFunc]) := by kernel_rfl
@[go_sem] theorem tyK_135 : tyK Tryz.prog 135 = some (0, 1) := by kernel_rfl
@[go_sem] theorem tyZ_135 : tyZ Tryz.prog 135 = some (0, [.nilFunc]) := by kernel_rfl
@[go_sem] theorem tyK_137 : tyK Tryz.prog 137 = some (0, 1) := by kernel_rfl
@[go_sem] theorem tyZ_137 : tyZ Tryz.prog 137 = some (0, [.nilFunc]) := by kernel_rfl
@[go_sem] theorem tyK_138 : tyK Tryz.prog 138 = some (0, 1) := by kernel_rfl
@[go_sem] theorem tyZ_138 : tyZ Tryz.prog 138 = some (0, [.nilFunc]) := by kernel_rfl
@[go_sem] theorem tyK_139 : tyK Tryz.prog 139 = some (0, 1) := by kernel_rfl
@[go_sem] theorem tyZ_139 : tyZ Tryz.prog 139 = some (0, [.nilFunc]) := by kernel_rfl
@[go_sem] theorem tyK_140 : tyK Tryz.prog 140 = some (0, 1) := by kernel_rfl
@[go_sem] theorem tyZ_140 : tyZ Tryz.prog 140 = some (0, [.nilFunc]) := by kernel_rfl
@[go_sem] theorem tyK_141 : tyK Tryz.prog 141 = some (0, 1) := by kernel_rfl
@[go_sem] theorem tyZ_141 : tyZ Tryz.prog 141 = some (0, [.nilFunc]) := by kernel_rfl
@[go_sem] theorem tyK_143 : tyK Tryz.prog 143 = some (0, 1) := by kernel_rfl
@[go_sem] theorem tyZ_143 : tyZ Tryz.prog 143 = some (0, [.nilFunc]) := by kernel_rfl
@[go_sem] theorem tyK_144 : tyK Tryz.prog 144 = some (0, 1) := by kernel_rfl
@[go_sem] theorem tyZ_144 : tyZ Tryz.prog 144 = some (0, [.nilFunc]) := by kernel_rfl
@[go_sem] theorem tyK_145 : tyK Tryz.prog 145 = some (0, 1) := by kernel_rfl
@[go_sem] theorem tyZ_145 : tyZ Tryz.prog 145 = some (0, [.nilFunc]) := by kernel_rfl
@[go_sem] theorem tyK_146 : tyK Tryz.prog 146 = some (0, 1) := by kernel_rfl
@[go_sem] theorem tyZ_146 : tyZ Tryz.prog 146 = some (0, [.nilFunc]) := by kernel_rfl
@[go_sem] theorem tyK_147 : tyK Tryz.prog 147 = some (0, 1) := by kernel_rfl
@[go_sem] theorem tyZ_147 : tyZ Tryz.prog 147 = some (0, [.nilFunc]) := by kernel_rfl
@[go_sem] theorem tyK_148 : tyK Tryz.prog 148 = some (0, 1) := by kernel_rfl
@[go_sem] theorem tyZ_148 : tyZ Tryz.prog 148 = some (0, [.nilFunc]) := by kernel_rfl
@[go_sem] theorem tyK_149 : tyK Tryz.prog 149 = some (0, 1) := by kernel_rfl
@[go_sem] theorem tyZ_149 : tyZ Tryz.prog 149 = some (0, [.nilFunc]) := by kernel_rfl
@[go_sem] theorem tyK_150 : tyK Tryz.prog 150 = some (0, 1) := by kernel_rfl
@[go_sem] theorem tyZ_150 : tyZ Tryz.prog 150 = some (0, [.nilFunc]) := by kernel_rfl
@[go_sem] theorem tyK_151 : tyK Tryz.prog 151 = some (0, 1) := by kernel_rfl
@[go_sem] theorem tyZ_151 : tyZ Tryz.prog 151 = some (0, [.nilFunc]) := by kernel_rfl
@[go_sem] theorem tyK_152 : tyK Tryz.prog 152 = some (0, 1) := by kernel_rfl
@[go_sem] theorem tyZ_152 : tyZ Tryz.prog 152 = some (0, [.nilFunc]) := by kernel_rfl
@[go_sem] theorem tyK_153 : tyK Tryz.prog 153 = some (0, 1) := by kernel_rfl
@[go_sem] theorem tyZ_153 : tyZ Tryz.prog 153 = some (0, [.nilFunc]) := by kernel_rfl
@[go_sem] theorem tyK_154 : tyK Tryz.prog 154 = some (0, 1) := by kernel_rfl
@[go_sem] theorem tyZ_154 : tyZ Tryz.prog 154 = some (0, [.nilFunc]) := by kernel_rfl
@[go_sem] theorem tyK_155 : tyK Tryz.prog 155 = some (0, 1) := by kernel_rfl
@[go_sem] theorem tyZ_155 : tyZ Tryz.prog 155 = some (0, [.nilFunc]) := by kernel_rfl
@[go_sem] theorem tyK_156 : tyK Tryz.prog 156 = some (0, 1) := by kernel_rfl
@[go_sem] theorem tyZ_156 : tyZ Tryz.prog 156 = some (0, [.nilFunc]) := by kernel_rfl
@[go_sem] theorem tyK_157 : tyK Tryz.prog 157 = some (0, 1) := by kernel_rfl
@[go_sem] theorem tyZ_157 : tyZ Tryz.prog 157 = some (0, [.nilFunc]) := by kernel_rfl
@[go_sem] theorem tyK_158 : tyK Tryz.prog 158 = some (0, 1) := by kernel_rfl
@[go_sem] theorem tyZ_158 : tyZ Tryz.prog 158 = some (0, [.nilFunc]) := by kernel_rfl
@[go_sem] theorem tyK_159 : tyK Tryz.prog 159 = some (0, 1) := by kernel_rfl
@[go_sem] theorem tyZ_159 : tyZ Tryz.prog 159 = some (0, [.nilFunc]) := by kernel_rfl
@[go_sem] theorem tyK_160 : tyK Tryz.prog 160 = some (1, 3) := by kernel_rfl
@[go_sem] theorem tyK_161 : tyK Tryz.prog 161 = some (1, 3) := by kernel_rfl
@[go_sem] theorem tyF_161_0 : tyF Tryz.prog 161 0 = some (0, 1, 2) := by kernel_rfl
@[go_sem] theorem tyF_161_1 : tyF Tryz.prog 161 1 = some (2, 0, 1) := by kernel_rfl
@[go_sem] theorem tyB_161 : tyBld Tryz.prog 161 = some ([.int .i64 0, .int .i64 0, .slice none 0 0], [(0, 2), (2, 1)]) := by kernel_rfl
@[go_sem] theorem tyZ_161 : tyZ Tryz.prog 161 = some (1, [.int .i64 0, .int .i64 0, .slice none 0 0]) := by kernel_rfl
@[go_sem] theorem tyK_162 : tyK Tryz.prog 162 = some (0, 1) := by kernel_rfl
@[go_sem] theorem tyZ_162 : tyZ Tryz.prog 162 = some (0, [.nilFunc]) := by kernel_rfl
@[go_sem] theorem tyK_163 : tyK Tryz.prog 163 = some (0, 1) := by kernel_rfl
@[go_sem] theorem tyZ_163 : tyZ Tryz.prog 163 = some (0, [.nilFunc]) := by kernel_rfl
@[go_sem] theorem tyK_164 : tyK Tryz.prog 164 = some (0, 1) := by kernel_rfl
@[go_sem] theorem tyZ_164 : tyZ Tryz.prog 164 = some (0, [.nilFunc]) := by kernel_rfl
@[go_sem] theorem tyK_165 : tyK Tryz.prog 165 = some (0, 1) := by kernel_rfl
@[go_sem] theorem tyZ_165 : tyZ Tryz.prog 165 = some (0, [.nilFunc]) := by kernel_rfl
@[go_sem] theorem tyK_166 : tyK Tryz.prog 166 = some (0, 1) := by kernel_rfl
@[go_sem] theorem tyZ_166 : tyZ Tryz.prog 166 = some (0, [.nilFunc]) := by kernel_rfl
@[go_sem] theorem tyK_168 : tyK Tryz.prog 168 = some (0, 1) := by kernel_rfl
@[go_sem] theorem tyZ_168 : tyZ Tryz.prog 168 = some (0, [.nilFunc]) := by kernel_rfl
@[go_sem] theorem tyK_170 : tyK Tryz.prog 170 = some (0, 1) := by kernel_rfl
@[go_sem] theorem tyZ_170 : tyZ Tryz.prog 170 = some (0, [.nilFunc]) := by kernel_rfl
@[go_sem] theorem tyK_172 : tyK Tryz.prog 172 = some (0, 1) := by kernel_rfl
@[go_sem] theorem tyZ_172 : tyZ Tryz.prog 172 = some (0, [.nilFunc]) := by kernel_rfl
@[go_sem] theorem tyK_174 : tyK Tryz.prog 174 = some (0, 1) := by kernel_rfl
@[go_sem] theorem tyZ_174 : tyZ Tryz.prog 174 = some (0, [.nilFunc]) := by kernel_rfl
@[go_sem] theorem tyK_175 : tyK Tryz.prog 175 = some (0, 1) := by kernel_rfl
@[go_sem] theorem tyZ_175 : tyZ Tryz.prog 175 = some (0, [.nilFunc]) := by kernel_rfl
@[go_sem] theorem tyK_176 : tyK Tryz.prog 176 = some (0, 1) := by kernel_rfl
@[go_sem] theorem tyZ_176 : tyZ Tryz.prog 176 = some (0, [.nilFunc]) := by kernel_rfl
@[go_sem] theorem tyK_177 : tyK Tryz.prog 177 = some (0, 1) := by kernel_rfl
@[go_sem] theorem tyZ_177 : tyZ Tryz.prog 177 = some (0, [.nilFunc]) := by kernel_rfl
@[go_sem] theorem tyK_179 : tyK Tryz.prog 179 = some (0, 1) := by kernel_rfl
@[go_sem] theorem tyZ_179 : tyZ Tryz.prog 179 = some (0, [.nilFunc]) := by kernel_rfl
@[go_sem] theorem tyK_180 : tyK Tryz.prog 180 = some (0, 1) := by kernel_rfl
@[go_sem] theorem tyZ_180 : tyZ Tryz.prog 180 = some (0, [.nilFunc]) := by kernel_rfl
@[go_sem] theorem tyK_182 : tyK Tryz.prog 182 = some (0, 1) := by kernel_rfl
@[go_sem] theorem tyZ_182 : tyZ Tryz.prog 182 = some (0, [.nilFunc]) := by kernel_rfl
@[go_sem] theorem tyK_183 : tyK Tryz.prog 183 = some (2, 256) := by kernel_rfl
@[go_sem] theorem tySl_183 : tySl Tryz.prog 183 = none := by kernel_rfl
@[go_sem] theorem tyAr_183 : tyAr Tryz.prog 183 = some (256, 0, 1) := by kernel_rfl
@[go_sem] theorem tyZ_183 : tyZ Tryz.prog 183 = some (2, rep 256 (.bool false)) := by kernel_rfl
@[go_sem] theorem tyK_184 : tyK Tryz.prog 184 = some (0, 1) := by kernel_rfl
@[go_sem] theorem tyZ_184 : tyZ Tryz.prog 184 = some (0, [.nilFunc]) := by kernel_rfl
@[go_sem] theorem tyK_185 : tyK Tryz.prog 185 = some (0, 1) := by kernel_rfl
@[go_sem] theorem tyZ_185 : tyZ Tryz.prog 185 = some (0, [.nilFunc]) := by kernel_rfl
@[go_sem] theorem tyK_186 : tyK Tryz.prog 186 = some (0, 1) := by kernel_rfl
@[go_sem] theorem tyZ_186 : tyZ Tryz.prog 186 = some (0, [.nilFunc]) := by kernel_rfl
@[go_sem] theorem tyK_187 : tyK Tryz.prog 187 = some (0, 1) := by kernel_rfl
@[go_sem] theorem tyZ_187 : tyZ Tryz.prog 187 = some (0, [.nilFunc]) := by kernel_rfl
@[go_sem] theorem tyK_188 : tyK Tryz.prog 188 = some (0, 1) := by kernel_rfl
@[go_sem] theorem tyMp_188 : tyMp Tryz.prog 188 = some (.i64, .bool false) := by kernel_rfl
@[go_sem] theorem tyK_189 : tyK Tryz.prog 189 = some (0, 1) := by kernel_rfl
@[go_sem] theorem tyZ_189 : tyZ Tryz.prog 189 = some (0, [.nilFunc]) := by kernel_rfl
@[go_sem] theorem tyK_190 : tyK Tryz.prog 190 = some (0, 1) := by kernel_rfl
@[go_sem] theorem tyZ_190 : tyZ Tryz.prog 190 = some (0, [.nilFunc]) := by kernel_rfl
@[go_sem] theorem tyK_191 : tyK Tryz.prog 191 = some (0, 1) := by kernel_rfl
@[go_sem] theorem tyZ_191 : tyZ Tryz.prog 191 = some (0, [.nilFunc]) := by kernel_rfl
@[go_sem] theorem tyK_192 : tyK Tryz.prog 192 = some (0, 1) := by kernel_rfl
@[go_sem] theorem tySl_192 : tySl Tryz.prog 192 = some (24, 1, 24) := by kernel_rfl
@[go_sem] theorem tyZ_192 : tyZ Tryz.prog 192 = some (0, [.slice none 0 0]) := by kernel_rfl
@[go_sem] theorem tyK_193 : tyK Tryz.prog 193 = some (0, 1) := by kernel_rfl
@[go_sem] theorem tyZ_193 : tyZ Tryz.prog 193 = some (0, [.pointer none]) := by kernel_rfl
@[go_sem] theorem tyK_194 : tyK Tryz.prog 194 = some (0, 1) := by kernel_rfl
@[go_sem] theorem tyZ_194 : tyZ Tryz.prog 194 = some (0, [.nilFunc]) := by kernel_rfl
@[go_sem] theorem tyK_195 : tyK Tryz.prog 195 = some (0, 1) := by kernel_rfl
@[go_sem] theorem tyZ_195 : tyZ Tryz.prog 195 = some (0, [.nilFunc]) := by kernel_rfl
@[go_sem] theorem tyK_196 : tyK Tryz.prog 196 = some (0, 1) := by kernel_rfl
@[go_sem] theorem tyZ_196 : tyZ Tryz.prog 196 = some (0, [.nilFunc]) := by kernel_rfl
@[go_sem] theorem tyK_197 : tyK Tryz.prog 197 = some (0, 1) := by kernel_rfl
@[go_sem] theorem tyZ_197 : tyZ Tryz.prog 197 = some (0, [.nilFunc]) := by kernel_rfl
@[go_sem] theorem tyK_198 : tyK Tryz.prog 198 = some (0, 1) := by kernel_rfl
@[go_sem] theorem tyZ_198 : tyZ Tryz.prog 198 = some (0, [.nilFunc]) := by kernel_rfl
@[go_sem] theorem tyK_199 : tyK Tryz.prog 199 = some (0, 1) := by kernel_rfl
@[go_sem] theorem tyZ_199 : tyZ Tryz.prog 199 = some (0, [.nilFunc]) := by kernel_rfl
@[go_sem] theorem tyK_200 : tyK Tryz.prog 200 = some (0, 1) := by kernel_rfl
@[go_sem] theorem tyZ_200 : tyZ Tryz.prog 200 = some (0, [.nilFunc]) := by kernel_rfl
@[go_sem] theorem tyK_201 : tyK Tryz.prog 201 = some (0, 1) := by kernel_rfl
@[go_sem] theorem tyZ_201 : tyZ Tryz.prog 201 = some (0, [.nilFunc]) := by kernel_rfl
@[go_sem] theorem tyK_202 : tyK Tryz.prog 202 = some (0, 1) := by kernel_rfl
@[go_sem] theorem tyZ_202 : tyZ Tryz.prog 202 = some (0, [.nilFunc]) := by kernel_rfl
@[go_sem] theorem tyK_203 : tyK Tryz.prog 203 = some (0, 1) := by kernel_rfl
@[go_sem] theorem tyZ_203 : tyZ Tryz.prog 203 = some (0, [.nilFunc]) := by kernel_rfl
@[go_sem] theorem tyK_205 : tyK Tryz.prog 205 = some (0, 1) := by kernel_rfl
@[go_sem] theorem tyZ_205 : tyZ Tryz.prog 205 = some (0, [.nilFunc]) := by kernel_rfl
@[go_sem] theorem tyK_206 : tyK Tryz.prog 206 = some (0, 1) := by kernel_rfl
@[go_sem] theorem tyZ_206 : tyZ Tryz.prog 206 = some (0, [.nilFunc]) := by kernel_rfl
@[go_sem] theorem tyK_207 : tyK Tryz.prog 207 = some (0, 1) := by kernel_rfl
@[go_sem] theorem tyZ_207 : tyZ Tryz.prog 207 = some (0, [.nilFunc]) := by kernel_rfl
@[go_sem] theorem tyK_208 : tyK Tryz.prog 208 = some (0, 1) := by kernel_rfl
@[go_sem] theorem tyZ_208 : tyZ Tryz.prog 208 = some (0, [.nilFunc]) := by kernel_rfl
@[go_sem] theorem tyK_209 : tyK Tryz.prog 209 = some (0, 1) := by kernel_rfl
@[go_sem] theorem tyZ_209 : tyZ Tryz.prog 209 = some (0, [.nilFunc]) := by kernel_rfl
@[go_sem] theorem tyK_210 : tyK Tryz.prog 210 = some (0, 1) := by kernel_rfl
@[go_sem] theorem tyZ_210 : tyZ Tryz.prog 210 = some (0, [.nilFunc]) := by kernel_rfl
@[go_sem] theorem tyK_211 : tyK Tryz.prog 211 = some (0, 1) := by kernel_rfl
@[go_sem] theorem tyZ_211 : tyZ Tryz.prog 211 = some (0, [.nilFunc]) := by kernel_rfl
@[go_sem] theorem tyK_212 : tyK Tryz.prog 212 = some (0, 1) := by kernel_rfl
@[go_sem] theorem tyZ_212 : tyZ Tryz.prog 212 = some (0, [.nilFunc]) := by kernel_rfl
@[go_sem] theorem tyK_213 : tyK Tryz.prog 213 = some (0, 1) := by kernel_rfl
@[go_sem] theorem tyZ_213 : tyZ Tryz.prog 213 = some (0, [.nilFunc]) := by kernel_rfl
@[go_sem] theorem tyK_215 : tyK Tryz.prog 215 = some (0, 1) := by kernel_rfl
@[go_sem] theorem tyZ_215 : tyZ Tryz.prog 215 = some (0, [.nilFunc]) := by kernel_rfl
@[go_sem] theorem tyK_216 : tyK Tryz.prog 216 = some (0, 1) := by kernel_rfl
@[go_sem] theorem tyZ_216 : tyZ Tryz.prog 216 = some (0, [.nilFunc]) := by kernel_rfl
@[go_sem] theorem tyK_217 : tyK Tryz.prog 217 = some (0, 1) := by kernel_rfl
@[go_sem] theorem tyZ_217 : tyZ Tryz.prog 217 = some (0, [.nilFunc]) := by kernel_rfl
@[go_sem] theorem tyK_218 : tyK Tryz.prog 218 = some (2, 1024) := by kernel_rfl
@[go_sem] theorem tySl_218 : tySl Tryz.prog 218 = none := by kernel_rfl
@[go_sem] theorem tyAr_218 : tyAr Tryz.prog 218 = some (256, 1, 4) := by kernel_rfl
@[go_sem] theorem tyK_219 : tyK Tryz.prog 219 = some (0, 1) := by kernel_rfl
@[go_sem] theorem tyZ_219 : tyZ Tryz.prog 219 = some (0, [.nilFunc]) := by kernel_rfl
@[go_sem] theorem tyK_220 : tyK Tryz.prog 220 = some (0, 1) := by kernel_rfl
@[go_sem] theorem tyZ_220 : tyZ Tryz.prog 220 = some (0, [.nilFunc]) := by kernel_rfl
@[go_sem] theorem tyK_221 : tyK Tryz.prog 221 = some (2, 4) := by kernel_rfl
@[go_sem] theorem tySl_221 : tySl Tryz.prog 221 = none := by kernel_rfl
@[go_sem] theorem tyAr_221 : tyAr Tryz.prog 221 = some (2, 2, 2) := by kernel_rfl
@[go_sem] theorem tyB_221 : tyBld Tryz.prog 221 = some ([.int .i64 0, .int .i64 0, .int .i64 0, .int .i64 0], [(0, 2), (2, 2)]) := by kernel_rfl
@[go_sem] theorem tyZ_221 : tyZ Tryz.prog 221 = some (2, [.int .i64 0, .int .i64 0, .int .i64 0, .int .i64 0]) := by kernel_rfl
@[go_sem] theorem tyK_222 : tyK Tryz.prog 222 = some (0, 1) := by kernel_rfl
@[go_sem] theorem tyZ_222 : tyZ Tryz.prog 222 = some (0, [.nilFunc]) := by kernel_rfl
@[go_sem] theorem tyK_223 : tyK Tryz.prog 223 = some (0, 1) := by kernel_rfl
@[go_sem] theorem tyZ_223 : tyZ Tryz.prog 223 = some (0, [.nilFunc]) := by kernel_rfl
@[go_sem] theorem tyK_224 : tyK Tryz.prog 224 = some (0, 1) := by kernel_rfl
@[go_sem] theorem tyZ_224 : tyZ Tryz.prog 224 = some (0, [.nilFunc]) := by kernel_rfl
@[go_sem] theorem tyK_225 : tyK Tryz.prog 225 = some (2, 64) := by kernel_rfl
@[go_sem] theorem tySl_225 : tySl Tryz.prog 225 = none := by kernel_rfl
@[go_sem] theorem tyAr_225 : tyAr Tryz.prog 225 = some (64, 0, 1) := by kernel_rfl
@[go_sem] theorem tyZ_225 : tyZ Tryz.prog 225 = some (2, rep 64 (.int .i64 0)) := by kernel_rfl
@[go_sem] theorem tyK_226 : tyK Tryz.prog 226 = some (0, 1) := by kernel_rfl
@[go_sem] theorem tyZ_226 : tyZ Tryz.prog 226 = some (0, [.nilFunc]) := by kernel_rfl
@[go_sem] theorem tyK_227 : tyK Tryz.prog 227 = some (0, 1) := by kernel_rfl
@[go_sem] theorem tyZ_227 : tyZ Tryz.prog 227 = some (0, [.nilFunc]) := by kernel_rfl
@[go_sem] theorem tyK_228 : tyK Tryz.prog 228 = some (0, 1) := by kernel_rfl
@[go_sem] theorem tyZ_228 : tyZ Tryz.prog 228 = some (0, [.nilFunc]) := by kernel_rfl
@[go_sem] theorem tyK_229 : tyK Tryz.prog 229 = some (0, 1) := by kernel_rfl
@[go_sem] theorem tyZ_229 : tyZ Tryz.prog 229 = some (0, [.nilFunc]) := by kernel_rfl
@[go_sem] theorem tyK_230 : tyK Tryz.prog 230 = some (0, 1) := by kernel_rfl
@[go_sem] theorem tyZ_230 : tyZ Tryz.prog 230 = some (0, [.nilFunc]) := by kernel_rfl
@[go_sem] theorem tyK_231 : tyK Tryz.prog 231 = some (0, 1) := by kernel_rfl
@[go_sem] theorem tyZ_231 : tyZ Tryz.prog 231 = some (0, [.nilFunc]) := by kernel_rfl
@[go_sem] theorem tyK_232 : tyK Tryz.prog 232 = some (0, 1) := by kernel_rfl
@[go_sem] theorem tySl_232 : tySl Tryz.prog 232 = some (47, 1, 24) := by kernel_rfl
@[go_sem] theorem tyZ_232 : tyZ Tryz.prog 232 = some (0, [.slice none 0 0]) := by kernel_rfl
@[go_sem] theorem tyK_233 : tyK Tryz.prog 233 = some (0, 1) := by kernel_rfl
@[go_sem] theorem tyInt_233 : tyInt Tryz.prog 233 = some .u64 := by kernel_rfl
@[go_sem] theorem tyZ_233 : tyZ Tryz.prog 233 = some (0, [.int .u64 0]) := by kernel_rfl
@[go_sem] theorem tyK_234 : tyK Tryz.prog 234 = some (1, 65) := by kernel_rfl
@[go_sem] theorem tyK_235 : tyK Tryz.prog 235 = some (1, 65) := by kernel_rfl
@[go_sem] theorem tyF_235_0 : tyF Tryz.prog 235 0 = some (0, 2, 64) := by kernel_rfl
@[go_sem] theorem tyF_235_1 : tyF Tryz.prog 235 1 = some (64, 0, 1) := by kernel_rfl
@[go_sem] theorem tyZ_235 : tyZ Tryz.prog 235 = some (1, rep 64 (.int .i64 0) ++ [.int .u64 0]) := by kernel_rfl
@[go_sem] theorem tyK_236 : tyK Tryz.prog 236 = some (0, 1) := by kernel_rfl
@[go_sem] theorem tyZ_236 : tyZ Tryz.prog 236 = some (0, [.nilFunc]) := by kernel_rfl
@[go_sem] theorem tyK_237 : tyK Tryz.prog 237 = some (0, 1) := by kernel_rfl
@[go_sem] theorem tyZ_237 : tyZ Tryz.prog 237 = some (0, [.nilFunc]) := by kernel_rfl
@[go_sem] theorem tyK_238 : tyK Tryz.prog 238 = some (0, 1) := by kernel_rfl
@[go_sem] theorem tyZ_238 : tyZ Tryz.prog 238 = some (0, [.nilFunc]) := by kernel_rfl
@[go_sem] theorem tyK_239 : tyK Tryz.prog 239 = some (0, 1) := by kernel_rfl
@[go_sem] theorem tyZ_239 : tyZ Tryz.prog 239 = some (0, [.nilFunc]) := by kernel_rfl
@[go_sem] theorem tyK_240 : tyK Tryz.prog 240 = some (0, 1) := by kernel_rfl
@[go_sem] theorem tyZ_240 : tyZ Tryz.prog 240 = some (0, [.nilFunc]) := by kernel_rfl
@[go_sem] theorem tyK_241 : tyK Tryz.prog 241 = some (0, 1) := by kernel_rfl
@[go_sem] theorem tyZ_241 : tyZ Tryz.prog 241 = some (0, [.nilFunc]) := by kernel_rfl
@[go_sem] theorem tyK_242 : tyK Tryz.prog 242 = some (0, 1) := by kernel_rfl
@[go_sem] theorem tyZ_242 : tyZ Tryz.prog 242 = some (0, [.nilFunc]) := by kernel_rfl
@[go_sem] theorem tyK_243 : tyK Tryz.prog 243 = some (0, 1) := by kernel_rfl
@[go_sem] theorem tyZ_243 : tyZ Tryz.prog 243 = some (0, [.nilFunc]) := by kernel_rfl
@[go_sem] theorem tyK_244 : tyK Tryz.prog 244 = some (0, 1) := by kernel_rfl
@[go_sem] theorem tyZ_244 : tyZ Tryz.prog 244 = some (0, [.nilFunc]) := by kernel_rfl
@[go_sem] theorem tyK_245 : tyK Tryz.prog 245 = some (0, 1) := by kernel_rfl
@[go_sem] theorem tyZ_245 : tyZ Tryz.prog 245 = some (0, [.nilFunc]) := by kernel_rfl
@[go_sem] theorem tyK_246 : tyK Tryz.prog 246 = some (0, 1) := by kernel_rfl
@[go_sem] theorem tyZ_246 : tyZ Tryz.prog 246 = some (0, [.nilFunc]) := by kernel_rfl
@[go_sem] theorem tyK_247 : tyK Tryz.prog 247 = some (0, 1) := by kernel_rfl
@[go_sem] theorem tyZ_247 : tyZ Tryz.prog 247 = some (0, [.nilFunc]) := by kernel_rfl
@[go_sem] theorem tyK_248 : tyK Tryz.prog 248 = some (0, 1) := by kernel_rfl
@[go_sem] theorem tyZ_248 : tyZ Tryz.prog 248 = some (0, [.nilFunc]) := by kernel_rfl
@[go_sem] theorem tyK_249 : tyK Tryz.prog 249 = some (0, 1) := by kernel_rfl
@[go_sem] theorem tyZ_249 : tyZ Tryz.prog 249 = some (0, [.nilFunc]) := by kernel_rfl
@[go_sem] theorem tyK_250 : tyK Tryz.prog 250 = some (0, 1) := by kernel_rfl
@[go_sem] theorem tyZ_250 : tyZ Tryz.prog 250 = some (0, [.nilFunc]) := by kernel_rfl
@[go_sem] theorem tyK_251 : tyK Tryz.prog 251 = some (0, 1) := by kernel_rfl
@[go_sem] theorem tyZ_251 : tyZ Tryz.prog 251 = some (0, [.nilFunc]) := by kernel_rfl
@[go_sem] theorem tyK_252 : tyK Tryz.prog 252 = some (0, 1) := by kernel_rfl
@[go_sem] theorem tyZ_252 : tyZ Tryz.prog 252 = some (0, [.nilFunc]) := by kernel_rfl
@[go_sem] theorem tyK_253 : tyK Tryz.prog 253 = some (0, 1) := by kernel_rfl
@[go_sem] theorem tyZ_253 : tyZ Tryz.prog 253 = some (0, [.nilFunc]) := by kernel_rfl
@[go_sem] theorem tyK_254 : tyK Tryz.prog 254 = some (0, 1) := by kernel_rfl
@[go_sem] theorem tyZ_254 : tyZ Tryz.prog 254 = some (0, [.nilFunc]) := by kernel_rfl
@[go_sem] theorem tyK_255 : tyK Tryz.prog 255 = some (0, 1) := by kernel_rfl
@[go_sem] theorem tyZ_255 : tyZ Tryz.prog 255 = some (0, [.nilFunc]) := by kernel_rfl
@[go_sem] theorem tyK_256 : tyK Tryz.prog 256 = some (0, 1) := by kernel_rfl
@[go_sem] theorem tyZ_256 : tyZ Tryz.prog 256 = some (0, [.nilFunc]) := by kernel_rfl
@[go_sem] theorem tyK_257 : tyK Tryz.prog 257 = some (0, 1) := by kernel_rfl
@[go_sem] theorem tyZ_257 : tyZ Tryz.prog 257 = some (0, [.nilFunc]) := by kernel_rfl
@[go_sem] theorem tyK_258 : tyK Tryz.prog 258 = some (0, 1) := by kernel_rfl
@[go_sem] theorem tyZ_258 : tyZ Tryz.prog 258 = some (0, [.nilFunc]) := by kernel_rfl
@[go_sem] theorem tyK_259 : tyK Tryz.prog 259 = some (0, 1) := by kernel_rfl
@[go_sem] theorem tyZ_259 : tyZ Tryz.prog 259 = some (0, [.nilFunc]) := by kernel_rfl
@[go_sem] theorem tyK_260 : tyK Tryz.prog 260 = some (0, 1) := by kernel_rfl
@[go_sem] theorem tyZ_260 : tyZ Tryz.prog 260 = some (0, [.nilFunc]) := by kernel_rfl
@[go_sem] theorem tyK_261 : tyK Tryz.prog 261 = some (0, 1) := by kernel_rfl
@[go_sem] theorem tyZ_261 : tyZ Tryz.prog 261 = some (0, [.nilFunc]) := by kernel_rfl
@[go_sem] theorem tyK_262 : tyK Tryz.prog 262 = some (0, 1) := by kernel_rfl
@[go_sem] theorem tyZ_262 : tyZ Tryz.prog 262 = some (0, [.nilFunc]) := by kernel_rfl
@[go_sem] theorem tyK_263 : tyK Tryz.prog 263 = some (0, 1) := by kernel_rfl
@[go_sem] theorem tyZ_263 : tyZ Tryz.prog 263 = some (0, [.nilFunc]) := by kernel_rfl
@[go_sem] theorem tyK_264 : tyK Tryz.prog 264 = some (0, 1) := by kernel_rfl
@[go_sem] theorem tySl_264 : tySl Tryz.prog 264 = some (26, 1, 24) := by kernel_rfl
@[go_sem] theorem tyZ_264 : tyZ Tryz.prog 264 = some (0, [.slice none 0 0]) := by kernel_rfl
@[go_sem] theorem tyK_265 : tyK Tryz.prog 265 = some (0, 1) := by kernel_rfl
@[go_sem] theorem tyZ_265 : tyZ Tryz.prog 265 = some (0, [.nilFunc]) := by kernel_rfl
@[go_sem] theorem tyK_266 : tyK Tryz.prog 266 = some (0, 1) := by kernel_rfl
@[go_sem] theorem tyZ_266 : tyZ Tryz.prog 266 = some (0, [.nilFunc]) := by kernel_rfl
@[go_sem] theorem tyK_267 : tyK Tryz.prog 267 = some (0, 1) := by kernel_rfl
@[go_sem] theorem tyZ_267 : tyZ Tryz.prog 267 = some (0, [.pointer none]) := by kernel_rfl
@[go_sem] theorem tyK_268 : tyK Tryz.prog 268 = some (0, 1) := by kernel_rfl
@[go_sem] theorem tyZ_268 : tyZ Tryz.prog 268 = some (0, [.nilFunc]) := by kernel_rfl
@[go_sem] theorem tyK_269 : tyK Tryz.prog 269 = some (0, 1) := by kernel_rfl
@[go_sem] theorem tyZ_269 : tyZ Tryz.prog 269 = some (0, [.nilFunc]) := by kernel_rfl
@[go_sem] theorem tyK_270 : tyK Tryz.prog 270 = some (0, 1) := by kernel_rfl
@[go_sem] theorem tyZ_270 : tyZ Tryz.prog 270 = some (0, [.nilFunc]) := by kernel_rfl
@[go_sem] theorem tyK_271 : tyK Tryz.prog 271 = some (0, 1) := by kernel_rfl
@[go_sem] theorem tyZ_271 : tyZ Tryz.prog 271 = some (0, [.nilFunc]) := by kernel_rfl
@[go_sem] theorem tyK_272 : tyK Tryz.prog 272 = some (0, 1) := by kernel_rfl
@[go_sem] theorem tyInt_272 : tyInt Tryz.prog 272 = some .i64 := by kernel_rfl
@[go_sem] theorem tyZ_272 : tyZ Tryz.prog 272 = some (0, [.int .i64 0]) := by kernel_rfl
@[go_sem] theorem tyK_274 : tyK Tryz.prog 274 = some (0, 1) := by kernel_rfl
@[go_sem] theorem tyZ_274 : tyZ Tryz.prog 274 = some (0, [.nilFunc]) := by kernel_rfl
@[go_sem] theorem tyK_275 : tyK Tryz.prog 275 = some (0, 1) := by kernel_rfl
@[go_sem] theorem tyZ_275 : tyZ Tryz.prog 275 = some (0, [.nilFunc]) := by kernel_rfl
@[go_sem] theorem tyK_276 : tyK Tryz.prog 276 = some (0, 1) := by kernel_rfl
@[go_sem] theorem tyZ_276 : tyZ Tryz.prog 276 = some (0, [.nilFunc]) := by kernel_rfl
@[go_sem] theorem tyK_277 : tyK Tryz.prog 277 = some (0, 1) := by kernel_rfl
@[go_sem] theorem tyZ_277 : tyZ Tryz.prog 277 = some (0, [.nilFunc]) := by kernel_rfl
@[go_sem] theorem tyK_278 : tyK Tryz.prog 278 = some (0, 1) := by kernel_rfl
@[go_sem] theorem tyZ_278 : tyZ Tryz.prog 278 = some (0, [.nilFunc]) := by kernel_rfl
@[go_sem] theorem tyK_279 : tyK Tryz.prog 279 = some (0, 1) := by kernel_rfl
@[go_sem] theorem tyInt_279 : tyInt Tryz.prog 279 = some .u32 := by kernel_rfl
@[go_sem] theorem tyZ_279 : tyZ Tryz.prog 279 = some (0, [.int .u32 0]) := by kernel_rfl
@[go_sem] theorem tyK_280 : tyK Tryz.prog 280 = some (0, 1) := by kernel_rfl
@[go_sem] theorem tyZ_280 : tyZ Tryz.prog 280 = some (0, [.nilFunc]) := by kernel_rfl
@[go_sem] theorem tyK_281 : tyK Tryz.prog 281 = some (0, 1) := by kernel_rfl
@[go_sem] theorem tyZ_281 : tyZ Tryz.prog 281 = some (0, [.nilFunc]) := by kernel_rfl
@[go_sem] theorem tyK_282 : tyK Tryz.prog 282 = some (0, 1) := by kernel_rfl
@[go_sem] theorem tyZ_282 : tyZ Tryz.prog 282 = some (0, [.nilFunc]) := by kernel_rfl
@[go_sem] theorem tyK_283 : tyK Tryz.prog 283 = some (0, 1) := by kernel_rfl
@[go_sem] theorem tyZ_283 : tyZ Tryz.prog 283 = some (0, [.nilFunc]) := by kernel_rfl
@[go_sem] theorem tyK_284 : tyK Tryz.prog 284 = some (0, 1) := by kernel_rfl
@[go_sem] theorem tyZ_284 : tyZ Tryz.prog 284 = some (0, [.nilFunc]) := by kernel_rfl
@[go_sem] theorem tyK_285 : tyK Tryz.prog 285 = some (0, 1) := by kernel_rfl
@[go_sem] theorem tyZ_285 : tyZ Tryz.prog 285 = some (0, [.nilFunc]) := by kernel_rfl
@[go_sem] theorem tyK_286 : tyK Tryz.prog 286 = some (0, 1) := by kernel_rfl
@[go_sem] theorem tyZ_286 : tyZ Tryz.prog 286 = some (0, [.nilFunc]) := by kernel_rfl
@[go_sem] theorem tyK_287 : tyK Tryz.prog 287 = some (0, 1) := by kernel_rfl
@[go_sem] theorem tyZ_287 : tyZ Tryz.prog 287 = some (0, [.nilFunc]) := by kernel_rfl
@[go_sem] theorem tyK_288 : tyK Tryz.prog 288 = some (2, 64) := by kernel_rfl
@[go_sem] theorem tySl_288 : tySl Tryz.prog 288 = none := by kernel_rfl
@[go_sem] theorem tyAr_288 : tyAr Tryz.prog 288 = some (64, 0, 1) := by kernel_rfl
@[go_sem] theorem tyZ_288 : tyZ Tryz.prog 288 = some (2, rep 64 (.int .u8 0)) := by kernel_rfl
@[go_sem] theorem tyK_289 : tyK Tryz.prog 289 = some (0, 1) := by kernel_rfl
@[go_sem] theorem tyInt_289 : tyInt Tryz.prog 289 = some .u64 := by kernel_rfl
@[go_sem] theorem tyZ_289 : tyZ Tryz.prog 289 = some (0, [.int .u64 0]) := by kernel_rfl
@[go_sem] theorem tyK_290 : tyK Tryz.prog 290 = some (0, 1) := by kernel_rfl
@[go_sem] theorem tyZ_290 : tyZ Tryz.prog 290 = some (0, [.nilFunc]) := by kernel_rfl
@[go_sem] theorem tyK_291 : tyK Tryz.prog 291 = some (0, 1) := by kernel_rfl
@[go_sem] theorem tyZ_291 : tyZ Tryz.prog 291 = some (0, [.nilFunc]) := by kernel_rfl
@[go_sem] theorem tyK_292 : tyK Tryz.prog 292 = some (0, 1) := by kernel_rfl
@[go_sem] theorem tyZ_292 : tyZ Tryz.prog 292 = some (0, [.nilFunc]) := by kernel_rfl
@[go_sem] theorem tyK_293 : tyK Tryz.prog 293 = some (0, 1) := by kernel_rfl
@[go_sem] theorem tyZ_293 : tyZ Tryz.prog 293 = some (0, [.pointer none]) := by kernel_rfl
@[go_sem] theorem tyK_294 : tyK Tryz.prog 294 = some (0, 1) := by kernel_rfl
@[go_sem] theorem tyZ_294 : tyZ Tryz.prog 294 = some (0, [.nilFunc]) := by kernel_rfl
@[go_sem] theorem tyK_295 : tyK Tryz.prog 295 = some (0, 1) := by kernel_rfl
@[go_sem] theorem tyZ_295 : tyZ Tryz.prog 295 = some (0, [.nilFunc]) := by kernel_rfl
@[go_sem] theorem tyK_296 : tyK Tryz.prog 296 = some (0, 1) := by kernel_rfl
@[go_sem] theorem tyZ_296 : tyZ Tryz.prog 296 = some (0, [.nilFunc]) := by kernel_rfl
@[go_sem] theorem tyK_297 : tyK Tryz.prog 297 = some (0, 1) := by kernel_rfl
@[go_sem] theorem tyZ_297 : tyZ Tryz.prog 297 = some (0, [.pointer none]) := by kernel_rfl
@[go_sem] theorem tyK_299 : tyK Tryz.prog 299 = some (0, 1) := by kernel_rfl
@[go_sem] theorem tyZ_299 : tyZ Tryz.prog 299 = some (0, [.nilFunc]) := by kernel_rfl
@[go_sem] theorem tyK_300 : tyK Tryz.prog 300 = some (0, 1) := by kernel_rfl
@[go_sem] theorem tyZ_300 : tyZ Tryz.prog 300 = some (0, [.nilFunc]) := by kernel_rfl
@[go_sem] theorem tyK_301 : tyK Tryz.prog 301 = some (0, 1) := by kernel_rfl
@[go_sem] theorem tyZ_301 : tyZ Tryz.prog 301 = some (0, [.nilFunc]) := by kernel_rfl
@[go_sem] theorem tyK_304 : tyK Tryz.prog 304 = some (2, 0) := by kernel_rfl
@[go_sem] theorem tySl_304 : tySl Tryz.prog 304 = none := by kernel_rfl
@[go_sem] theorem tyZ_304 : tyZ Tryz.prog 304 = some (2, []) := by kernel_rfl
@[go_sem] theorem tyK_307 : tyK Tryz.prog 307 = some (0, 1) := by kernel_rfl
@[go_sem] theorem tyZ_307 : tyZ Tryz.prog 307 = some (0, [.nilFunc]) := by kernel_rfl
@[go_sem] theorem tyK_310 : tyK Tryz.prog 310 = some (0, 1) := by kernel_rfl
@[go_sem] theorem tyZ_310 : tyZ Tryz.prog 310 = some (0, [.nilFunc]) := by kernel_rfl
@[go_sem] theorem tyK_311 : tyK Tryz.prog 311 = some (0, 1) := by kernel_rfl
@[go_sem] theorem tyZ_311 : tyZ Tryz.prog 311 = some (0, [.pointer none]) := by kernel_rfl
end Go.Proofs.YtaiekfeiaamemaaGreatDoor
namespace Go.Proofs.YtaiekfeiaamemaaGreatDoor
open Go.ChangeShapes Go.WideShapes Go.ChangeAt Go.RowKit

def enSt (s : Stamp) : List IV := [.val (.int .i64 s.count), .val (.int .i64 s.node)]
def enSp (s : Span) : List IV := [.val (.int .i64 s.lo), .val (.int .i64 s.hi)]
def enW (y : Write) : List IV := [.val (.int .i64 y.stamp.count), .val (.int .i64 y.stamp.node), .val (.int .i64 y.object), .val (.bool y.gone)]
def stI (l : List Stamp) : IV := .sl 2 (l.map enSt)
def spI (l : List Span) : IV := .sl 2 (l.map enSp)
def wrI (l : List Write) : IV := .sl 4 (l.map enW)
def enN (x : Note) : List IV := [stI x.start, stI x.end_, spI x.blur, wrI x.writes]
def noI (l : List Note) : IV := .sl 4 (l.map enN)
def noteA (x : Note) : AV := .agg [.iv (stI x.start), .iv (stI x.end_), .iv (spI x.blur), .iv (wrI x.writes)]
theorem enW_eq (y : Write) : enW y = [.val (.int .i64 y.stamp.count), .val (.int .i64 y.stamp.node), .val (.int .i64 y.object), .val (.bool y.gone)] := rfl
theorem enN_eq (x : Note) : enN x = [stI x.start, stI x.end_, spI x.blur, wrI x.writes] := rfl

section
variable {X : World} {v : Value}
theorem st_rep {cs : List Value} {s : Stamp} (h : StampR cs s) : RepVs X cs (enSt s) := by
  obtain ⟨rfl, h1, h2⟩ := h; exact ⟨.val h1, .val h2, trivial⟩
theorem rep_st {cs : List Value} {s : Stamp} (h : RepVs X cs (enSt s)) : StampR cs s := by
  match cs, h with
  | [a, b], ⟨h1, h2, _⟩ => cases h1 with | val i1 => cases h2 with | val i2 => exact ⟨rfl, i1, i2⟩
theorem sp_rep {cs : List Value} {s : Span} (h : SpanR cs s) : RepVs X cs (enSp s) := by
  obtain ⟨rfl, h1, h2⟩ := h; exact ⟨.val h1, .val h2, trivial⟩
theorem rep_sp {cs : List Value} {s : Span} (h : RepVs X cs (enSp s)) : SpanR cs s := by
  match cs, h with
  | [a, b], ⟨h1, h2, _⟩ => cases h1 with | val i1 => cases h2 with | val i2 => exact ⟨rfl, i1, i2⟩
theorem w_rep {cs : List Value} {s : Write} (h : WriteR cs s) : RepVs X cs (enW s) := by
  obtain ⟨rfl, h1, h2, h3⟩ := h; exact ⟨.val h1, .val h2, .val h3, .val trivial, trivial⟩
theorem rep_w {cs : List Value} {s : Write} (h : RepVs X cs (enW s)) : WriteR cs s := by
  match cs, h with
  | [a, b, c, d], ⟨h1, h2, h3, h4, _⟩ => cases h1 with | val i1 => cases h2 with | val i2 => cases h3 with | val i3 => cases h4 with | val i4 => exact ⟨rfl, i1, i2, i3⟩
theorem RepV.stamps {l : List Stamp} (h : RepV X v (stI l)) : Stamps X X.heap.size v l := h.to_typed fun _ _ _ h => rep_st h
theorem RepV.spans {l : List Span} (h : RepV X v (spI l)) : Spans X X.heap.size v l := h.to_typed fun _ _ _ h => rep_sp h
theorem RepV.writes {l : List Write} (h : RepV X v (wrI l)) : Writes X X.heap.size v l := h.to_typed fun _ _ _ h => rep_w h
theorem stamps_rep {l : List Stamp} {B : Nat} (h : Stamps X B v l) (hB : B ≤ X.heap.size) : RepV X v (stI l) := RepV.of_typed (fun _ _ h => st_rep h) h hB
theorem spans_rep {l : List Span} {B : Nat} (h : Spans X B v l) (hB : B ≤ X.heap.size) : RepV X v (spI l) := RepV.of_typed (fun _ _ h => sp_rep h) h hB
theorem writes_rep {l : List Write} {B : Nat} (h : Writes X B v l) (hB : B ≤ X.heap.size) : RepV X v (wrI l) := RepV.of_typed (fun _ _ h => w_rep h) h hB
/-- a note's four slices, read in a world that shows as much -/
theorem rep_note {E : Env} {w : World} (he : Ext X w) {x : Note} (h : RepA E X v (noteA x)) : ∃ v0 v1 v2 v3, v = .agg #[v0, v1, v2, v3] ∧ NoteV w w.heap.size v0 v1 v2 v3 x := by
  cases h with
  | @agg vs _ h1 h2 =>
    obtain ⟨l⟩ := vs
    match l, h1 with
    | [v0, v1, v2, v3], _ =>
      have a0 := h2 0 v0 _ rfl rfl
      have a1 := h2 1 v1 _ rfl rfl
      have a2 := h2 2 v2 _ rfl rfl
      have a3 := h2 3 v3 _ rfl rfl
      cases a0 with | iv a0 => cases a1 with | iv a1 => cases a2 with | iv a2 => cases a3 with | iv a3 =>
      exact ⟨v0, v1, v2, v3, rfl, a0.stamps.ext (fun _ _ h => h) he, a1.stamps.ext (fun _ _ h => h) he, a2.spans.ext (fun _ _ h => h) he, a3.writes.ext (fun _ _ h => h) he⟩
theorem Chunks.map_ {α β : Type} {R : List Value → α → Prop} {R' : List Value → β → Prop} {f : α → β} {k : Nat} (hR : ∀ cs x, R cs x → R' cs (f x)) : ∀ {xs : List Value} {l : List α}, Chunks R k xs l → Chunks R' k xs (l.map f)
  | _, [], h => h
  | _, _ :: _, ⟨cs, rest, e, hk, h1, h⟩ => ⟨cs, rest, e, hk, hR _ _ h1, Chunks.map_ hR h⟩
theorem OwnSl.map_ {α β : Type} {R : List Value → α → Prop} {R' : List Value → β → Prop} {f : α → β} {k : Nat} {w : World} {base : Nat} {e : TypeId} {l : List α} (hR : ∀ cs x, R cs x → R' cs (f x)) (h : OwnSl R k w base e v l) : OwnSl R' k w base e v (l.map f) := by
  obtain ⟨xs, h1, h2, h3⟩ := h
  exact ⟨xs, by rw [List.length_map]; exact h1, h2.map_ hR, by rw [List.length_map]; exact h3⟩
end

section
variable {P : Program} {G : World → Prop} {f : FuncId} {fn : Func} {c : Code}
theorem enters_f (hf : P.funcs[f]? = some fn) (hb : fn.body = some c) (hname : (fn.name == "runtime.NumGoroutine") = false) (vs : Array Value) (w : World) : (callFunc f vs).run P w = .ok (.enter f vs) w := by
  have hname' : ¬ fn.name = "runtime.NumGoroutine" := by simpa using hname
  simp [callFunc, program, Sem.run, hf, hname', hb]
/-- a contract of the elder kind whose result can be read where it comes -/
theorem bridge {args : List AV} {r : AV} (hf : P.funcs[f]? = some fn) (hb : fn.body = some c) (hname : (fn.name == "runtime.NumGoroutine") = false)
    (h : ∀ (V w : World) (E : Env) (vs : Array Value), Ext V w → G w → RepAs E V vs.toList args → Calls P f vs w fun e w' => ∃ v, e = .returned v ∧ Below w.heap.size w w' ∧ RepA E (vis V w w' []) v r) : ACalls P G f args r [] :=
  ⟨enters_f hf hb hname, fun V w E vs hV hG hr => (h V w E vs hV hG hr).mono fun _ w' ⟨v, he, hb, hv⟩ => ⟨v, E, he, hb, List.nodup_nil, fun _ h => (by cases h), fun _ h => (by cases h), hv⟩⟩
theorem args1 {E : Env} {V : World} {vs : Array Value} {a : AV} (h : RepAs E V vs.toList [a]) : ∃ v, vs = #[v] ∧ RepA E V v a := by
  obtain ⟨v, vs', h1, h2, h3⟩ := RepAs.cons_iff.1 h
  rw [RepAs.nil_iff] at h3
  subst h3
  exact ⟨v, by rw [← Array.toArray_toList (xs := vs), h1], h2⟩
theorem args2 {E : Env} {V : World} {vs : Array Value} {a b : AV} (h : RepAs E V vs.toList [a, b]) : ∃ v u, vs = #[v, u] ∧ RepA E V v a ∧ RepA E V u b := by
  obtain ⟨v, vs', h1, h2, h3⟩ := RepAs.cons_iff.1 h
  obtain ⟨u, vs2, rfl, h4, h5⟩ := RepAs.cons_iff.1 h3
  rw [RepAs.nil_iff] at h5
  subst h5
  exact ⟨v, u, by rw [← Array.toArray_toList (xs := vs), h1], h2, h4⟩
theorem iv_stamps {E : Env} {V w : World} {v : Value} {l : List Stamp} (hV : Ext V w) (h : RepA E V v (.iv (stI l))) : Stamps w w.heap.size v l := by
  cases h with | iv h => exact h.stamps.ext (fun _ _ h => h) hV
theorem iv_spans {E : Env} {V w : World} {v : Value} {l : List Span} (hV : Ext V w) (h : RepA E V v (.iv (spI l))) : Spans w w.heap.size v l := by
  cases h with | iv h => exact h.spans.ext (fun _ _ h => h) hV
/-- a contract of the elder kind whose result is a value without memory -/
theorem bridge_val {args : List AV} {v : Value} (hf : P.funcs[f]? = some fn) (hb : fn.body = some c) (hname : (fn.name == "runtime.NumGoroutine") = false)
    (h : ∀ (V w : World) (E : Env) (vs : Array Value), Ext V w → G w → RepAs E V vs.toList args → Calls P f vs w fun e w' => e = .returned v ∧ Below w.heap.size w w') : ACalls P G f args (.val v) [] :=
  ⟨enters_f hf hb hname, fun V w E vs hV hG hr => (h V w E vs hV hG hr).mono fun _ w' ⟨he, hb⟩ => ⟨v, E, he, hb, List.nodup_nil, fun _ h => (by cases h), fun _ h => (by cases h), .val⟩⟩
/-- whose result is a new row -/
theorem bridge_own {α : Type} {R : List Value → α → Prop} {enc : α → List IV} {k T : Nat} {l : List α} (hR : ∀ X cs x, R cs x → RepVs X cs (enc x)) {args : List AV} (hf : P.funcs[f]? = some fn) (hb : fn.body = some c) (hname : (fn.name == "runtime.NumGoroutine") = false)
    (h : ∀ (V w : World) (E : Env) (vs : Array Value), Ext V w → G w → RepAs E V vs.toList args → Calls P f vs w fun e w' => (∃ v, e = .returned v ∧ OwnSl R k w' w.heap.size T v l) ∧ Below w.heap.size w w') : ACalls P G f args (.own 0) [.row 0 T k (l.map enc)] :=
  ⟨enters_f hf hb hname, fun V w E vs hV hG hr => (h V w E vs hV hG hr).mono fun _ w' ⟨⟨v, he, hO⟩, hb⟩ => by
    obtain ⟨A, cc, hv⟩ := hO.form
    have ho : owns ⟨fun _ => (v.ownBlock).getD 0, fun _ => v⟩ [.row 0 T k (l.map enc)] = v.ownBlock.toList := by simp [owns, BA.owned]
    refine ⟨v, ⟨fun _ => (v.ownBlock).getD 0, fun _ => v⟩, he, hb, by rw [ho]; cases v.ownBlock <;> simp, fun g hg => by rw [ho, Option.mem_toList] at hg; exact (hO.lt g hg).1, fun b hb' => ?_, ?_⟩
    · simp only [List.mem_singleton] at hb'
      subst hb'
      exact ⟨hO.map_ fun cs x h => hR _ cs x h, fun g hg => by simp [hg]⟩
    · rw [hv]
      exact .own rfl⟩
end
end Go.Proofs.YtaiekfeiaamemaaGreatDoor
