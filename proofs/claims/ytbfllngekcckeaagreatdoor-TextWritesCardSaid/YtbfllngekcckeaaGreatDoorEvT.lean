/- The evaluator's configuration of this seat, and what its types and tables come to, as rewriting rules. Written by gen.py. -/
import Derived.Test.YtbfllngekcckeaaGreatDoorProg
import Derived.Test.YtbfllngekcckeaaGreatDoorEvA
import Derived.Test.YtbfllngekcckeaaGreatDoorEvP
import Derived.KernelRfl
namespace Go.Proofs.YtbfllngekcckeaaGreatDoor
open Go.Ev

def liveTab : List (Nat × Nat × List Nat) := [(4, 0, [2, 3, 8, 9, 10]), (4, 2, [2, 3, 8, 9, 10, 16, 17, 18]), (7, 0, [3, 6, 7, 8]), (8, 0, [0, 3, 4]), (8, 2, [0, 3, 4, 5]), (8, 4, [0, 3, 4, 5, 6, 7]), (9, 0, [2, 3, 8, 9, 10]), (9, 2, [2, 3, 8, 9, 10, 17, 18, 19]), (10, 0, [0, 2, 3, 4]), (10, 2, [0, 2, 3, 4, 5]), (10, 4, [0, 2, 3, 4, 5, 6, 7]), (12, 0, [0, 1, 4, 5]), (12, 2, [0, 1, 4, 5, 6]), (12, 4, [0, 1, 4, 5, 6, 7]), (14, 0, [3, 6, 7, 8]), (15, 0, [3, 16, 17, 18]), (15, 2, [3, 16, 17, 18, 26, 27, 28]), (15, 4, [3, 16, 17, 18, 26, 27, 28, 36, 37, 38]), (17, 0, [1, 5, 8, 9, 10]), (19, 0, [0, 3, 4]), (23, 0, [1, 2, 6, 15, 16, 17]), (25, 0, [1, 2, 6, 15, 16, 17]), (27, 0, [0, 1, 4, 12, 13]), (31, 0, [0, 1, 4, 5]), (34, 0, [0, 2, 7, 8, 9]), (37, 0, [1, 5, 8, 9, 10]), (39, 0, [1, 3, 4]), (39, 2, [1, 3, 4, 5, 6]), (40, 0, [0, 2, 3]), (41, 0, [0, 1, 4, 7, 8]), (44, 0, [0, 1, 4, 5]), (47, 0, [0, 2, 7, 8, 9]), (52, 0, [1, 5, 8, 9, 10]), (54, 1, [0, 4, 9]), (54, 3, [0, 7, 8, 9, 12]), (54, 5, [0, 4, 7, 8, 9, 14, 15]), (54, 7, [0, 7, 8, 9, 14, 15, 16]), (54, 9, [4, 175]), (55, 0, [0, 1, 4, 5]), (57, 0, [0, 2, 7, 8, 9]), (75, 0, [2, 3, 5, 6, 47, 48, 49]), (80, 0, [0, 1, 4]), (81, 0, [0, 1, 3, 4, 10, 11, 12, 13, 14, 15, 16]), (81, 2, [0, 1, 3, 4, 10, 11, 12, 13, 17]), (93, 3, [1, 6, 7, 8, 9, 10, 11, 12, 13, 99, 100, 101]), (99, 0, [0, 2, 3, 4, 5])]
def strictTab : List (Nat × Nat × List Nat) := [(15, 15, [5]), (53, 1, [5]), (60, 0, [12]), (83, 1, [3]), (84, 1, [3])]
def findTab : List (Nat × Nat × List Nat) → Nat → Nat → List Nat
  | [], _, _ => []
  | (a, b, l) :: r, f, i => if a = f then (if b = i then l else findTab r f i) else findTab r f i
def primTab (f : FuncId) : Option (List V → Frames → Option (Option V × Frames)) := match f with
  | 28 => some primSigns
  | 36 => some primJoin
  | 42 => some primContainsRune
  | 61 => some primItoa
  | 71 => some primAtoi
  | 72 => some primTrimPrefix
  | _ => none
noncomputable def cfg : Cfg := { P := Tryz.prog, cons := fun f => Nat.testBit 8589934592 f, esc := fun _ _ => false, arr := fun _ _ => false, live := findTab liveTab, strict := findTab strictTab, sealed := fun f => Nat.testBit 339701154191336145414202505189697388536 f, ok := fun f => Nat.testBit 170141184708312764874663560233269329912 f, prim := primTab }


theorem cfg_P : cfg.P = Tryz.prog := rfl
theorem cfg_esc (f t : Nat) : cfg.esc f t = false := rfl
theorem cfg_arr (f t : Nat) : cfg.arr f t = false := rfl
theorem cons_3 : cfg.cons 3 = false := by kernel_rfl
theorem sealed_3 : cfg.sealed 3 = true := by kernel_rfl
theorem cons_4 : cfg.cons 4 = false := by kernel_rfl
theorem sealed_4 : cfg.sealed 4 = true := by kernel_rfl
theorem cons_5 : cfg.cons 5 = false := by kernel_rfl
theorem sealed_5 : cfg.sealed 5 = true := by kernel_rfl
theorem cons_6 : cfg.cons 6 = false := by kernel_rfl
theorem sealed_6 : cfg.sealed 6 = true := by kernel_rfl
theorem cons_7 : cfg.cons 7 = false := by kernel_rfl
theorem sealed_7 : cfg.sealed 7 = true := by kernel_rfl
theorem cons_8 : cfg.cons 8 = false := by kernel_rfl
theorem sealed_8 : cfg.sealed 8 = true := by kernel_rfl
theorem cons_9 : cfg.cons 9 = false := by kernel_rfl
theorem sealed_9 : cfg.sealed 9 = true := by kernel_rfl
theorem cons_10 : cfg.cons 10 = false := by kernel_rfl
theorem sealed_10 : cfg.sealed 10 = true := by kernel_rfl
theorem cons_11 : cfg.cons 11 = false := by kernel_rfl
theorem sealed_11 : cfg.sealed 11 = true := by kernel_rfl
theorem cons_12 : cfg.cons 12 = false := by kernel_rfl
theorem sealed_12 : cfg.sealed 12 = true := by kernel_rfl
theorem cons_13 : cfg.cons 13 = false := by kernel_rfl
theorem sealed_13 : cfg.sealed 13 = true := by kernel_rfl
theorem cons_14 : cfg.cons 14 = false := by kernel_rfl
theorem sealed_14 : cfg.sealed 14 = true := by kernel_rfl
theorem cons_15 : cfg.cons 15 = false := by kernel_rfl
theorem sealed_15 : cfg.sealed 15 = true := by kernel_rfl
theorem cons_16 : cfg.cons 16 = false := by kernel_rfl
theorem sealed_16 : cfg.sealed 16 = true := by kernel_rfl
theorem cons_17 : cfg.cons 17 = false := by kernel_rfl
theorem sealed_17 : cfg.sealed 17 = false := by kernel_rfl
theorem cons_18 : cfg.cons 18 = false := by kernel_rfl
theorem sealed_18 : cfg.sealed 18 = true := by kernel_rfl
theorem cons_19 : cfg.cons 19 = false := by kernel_rfl
theorem sealed_19 : cfg.sealed 19 = true := by kernel_rfl
theorem cons_20 : cfg.cons 20 = false := by kernel_rfl
theorem sealed_20 : cfg.sealed 20 = false := by kernel_rfl
theorem cons_21 : cfg.cons 21 = false := by kernel_rfl
theorem sealed_21 : cfg.sealed 21 = true := by kernel_rfl
theorem cons_22 : cfg.cons 22 = false := by kernel_rfl
theorem sealed_22 : cfg.sealed 22 = true := by kernel_rfl
theorem cons_23 : cfg.cons 23 = false := by kernel_rfl
theorem sealed_23 : cfg.sealed 23 = false := by kernel_rfl
theorem cons_24 : cfg.cons 24 = false := by kernel_rfl
theorem sealed_24 : cfg.sealed 24 = true := by kernel_rfl
theorem cons_25 : cfg.cons 25 = false := by kernel_rfl
theorem sealed_25 : cfg.sealed 25 = false := by kernel_rfl
theorem cons_26 : cfg.cons 26 = false := by kernel_rfl
theorem sealed_26 : cfg.sealed 26 = true := by kernel_rfl
theorem cons_27 : cfg.cons 27 = false := by kernel_rfl
theorem sealed_27 : cfg.sealed 27 = true := by kernel_rfl
theorem cons_28 : cfg.cons 28 = false := by kernel_rfl
theorem sealed_28 : cfg.sealed 28 = true := by kernel_rfl
theorem cons_29 : cfg.cons 29 = false := by kernel_rfl
theorem sealed_29 : cfg.sealed 29 = false := by kernel_rfl
theorem cons_30 : cfg.cons 30 = false := by kernel_rfl
theorem sealed_30 : cfg.sealed 30 = true := by kernel_rfl
theorem cons_31 : cfg.cons 31 = false := by kernel_rfl
theorem sealed_31 : cfg.sealed 31 = false := by kernel_rfl
theorem cons_32 : cfg.cons 32 = false := by kernel_rfl
theorem sealed_32 : cfg.sealed 32 = false := by kernel_rfl
theorem cons_33 : cfg.cons 33 = true := by kernel_rfl
theorem sealed_33 : cfg.sealed 33 = true := by kernel_rfl
theorem cons_34 : cfg.cons 34 = false := by kernel_rfl
theorem sealed_34 : cfg.sealed 34 = false := by kernel_rfl
theorem cons_35 : cfg.cons 35 = false := by kernel_rfl
theorem sealed_35 : cfg.sealed 35 = false := by kernel_rfl
theorem cons_36 : cfg.cons 36 = false := by kernel_rfl
theorem sealed_36 : cfg.sealed 36 = true := by kernel_rfl
theorem cons_37 : cfg.cons 37 = false := by kernel_rfl
theorem sealed_37 : cfg.sealed 37 = false := by kernel_rfl
theorem cons_38 : cfg.cons 38 = false := by kernel_rfl
theorem sealed_38 : cfg.sealed 38 = true := by kernel_rfl
theorem cons_39 : cfg.cons 39 = false := by kernel_rfl
theorem sealed_39 : cfg.sealed 39 = true := by kernel_rfl
theorem cons_40 : cfg.cons 40 = false := by kernel_rfl
theorem sealed_40 : cfg.sealed 40 = true := by kernel_rfl
theorem cons_41 : cfg.cons 41 = false := by kernel_rfl
theorem sealed_41 : cfg.sealed 41 = false := by kernel_rfl
theorem cons_42 : cfg.cons 42 = false := by kernel_rfl
theorem sealed_42 : cfg.sealed 42 = true := by kernel_rfl
theorem cons_43 : cfg.cons 43 = false := by kernel_rfl
theorem sealed_43 : cfg.sealed 43 = false := by kernel_rfl
theorem cons_44 : cfg.cons 44 = false := by kernel_rfl
theorem sealed_44 : cfg.sealed 44 = false := by kernel_rfl
theorem cons_45 : cfg.cons 45 = false := by kernel_rfl
theorem sealed_45 : cfg.sealed 45 = false := by kernel_rfl
theorem cons_46 : cfg.cons 46 = false := by kernel_rfl
theorem sealed_46 : cfg.sealed 46 = false := by kernel_rfl
theorem cons_47 : cfg.cons 47 = false := by kernel_rfl
theorem sealed_47 : cfg.sealed 47 = false := by kernel_rfl
theorem cons_48 : cfg.cons 48 = false := by kernel_rfl
theorem sealed_48 : cfg.sealed 48 = false := by kernel_rfl
theorem cons_49 : cfg.cons 49 = false := by kernel_rfl
theorem sealed_49 : cfg.sealed 49 = false := by kernel_rfl
theorem cons_50 : cfg.cons 50 = false := by kernel_rfl
theorem sealed_50 : cfg.sealed 50 = false := by kernel_rfl
theorem cons_51 : cfg.cons 51 = false := by kernel_rfl
theorem sealed_51 : cfg.sealed 51 = false := by kernel_rfl
theorem cons_52 : cfg.cons 52 = false := by kernel_rfl
theorem sealed_52 : cfg.sealed 52 = false := by kernel_rfl
theorem cons_53 : cfg.cons 53 = false := by kernel_rfl
theorem sealed_53 : cfg.sealed 53 = true := by kernel_rfl
theorem cons_54 : cfg.cons 54 = false := by kernel_rfl
theorem sealed_54 : cfg.sealed 54 = true := by kernel_rfl
theorem cons_55 : cfg.cons 55 = false := by kernel_rfl
theorem sealed_55 : cfg.sealed 55 = false := by kernel_rfl
theorem cons_56 : cfg.cons 56 = false := by kernel_rfl
theorem sealed_56 : cfg.sealed 56 = false := by kernel_rfl
theorem cons_57 : cfg.cons 57 = false := by kernel_rfl
theorem sealed_57 : cfg.sealed 57 = false := by kernel_rfl
theorem cons_58 : cfg.cons 58 = false := by kernel_rfl
theorem sealed_58 : cfg.sealed 58 = false := by kernel_rfl
theorem cons_59 : cfg.cons 59 = false := by kernel_rfl
theorem sealed_59 : cfg.sealed 59 = false := by kernel_rfl
theorem cons_60 : cfg.cons 60 = false := by kernel_rfl
theorem sealed_60 : cfg.sealed 60 = false := by kernel_rfl
theorem cons_61 : cfg.cons 61 = false := by kernel_rfl
theorem sealed_61 : cfg.sealed 61 = true := by kernel_rfl
theorem cons_62 : cfg.cons 62 = false := by kernel_rfl
theorem sealed_62 : cfg.sealed 62 = true := by kernel_rfl
theorem cons_63 : cfg.cons 63 = false := by kernel_rfl
theorem sealed_63 : cfg.sealed 63 = true := by kernel_rfl
theorem cons_64 : cfg.cons 64 = false := by kernel_rfl
theorem sealed_64 : cfg.sealed 64 = true := by kernel_rfl
theorem cons_65 : cfg.cons 65 = false := by kernel_rfl
theorem sealed_65 : cfg.sealed 65 = true := by kernel_rfl
theorem cons_66 : cfg.cons 66 = false := by kernel_rfl
theorem sealed_66 : cfg.sealed 66 = false := by kernel_rfl
theorem cons_67 : cfg.cons 67 = false := by kernel_rfl
theorem sealed_67 : cfg.sealed 67 = false := by kernel_rfl
theorem cons_68 : cfg.cons 68 = false := by kernel_rfl
theorem sealed_68 : cfg.sealed 68 = true := by kernel_rfl
theorem cons_69 : cfg.cons 69 = false := by kernel_rfl
theorem sealed_69 : cfg.sealed 69 = true := by kernel_rfl
theorem cons_70 : cfg.cons 70 = false := by kernel_rfl
theorem sealed_70 : cfg.sealed 70 = true := by kernel_rfl
theorem cons_71 : cfg.cons 71 = false := by kernel_rfl
theorem sealed_71 : cfg.sealed 71 = true := by kernel_rfl
theorem cons_72 : cfg.cons 72 = false := by kernel_rfl
theorem sealed_72 : cfg.sealed 72 = true := by kernel_rfl
theorem cons_73 : cfg.cons 73 = false := by kernel_rfl
theorem sealed_73 : cfg.sealed 73 = true := by kernel_rfl
theorem cons_74 : cfg.cons 74 = false := by kernel_rfl
theorem sealed_74 : cfg.sealed 74 = true := by kernel_rfl
theorem cons_75 : cfg.cons 75 = false := by kernel_rfl
theorem sealed_75 : cfg.sealed 75 = true := by kernel_rfl
theorem cons_76 : cfg.cons 76 = false := by kernel_rfl
theorem sealed_76 : cfg.sealed 76 = false := by kernel_rfl
theorem cons_77 : cfg.cons 77 = false := by kernel_rfl
theorem sealed_77 : cfg.sealed 77 = true := by kernel_rfl
theorem cons_78 : cfg.cons 78 = false := by kernel_rfl
theorem sealed_78 : cfg.sealed 78 = true := by kernel_rfl
theorem cons_79 : cfg.cons 79 = false := by kernel_rfl
theorem sealed_79 : cfg.sealed 79 = true := by kernel_rfl
theorem cons_80 : cfg.cons 80 = false := by kernel_rfl
theorem sealed_80 : cfg.sealed 80 = true := by kernel_rfl
theorem cons_81 : cfg.cons 81 = false := by kernel_rfl
theorem sealed_81 : cfg.sealed 81 = true := by kernel_rfl
theorem cons_82 : cfg.cons 82 = false := by kernel_rfl
theorem sealed_82 : cfg.sealed 82 = true := by kernel_rfl
theorem cons_83 : cfg.cons 83 = false := by kernel_rfl
theorem sealed_83 : cfg.sealed 83 = true := by kernel_rfl
theorem cons_84 : cfg.cons 84 = false := by kernel_rfl
theorem sealed_84 : cfg.sealed 84 = true := by kernel_rfl
theorem cons_85 : cfg.cons 85 = false := by kernel_rfl
theorem sealed_85 : cfg.sealed 85 = true := by kernel_rfl
theorem cons_86 : cfg.cons 86 = false := by kernel_rfl
theorem sealed_86 : cfg.sealed 86 = true := by kernel_rfl
theorem cons_87 : cfg.cons 87 = false := by kernel_rfl
theorem sealed_87 : cfg.sealed 87 = true := by kernel_rfl
theorem cons_88 : cfg.cons 88 = false := by kernel_rfl
theorem sealed_88 : cfg.sealed 88 = true := by kernel_rfl
theorem cons_89 : cfg.cons 89 = false := by kernel_rfl
theorem sealed_89 : cfg.sealed 89 = true := by kernel_rfl
theorem cons_90 : cfg.cons 90 = false := by kernel_rfl
theorem sealed_90 : cfg.sealed 90 = true := by kernel_rfl
theorem cons_91 : cfg.cons 91 = false := by kernel_rfl
theorem sealed_91 : cfg.sealed 91 = true := by kernel_rfl
theorem cons_92 : cfg.cons 92 = false := by kernel_rfl
theorem sealed_92 : cfg.sealed 92 = true := by kernel_rfl
theorem cons_93 : cfg.cons 93 = false := by kernel_rfl
theorem sealed_93 : cfg.sealed 93 = true := by kernel_rfl
theorem cons_94 : cfg.cons 94 = false := by kernel_rfl
theorem sealed_94 : cfg.sealed 94 = true := by kernel_rfl
theorem cons_95 : cfg.cons 95 = false := by kernel_rfl
theorem sealed_95 : cfg.sealed 95 = true := by kernel_rfl
theorem cons_96 : cfg.cons 96 = false := by kernel_rfl
theorem sealed_96 : cfg.sealed 96 = true := by kernel_rfl
theorem cons_97 : cfg.cons 97 = false := by kernel_rfl
theorem sealed_97 : cfg.sealed 97 = true := by kernel_rfl
theorem cons_98 : cfg.cons 98 = false := by kernel_rfl
theorem sealed_98 : cfg.sealed 98 = true := by kernel_rfl
theorem cons_99 : cfg.cons 99 = false := by kernel_rfl
theorem sealed_99 : cfg.sealed 99 = true := by kernel_rfl
theorem cons_100 : cfg.cons 100 = false := by kernel_rfl
theorem sealed_100 : cfg.sealed 100 = true := by kernel_rfl
theorem cons_101 : cfg.cons 101 = false := by kernel_rfl
theorem sealed_101 : cfg.sealed 101 = true := by kernel_rfl
theorem cons_102 : cfg.cons 102 = false := by kernel_rfl
theorem sealed_102 : cfg.sealed 102 = true := by kernel_rfl
theorem cons_103 : cfg.cons 103 = false := by kernel_rfl
theorem sealed_103 : cfg.sealed 103 = true := by kernel_rfl
theorem cons_104 : cfg.cons 104 = false := by kernel_rfl
theorem sealed_104 : cfg.sealed 104 = true := by kernel_rfl
theorem cons_105 : cfg.cons 105 = false := by kernel_rfl
theorem sealed_105 : cfg.sealed 105 = true := by kernel_rfl
theorem cons_106 : cfg.cons 106 = false := by kernel_rfl
theorem sealed_106 : cfg.sealed 106 = true := by kernel_rfl
theorem cons_107 : cfg.cons 107 = false := by kernel_rfl
theorem sealed_107 : cfg.sealed 107 = true := by kernel_rfl
theorem cons_108 : cfg.cons 108 = false := by kernel_rfl
theorem sealed_108 : cfg.sealed 108 = false := by kernel_rfl
theorem cons_109 : cfg.cons 109 = false := by kernel_rfl
theorem sealed_109 : cfg.sealed 109 = false := by kernel_rfl
theorem cons_110 : cfg.cons 110 = false := by kernel_rfl
theorem sealed_110 : cfg.sealed 110 = false := by kernel_rfl
theorem cons_111 : cfg.cons 111 = false := by kernel_rfl
theorem sealed_111 : cfg.sealed 111 = false := by kernel_rfl
theorem cons_112 : cfg.cons 112 = false := by kernel_rfl
theorem sealed_112 : cfg.sealed 112 = false := by kernel_rfl
theorem cons_113 : cfg.cons 113 = false := by kernel_rfl
theorem sealed_113 : cfg.sealed 113 = false := by kernel_rfl
theorem cons_114 : cfg.cons 114 = false := by kernel_rfl
theorem sealed_114 : cfg.sealed 114 = false := by kernel_rfl
theorem cons_115 : cfg.cons 115 = false := by kernel_rfl
theorem sealed_115 : cfg.sealed 115 = false := by kernel_rfl
theorem cons_116 : cfg.cons 116 = false := by kernel_rfl
theorem sealed_116 : cfg.sealed 116 = true := by kernel_rfl
theorem cons_117 : cfg.cons 117 = false := by kernel_rfl
theorem sealed_117 : cfg.sealed 117 = false := by kernel_rfl
theorem cons_118 : cfg.cons 118 = false := by kernel_rfl
theorem sealed_118 : cfg.sealed 118 = false := by kernel_rfl
theorem cons_119 : cfg.cons 119 = false := by kernel_rfl
theorem sealed_119 : cfg.sealed 119 = true := by kernel_rfl
theorem cons_120 : cfg.cons 120 = false := by kernel_rfl
theorem sealed_120 : cfg.sealed 120 = true := by kernel_rfl
theorem cons_121 : cfg.cons 121 = false := by kernel_rfl
theorem sealed_121 : cfg.sealed 121 = true := by kernel_rfl
theorem cons_122 : cfg.cons 122 = false := by kernel_rfl
theorem sealed_122 : cfg.sealed 122 = true := by kernel_rfl
theorem cons_123 : cfg.cons 123 = false := by kernel_rfl
theorem sealed_123 : cfg.sealed 123 = true := by kernel_rfl
theorem cons_124 : cfg.cons 124 = false := by kernel_rfl
theorem sealed_124 : cfg.sealed 124 = true := by kernel_rfl
theorem cons_125 : cfg.cons 125 = false := by kernel_rfl
theorem sealed_125 : cfg.sealed 125 = true := by kernel_rfl
theorem cons_126 : cfg.cons 126 = false := by kernel_rfl
theorem sealed_126 : cfg.sealed 126 = true := by kernel_rfl
theorem cons_127 : cfg.cons 127 = false := by kernel_rfl
theorem sealed_127 : cfg.sealed 127 = true := by kernel_rfl
theorem live_4_0 : cfg.live 4 0 = [2, 3, 8, 9, 10] := by kernel_rfl
theorem live_4_2 : cfg.live 4 2 = [2, 3, 8, 9, 10, 16, 17, 18] := by kernel_rfl
theorem live_7_0 : cfg.live 7 0 = [3, 6, 7, 8] := by kernel_rfl
theorem live_8_0 : cfg.live 8 0 = [0, 3, 4] := by kernel_rfl
theorem live_8_2 : cfg.live 8 2 = [0, 3, 4, 5] := by kernel_rfl
theorem live_8_4 : cfg.live 8 4 = [0, 3, 4, 5, 6, 7] := by kernel_rfl
theorem live_9_0 : cfg.live 9 0 = [2, 3, 8, 9, 10] := by kernel_rfl
theorem live_9_2 : cfg.live 9 2 = [2, 3, 8, 9, 10, 17, 18, 19] := by kernel_rfl
theorem live_10_0 : cfg.live 10 0 = [0, 2, 3, 4] := by kernel_rfl
theorem live_10_2 : cfg.live 10 2 = [0, 2, 3, 4, 5] := by kernel_rfl
theorem live_10_4 : cfg.live 10 4 = [0, 2, 3, 4, 5, 6, 7] := by kernel_rfl
theorem live_12_0 : cfg.live 12 0 = [0, 1, 4, 5] := by kernel_rfl
theorem live_12_2 : cfg.live 12 2 = [0, 1, 4, 5, 6] := by kernel_rfl
theorem live_12_4 : cfg.live 12 4 = [0, 1, 4, 5, 6, 7] := by kernel_rfl
theorem live_14_0 : cfg.live 14 0 = [3, 6, 7, 8] := by kernel_rfl
theorem live_15_0 : cfg.live 15 0 = [3, 16, 17, 18] := by kernel_rfl
theorem live_15_2 : cfg.live 15 2 = [3, 16, 17, 18, 26, 27, 28] := by kernel_rfl
theorem live_15_4 : cfg.live 15 4 = [3, 16, 17, 18, 26, 27, 28, 36, 37, 38] := by kernel_rfl
theorem live_17_0 : cfg.live 17 0 = [1, 5, 8, 9, 10] := by kernel_rfl
theorem live_19_0 : cfg.live 19 0 = [0, 3, 4] := by kernel_rfl
theorem live_23_0 : cfg.live 23 0 = [1, 2, 6, 15, 16, 17] := by kernel_rfl
theorem live_25_0 : cfg.live 25 0 = [1, 2, 6, 15, 16, 17] := by kernel_rfl
theorem live_27_0 : cfg.live 27 0 = [0, 1, 4, 12, 13] := by kernel_rfl
theorem live_31_0 : cfg.live 31 0 = [0, 1, 4, 5] := by kernel_rfl
theorem live_34_0 : cfg.live 34 0 = [0, 2, 7, 8, 9] := by kernel_rfl
theorem live_37_0 : cfg.live 37 0 = [1, 5, 8, 9, 10] := by kernel_rfl
theorem live_39_0 : cfg.live 39 0 = [1, 3, 4] := by kernel_rfl
theorem live_39_2 : cfg.live 39 2 = [1, 3, 4, 5, 6] := by kernel_rfl
theorem live_40_0 : cfg.live 40 0 = [0, 2, 3] := by kernel_rfl
theorem live_41_0 : cfg.live 41 0 = [0, 1, 4, 7, 8] := by kernel_rfl
theorem live_44_0 : cfg.live 44 0 = [0, 1, 4, 5] := by kernel_rfl
theorem live_47_0 : cfg.live 47 0 = [0, 2, 7, 8, 9] := by kernel_rfl
theorem live_52_0 : cfg.live 52 0 = [1, 5, 8, 9, 10] := by kernel_rfl
theorem live_54_1 : cfg.live 54 1 = [0, 4, 9] := by kernel_rfl
theorem live_54_3 : cfg.live 54 3 = [0, 7, 8, 9, 12] := by kernel_rfl
theorem live_54_5 : cfg.live 54 5 = [0, 4, 7, 8, 9, 14, 15] := by kernel_rfl
theorem live_54_7 : cfg.live 54 7 = [0, 7, 8, 9, 14, 15, 16] := by kernel_rfl
theorem live_54_9 : cfg.live 54 9 = [4, 175] := by kernel_rfl
theorem live_55_0 : cfg.live 55 0 = [0, 1, 4, 5] := by kernel_rfl
theorem live_57_0 : cfg.live 57 0 = [0, 2, 7, 8, 9] := by kernel_rfl
theorem live_75_0 : cfg.live 75 0 = [2, 3, 5, 6, 47, 48, 49] := by kernel_rfl
theorem live_80_0 : cfg.live 80 0 = [0, 1, 4] := by kernel_rfl
theorem live_81_0 : cfg.live 81 0 = [0, 1, 3, 4, 10, 11, 12, 13, 14, 15, 16] := by kernel_rfl
theorem live_81_2 : cfg.live 81 2 = [0, 1, 3, 4, 10, 11, 12, 13, 17] := by kernel_rfl
theorem live_93_3 : cfg.live 93 3 = [1, 6, 7, 8, 9, 10, 11, 12, 13, 99, 100, 101] := by kernel_rfl
theorem live_99_0 : cfg.live 99 0 = [0, 2, 3, 4, 5] := by kernel_rfl
theorem strict_12_6 : cfg.strict 12 6 = [] := by kernel_rfl
theorem strict_12_11 : cfg.strict 12 11 = [] := by kernel_rfl
theorem strict_12_16 : cfg.strict 12 16 = [] := by kernel_rfl
theorem strict_15_15 : cfg.strict 15 15 = [5] := by kernel_rfl
theorem strict_27_6 : cfg.strict 27 6 = [] := by kernel_rfl
theorem strict_38_1 : cfg.strict 38 1 = [] := by kernel_rfl
theorem strict_45_2 : cfg.strict 45 2 = [] := by kernel_rfl
theorem strict_46_4 : cfg.strict 46 4 = [] := by kernel_rfl
theorem strict_53_1 : cfg.strict 53 1 = [5] := by kernel_rfl
theorem strict_80_7 : cfg.strict 80 7 = [] := by kernel_rfl
theorem strict_80_8 : cfg.strict 80 8 = [] := by kernel_rfl
theorem strict_80_9 : cfg.strict 80 9 = [] := by kernel_rfl
theorem strict_80_10 : cfg.strict 80 10 = [] := by kernel_rfl
theorem strict_80_17 : cfg.strict 80 17 = [] := by kernel_rfl
theorem strict_80_18 : cfg.strict 80 18 = [] := by kernel_rfl
theorem strict_80_23 : cfg.strict 80 23 = [] := by kernel_rfl
theorem strict_83_1 : cfg.strict 83 1 = [3] := by kernel_rfl
theorem strict_84_1 : cfg.strict 84 1 = [3] := by kernel_rfl
theorem sz_3 : sz cfg.P 3 = some 1 := by kernel_rfl
theorem sz_4 : sz cfg.P 4 = some 1 := by kernel_rfl
theorem sz_5 : sz cfg.P 5 = some 1 := by kernel_rfl
theorem sz_9 : sz cfg.P 9 = some 1 := by kernel_rfl
theorem sz_37 : sz cfg.P 37 = some 1 := by kernel_rfl
theorem sz_39 : sz cfg.P 39 = some 1 := by kernel_rfl
theorem sz_41 : sz cfg.P 41 = some 2 := by kernel_rfl
theorem sz_42 : sz cfg.P 42 = some 1 := by kernel_rfl
theorem sz_43 : sz cfg.P 43 = some 1 := by kernel_rfl
theorem sz_49 : sz cfg.P 49 = some 1 := by kernel_rfl
theorem sz_58 : sz cfg.P 58 = some 1 := by kernel_rfl
theorem sz_78 : sz cfg.P 78 = some 2 := by kernel_rfl
theorem sz_90 : sz cfg.P 90 = some 1 := by kernel_rfl
theorem sz_95 : sz cfg.P 95 = some 1 := by kernel_rfl
theorem sz_119 : sz cfg.P 119 = some 1 := by kernel_rfl
theorem sz_132 : sz cfg.P 132 = some 20 := by kernel_rfl
theorem sz_148 : sz cfg.P 148 = some 32 := by kernel_rfl
theorem sz_149 : sz cfg.P 149 = some 64 := by kernel_rfl
theorem agg_3 : aggT cfg.P 3 = some false := by kernel_rfl
theorem agg_4 : aggT cfg.P 4 = some false := by kernel_rfl
theorem agg_5 : aggT cfg.P 5 = some false := by kernel_rfl
theorem agg_9 : aggT cfg.P 9 = some false := by kernel_rfl
theorem agg_37 : aggT cfg.P 37 = some false := by kernel_rfl
theorem agg_39 : aggT cfg.P 39 = some false := by kernel_rfl
theorem agg_41 : aggT cfg.P 41 = some true := by kernel_rfl
theorem agg_42 : aggT cfg.P 42 = some false := by kernel_rfl
theorem agg_43 : aggT cfg.P 43 = some false := by kernel_rfl
theorem agg_49 : aggT cfg.P 49 = some false := by kernel_rfl
theorem agg_58 : aggT cfg.P 58 = some false := by kernel_rfl
theorem agg_78 : aggT cfg.P 78 = some true := by kernel_rfl
theorem agg_90 : aggT cfg.P 90 = some false := by kernel_rfl
theorem agg_95 : aggT cfg.P 95 = some false := by kernel_rfl
theorem agg_119 : aggT cfg.P 119 = some false := by kernel_rfl
theorem esz_22 : elemSz cfg.P 22 = 1 := by kernel_rfl
theorem esz_26 : elemSz cfg.P 26 = 1 := by kernel_rfl
theorem esz_36 : elemSz cfg.P 36 = 1 := by kernel_rfl
theorem esz_37 : elemSz cfg.P 37 = 1 := by kernel_rfl
theorem esz_38 : elemSz cfg.P 38 = 2 := by kernel_rfl
theorem esz_39 : elemSz cfg.P 39 = 2 := by kernel_rfl
theorem esz_42 : elemSz cfg.P 42 = 1 := by kernel_rfl
theorem esz_43 : elemSz cfg.P 43 = 1 := by kernel_rfl
theorem esz_49 : elemSz cfg.P 49 = 1 := by kernel_rfl
theorem esz_58 : elemSz cfg.P 58 = 1 := by kernel_rfl
theorem elemT_22 : elemT cfg.P 22 = some 37 := by kernel_rfl
theorem elemT_26 : elemT cfg.P 26 = some 42 := by kernel_rfl
theorem elemT_36 : elemT cfg.P 36 = some 39 := by kernel_rfl
theorem elemT_38 : elemT cfg.P 38 = some 41 := by kernel_rfl
theorem elemT_39 : elemT cfg.P 39 = some 41 := by kernel_rfl
theorem elemT_42 : elemT cfg.P 42 = some 39 := by kernel_rfl
theorem elemT_43 : elemT cfg.P 43 = some 5 := by kernel_rfl
theorem elemT_49 : elemT cfg.P 49 = some 3 := by kernel_rfl
theorem elemT_58 : elemT cfg.P 58 = some 9 := by kernel_rfl
theorem lay_41 : lay cfg.P 41 = [(0, 1, 3), (1, 1, 3)] := by kernel_rfl
theorem lay_61 : lay cfg.P 61 = [(0, 1, 58), (1, 1, 4)] := by kernel_rfl
theorem lay_70 : lay cfg.P 70 = [(0, 1, 43), (1, 1, 4)] := by kernel_rfl
theorem lay_78 : lay cfg.P 78 = [(0, 1, 4), (1, 1, 49)] := by kernel_rfl
theorem lay_92 : lay cfg.P 92 = [(0, 1, 90), (1, 1, 43)] := by kernel_rfl
theorem layB_41 : layB cfg.P 41 = some [(0, 1), (1, 1)] := by kernel_rfl
theorem layB_61 : layB cfg.P 61 = some [(0, 1), (1, 1)] := by kernel_rfl
theorem layB_70 : layB cfg.P 70 = some [(0, 1), (1, 1)] := by kernel_rfl
theorem layB_78 : layB cfg.P 78 = some [(0, 1), (1, 1)] := by kernel_rfl
theorem layB_132 : layB cfg.P 132 = some [(0, 1), (1, 1), (2, 1), (3, 1), (4, 1), (5, 1), (6, 1), (7, 1), (8, 1), (9, 1), (10, 1), (11, 1), (12, 1), (13, 1), (14, 1), (15, 1), (16, 1), (17, 1), (18, 1), (19, 1)] := by kernel_rfl
theorem layB_140 : layB cfg.P 140 = some [(0, 1), (1, 1), (2, 1)] := by kernel_rfl
theorem layB_147 : layB cfg.P 147 = some [(0, 1)] := by kernel_rfl
theorem layB_148 : layB cfg.P 148 = some [(0, 1), (1, 1), (2, 1), (3, 1), (4, 1), (5, 1), (6, 1), (7, 1), (8, 1), (9, 1), (10, 1), (11, 1), (12, 1), (13, 1), (14, 1), (15, 1), (16, 1), (17, 1), (18, 1), (19, 1), (20, 1), (21, 1), (22, 1), (23, 1), (24, 1), (25, 1), (26, 1), (27, 1), (28, 1), (29, 1), (30, 1), (31, 1)] := by kernel_rfl
theorem layB_149 : layB cfg.P 149 = some [(0, 1), (1, 1), (2, 1), (3, 1), (4, 1), (5, 1), (6, 1), (7, 1), (8, 1), (9, 1), (10, 1), (11, 1), (12, 1), (13, 1), (14, 1), (15, 1), (16, 1), (17, 1), (18, 1), (19, 1), (20, 1), (21, 1), (22, 1), (23, 1), (24, 1), (25, 1), (26, 1), (27, 1), (28, 1), (29, 1), (30, 1), (31, 1), (32, 1), (33, 1), (34, 1), (35, 1), (36, 1), (37, 1), (38, 1), (39, 1), (40, 1), (41, 1), (42, 1), (43, 1), (44, 1), (45, 1), (46, 1), (47, 1), (48, 1), (49, 1), (50, 1), (51, 1), (52, 1), (53, 1), (54, 1), (55, 1), (56, 1), (57, 1), (58, 1), (59, 1), (60, 1), (61, 1), (62, 1), (63, 1)] := by kernel_rfl
theorem zero_3 : zeroC cfg.P 3 = some [.int .i64 0] := by kernel_rfl
theorem zero_5 : zeroC cfg.P 5 = some [.int .u8 0] := by kernel_rfl
theorem zero_9 : zeroC cfg.P 9 = some [.str []] := by kernel_rfl
theorem zero_37 : zeroC cfg.P 37 = some [.sl .nil 0 []] := by kernel_rfl
theorem zero_39 : zeroC cfg.P 39 = some [.sl .nil 0 []] := by kernel_rfl
theorem zero_41 : zeroC cfg.P 41 = some [.int .i64 0, .int .i64 0] := by kernel_rfl
theorem zero_42 : zeroC cfg.P 42 = some [.sl .nil 0 []] := by kernel_rfl
theorem zero_61 : zeroC cfg.P 61 = some [.sl .nil 0 [], .bool false] := by kernel_rfl
theorem zero_70 : zeroC cfg.P 70 = some [.sl .nil 0 [], .bool false] := by kernel_rfl
theorem zero_78 : zeroC cfg.P 78 = some [.bool false, .sl .nil 0 []] := by kernel_rfl
theorem zero_118 : zeroC cfg.P 118 = some [.int .u8 0, .int .u8 0, .int .u8 0, .int .u8 0, .int .u8 0, .int .u8 0, .int .u8 0, .int .u8 0, .int .u8 0, .int .u8 0, .int .u8 0, .int .u8 0, .int .u8 0, .int .u8 0, .int .u8 0, .int .u8 0, .int .u8 0, .int .u8 0, .int .u8 0, .int .u8 0, .int .u8 0, .int .u8 0, .int .u8 0, .int .u8 0] := by kernel_rfl
theorem zero_132 : zeroC cfg.P 132 = some [.int .u64 0, .int .u64 0, .int .u64 0, .int .u64 0, .int .u64 0, .int .u64 0, .int .u64 0, .int .u64 0, .int .u64 0, .int .u64 0, .int .u64 0, .int .u64 0, .int .u64 0, .int .u64 0, .int .u64 0, .int .u64 0, .int .u64 0, .int .u64 0, .int .u64 0, .int .u64 0] := by kernel_rfl
theorem zero_134 : zeroC cfg.P 134 = some [.int .u8 0, .int .u8 0, .int .u8 0, .int .u8 0, .int .u8 0, .int .u8 0, .int .u8 0, .int .u8 0, .int .u8 0, .int .u8 0, .int .u8 0, .int .u8 0, .int .u8 0, .int .u8 0, .int .u8 0, .int .u8 0, .int .u8 0, .int .u8 0, .int .u8 0, .int .u8 0, .int .u8 0, .int .u8 0, .int .u8 0, .int .u8 0, .int .u8 0, .int .u8 0, .int .u8 0, .int .u8 0, .int .u8 0, .int .u8 0, .int .u8 0, .int .u8 0, .int .u8 0, .int .u8 0, .int .u8 0, .int .u8 0, .int .u8 0, .int .u8 0, .int .u8 0, .int .u8 0, .int .u8 0, .int .u8 0, .int .u8 0, .int .u8 0, .int .u8 0, .int .u8 0, .int .u8 0, .int .u8 0, .int .u8 0, .int .u8 0, .int .u8 0, .int .u8 0, .int .u8 0, .int .u8 0, .int .u8 0, .int .u8 0, .int .u8 0, .int .u8 0, .int .u8 0, .int .u8 0, .int .u8 0, .int .u8 0, .int .u8 0, .int .u8 0, .int .u8 0] := by kernel_rfl
theorem zero_140 : zeroC cfg.P 140 = some [.str [], .str [], .nilif] := by kernel_rfl
theorem zero_147 : zeroC cfg.P 147 = some [.str []] := by kernel_rfl
theorem zero_148 : zeroC cfg.P 148 = some [.int .u8 0, .int .u8 0, .int .u8 0, .int .u8 0, .int .u8 0, .int .u8 0, .int .u8 0, .int .u8 0, .int .u8 0, .int .u8 0, .int .u8 0, .int .u8 0, .int .u8 0, .int .u8 0, .int .u8 0, .int .u8 0, .int .u8 0, .int .u8 0, .int .u8 0, .int .u8 0, .int .u8 0, .int .u8 0, .int .u8 0, .int .u8 0, .int .u8 0, .int .u8 0, .int .u8 0, .int .u8 0, .int .u8 0, .int .u8 0, .int .u8 0, .int .u8 0] := by kernel_rfl
theorem zero_149 : zeroC cfg.P 149 = some [.int .u8 0, .int .u8 0, .int .u8 0, .int .u8 0, .int .u8 0, .int .u8 0, .int .u8 0, .int .u8 0, .int .u8 0, .int .u8 0, .int .u8 0, .int .u8 0, .int .u8 0, .int .u8 0, .int .u8 0, .int .u8 0, .int .u8 0, .int .u8 0, .int .u8 0, .int .u8 0, .int .u8 0, .int .u8 0, .int .u8 0, .int .u8 0, .int .u8 0, .int .u8 0, .int .u8 0, .int .u8 0, .int .u8 0, .int .u8 0, .int .u8 0, .int .u8 0, .int .u8 0, .int .u8 0, .int .u8 0, .int .u8 0, .int .u8 0, .int .u8 0, .int .u8 0, .int .u8 0, .int .u8 0, .int .u8 0, .int .u8 0, .int .u8 0, .int .u8 0, .int .u8 0, .int .u8 0, .int .u8 0, .int .u8 0, .int .u8 0, .int .u8 0, .int .u8 0, .int .u8 0, .int .u8 0, .int .u8 0, .int .u8 0, .int .u8 0, .int .u8 0, .int .u8 0, .int .u8 0, .int .u8 0, .int .u8 0, .int .u8 0, .int .u8 0] := by kernel_rfl
theorem eqk_4 : eqKind cfg.P 4 = 1 := by kernel_rfl
theorem eqf_41 : eqFlat cfg.P 41 = some [2, 2] := by kernel_rfl
theorem eqk_90 : eqKind cfg.P 90 = 2 := by kernel_rfl
theorem eqk_95 : eqKind cfg.P 95 = 4 := by kernel_rfl
theorem conv_2_119 : convKind cfg.P 2 119 = (1, .u64) := by kernel_rfl
theorem conv_3_5 : convKind cfg.P 3 5 = (1, .u8) := by kernel_rfl
theorem conv_3_86 : convKind cfg.P 3 86 = (1, .u64) := by kernel_rfl
theorem conv_3_119 : convKind cfg.P 3 119 = (1, .u64) := by kernel_rfl
theorem conv_5_3 : convKind cfg.P 5 3 = (1, .i64) := by kernel_rfl
theorem conv_5_21 : convKind cfg.P 5 21 = (1, .i32) := by kernel_rfl
theorem conv_5_119 : convKind cfg.P 5 119 = (1, .u64) := by kernel_rfl
theorem conv_9_43 : convKind cfg.P 9 43 = (2, .u8) := by kernel_rfl
theorem conv_21_3 : convKind cfg.P 21 3 = (1, .i64) := by kernel_rfl
theorem conv_21_5 : convKind cfg.P 21 5 = (1, .u8) := by kernel_rfl
theorem conv_21_9 : convKind cfg.P 21 9 = (5, .u8) := by kernel_rfl
theorem conv_43_9 : convKind cfg.P 43 9 = (3, .u8) := by kernel_rfl
theorem conv_86_133 : convKind cfg.P 86 133 = (1, .u32) := by kernel_rfl
theorem conv_90_112 : convKind cfg.P 90 112 = (0, .u8) := by kernel_rfl
theorem conv_112_90 : convKind cfg.P 112 90 = (0, .u8) := by kernel_rfl
theorem conv_119_2 : convKind cfg.P 119 2 = (1, .i64) := by kernel_rfl
theorem conv_119_5 : convKind cfg.P 119 5 = (1, .u8) := by kernel_rfl
theorem conv_119_133 : convKind cfg.P 119 133 = (1, .u32) := by kernel_rfl
theorem conv_133_5 : convKind cfg.P 133 5 = (1, .u8) := by kernel_rfl
theorem und_9 : cfg.P.underlying 9 = some (.string) := by kernel_rfl
theorem und_22 : cfg.P.underlying 22 = some (.slice 37) := by kernel_rfl
theorem und_26 : cfg.P.underlying 26 = some (.slice 42) := by kernel_rfl
theorem und_36 : cfg.P.underlying 36 = some (.slice 39) := by kernel_rfl
theorem und_37 : cfg.P.underlying 37 = some (.slice 39) := by kernel_rfl
theorem und_38 : cfg.P.underlying 38 = some (.slice 41) := by kernel_rfl
theorem und_39 : cfg.P.underlying 39 = some (.slice 41) := by kernel_rfl
theorem und_42 : cfg.P.underlying 42 = some (.slice 39) := by kernel_rfl
theorem und_43 : cfg.P.underlying 43 = some (.slice 5) := by kernel_rfl
theorem und_49 : cfg.P.underlying 49 = some (.slice 3) := by kernel_rfl
theorem und_58 : cfg.P.underlying 58 = some (.slice 9) := by kernel_rfl
theorem und_118 : cfg.P.underlying 118 = some (.array 24 5) := by kernel_rfl
theorem und_132 : cfg.P.underlying 132 = some (.array 20 119) := by kernel_rfl
theorem und_134 : cfg.P.underlying 134 = some (.array 65 5) := by kernel_rfl
theorem und_148 : cfg.P.underlying 148 = some (.array 32 5) := by kernel_rfl
theorem und_149 : cfg.P.underlying 149 = some (.array 64 5) := by kernel_rfl
theorem ifc_9 : isIface cfg.P 9 = false := by kernel_rfl
theorem ifc_124 : isIface cfg.P 124 = false := by kernel_rfl
theorem ifc_127 : isIface cfg.P 127 = false := by kernel_rfl
theorem ifc_145 : isIface cfg.P 145 = false := by kernel_rfl
theorem elemI_22 : elemI cfg.P 22 = some (37, 1, 5629499534213) := by kernel_rfl
theorem elemI_26 : elemI cfg.P 26 = some (42, 1, 5629499534213) := by kernel_rfl
theorem elemI_36 : elemI cfg.P 36 = some (39, 1, 5629499534213) := by kernel_rfl
theorem elemI_38 : elemI cfg.P 38 = some (41, 2, 8278675785607) := by kernel_rfl
theorem elemI_39 : elemI cfg.P 39 = some (41, 2, 8278675785607) := by kernel_rfl
theorem elemI_43 : elemI cfg.P 43 = some (5, 1, 70368744177664) := by kernel_rfl
theorem elemI_49 : elemI cfg.P 49 = some (3, 1, 15637498706147) := by kernel_rfl
theorem elemI_58 : elemI cfg.P 58 = some (9, 1, 8278675785607) := by kernel_rfl
theorem by_3 : by_ cfg.P 3 = 8 := by kernel_rfl
theorem by_5 : by_ cfg.P 5 = 1 := by kernel_rfl
theorem by_9 : by_ cfg.P 9 = 16 := by kernel_rfl
theorem by_37 : by_ cfg.P 37 = 24 := by kernel_rfl
theorem by_39 : by_ cfg.P 39 = 24 := by kernel_rfl
theorem by_41 : by_ cfg.P 41 = 16 := by kernel_rfl
theorem by_42 : by_ cfg.P 42 = 24 := by kernel_rfl
theorem fn_3 : cfg.P.funcs[3]? = some Tryz.f3 := by kernel_rfl
theorem fn_4 : cfg.P.funcs[4]? = some Tryz.f4 := by kernel_rfl
theorem fn_5 : cfg.P.funcs[5]? = some Tryz.f5 := by kernel_rfl
theorem fn_6 : cfg.P.funcs[6]? = some Tryz.f6 := by kernel_rfl
theorem fn_7 : cfg.P.funcs[7]? = some Tryz.f7 := by kernel_rfl
theorem fn_8 : cfg.P.funcs[8]? = some Tryz.f8 := by kernel_rfl
theorem fn_9 : cfg.P.funcs[9]? = some Tryz.f9 := by kernel_rfl
theorem fn_10 : cfg.P.funcs[10]? = some Tryz.f10 := by kernel_rfl
theorem fn_11 : cfg.P.funcs[11]? = some Tryz.f11 := by kernel_rfl
theorem fn_12 : cfg.P.funcs[12]? = some Tryz.f12 := by kernel_rfl
theorem fn_13 : cfg.P.funcs[13]? = some Tryz.f13 := by kernel_rfl
theorem fn_14 : cfg.P.funcs[14]? = some Tryz.f14 := by kernel_rfl
theorem fn_15 : cfg.P.funcs[15]? = some Tryz.f15 := by kernel_rfl
theorem fn_16 : cfg.P.funcs[16]? = some Tryz.f16 := by kernel_rfl
theorem fn_17 : cfg.P.funcs[17]? = some Tryz.f17 := by kernel_rfl
theorem fn_18 : cfg.P.funcs[18]? = some Tryz.f18 := by kernel_rfl
theorem fn_19 : cfg.P.funcs[19]? = some Tryz.f19 := by kernel_rfl
theorem fn_20 : cfg.P.funcs[20]? = some Tryz.f20 := by kernel_rfl
theorem fn_21 : cfg.P.funcs[21]? = some Tryz.f21 := by kernel_rfl
theorem fn_22 : cfg.P.funcs[22]? = some Tryz.f22 := by kernel_rfl
theorem fn_23 : cfg.P.funcs[23]? = some Tryz.f23 := by kernel_rfl
theorem fn_24 : cfg.P.funcs[24]? = some Tryz.f24 := by kernel_rfl
theorem fn_25 : cfg.P.funcs[25]? = some Tryz.f25 := by kernel_rfl
theorem fn_26 : cfg.P.funcs[26]? = some Tryz.f26 := by kernel_rfl
theorem fn_27 : cfg.P.funcs[27]? = some Tryz.f27 := by kernel_rfl
theorem fn_29 : cfg.P.funcs[29]? = some Tryz.f29 := by kernel_rfl
theorem fn_30 : cfg.P.funcs[30]? = some Tryz.f30 := by kernel_rfl
theorem fn_31 : cfg.P.funcs[31]? = some Tryz.f31 := by kernel_rfl
theorem fn_32 : cfg.P.funcs[32]? = some Tryz.f32 := by kernel_rfl
theorem fn_33 : cfg.P.funcs[33]? = some Tryz.f33 := by kernel_rfl
theorem fn_34 : cfg.P.funcs[34]? = some Tryz.f34 := by kernel_rfl
theorem fn_35 : cfg.P.funcs[35]? = some Tryz.f35 := by kernel_rfl
theorem fn_37 : cfg.P.funcs[37]? = some Tryz.f37 := by kernel_rfl
theorem fn_38 : cfg.P.funcs[38]? = some Tryz.f38 := by kernel_rfl
theorem fn_39 : cfg.P.funcs[39]? = some Tryz.f39 := by kernel_rfl
theorem fn_40 : cfg.P.funcs[40]? = some Tryz.f40 := by kernel_rfl
theorem fn_41 : cfg.P.funcs[41]? = some Tryz.f41 := by kernel_rfl
theorem fn_43 : cfg.P.funcs[43]? = some Tryz.f43 := by kernel_rfl
theorem fn_44 : cfg.P.funcs[44]? = some Tryz.f44 := by kernel_rfl
theorem fn_45 : cfg.P.funcs[45]? = some Tryz.f45 := by kernel_rfl
theorem fn_46 : cfg.P.funcs[46]? = some Tryz.f46 := by kernel_rfl
theorem fn_47 : cfg.P.funcs[47]? = some Tryz.f47 := by kernel_rfl
theorem fn_48 : cfg.P.funcs[48]? = some Tryz.f48 := by kernel_rfl
theorem fn_50 : cfg.P.funcs[50]? = some Tryz.f50 := by kernel_rfl
theorem fn_52 : cfg.P.funcs[52]? = some Tryz.f52 := by kernel_rfl
theorem fn_53 : cfg.P.funcs[53]? = some Tryz.f53 := by kernel_rfl
theorem fn_55 : cfg.P.funcs[55]? = some Tryz.f55 := by kernel_rfl
theorem fn_56 : cfg.P.funcs[56]? = some Tryz.f56 := by kernel_rfl
theorem fn_57 : cfg.P.funcs[57]? = some Tryz.f57 := by kernel_rfl
theorem fn_58 : cfg.P.funcs[58]? = some Tryz.f58 := by kernel_rfl
theorem fn_62 : cfg.P.funcs[62]? = some Tryz.f62 := by kernel_rfl
theorem fn_63 : cfg.P.funcs[63]? = some Tryz.f63 := by kernel_rfl
theorem fn_64 : cfg.P.funcs[64]? = some Tryz.f64 := by kernel_rfl
theorem fn_66 : cfg.P.funcs[66]? = some Tryz.f66 := by kernel_rfl
theorem fn_69 : cfg.P.funcs[69]? = some Tryz.f69 := by kernel_rfl
theorem fn_70 : cfg.P.funcs[70]? = some Tryz.f70 := by kernel_rfl
theorem fn_73 : cfg.P.funcs[73]? = some Tryz.f73 := by kernel_rfl
theorem fn_75 : cfg.P.funcs[75]? = some Tryz.f75 := by kernel_rfl
theorem fn_76 : cfg.P.funcs[76]? = some Tryz.f76 := by kernel_rfl
theorem fn_77 : cfg.P.funcs[77]? = some Tryz.f77 := by kernel_rfl
theorem fn_78 : cfg.P.funcs[78]? = some Tryz.f78 := by kernel_rfl
theorem fn_79 : cfg.P.funcs[79]? = some Tryz.f79 := by kernel_rfl
theorem fn_80 : cfg.P.funcs[80]? = some Tryz.f80 := by kernel_rfl
theorem fn_81 : cfg.P.funcs[81]? = some Tryz.f81 := by kernel_rfl
theorem fn_82 : cfg.P.funcs[82]? = some Tryz.f82 := by kernel_rfl
theorem fn_83 : cfg.P.funcs[83]? = some Tryz.f83 := by kernel_rfl
theorem fn_84 : cfg.P.funcs[84]? = some Tryz.f84 := by kernel_rfl
theorem fn_85 : cfg.P.funcs[85]? = some Tryz.f85 := by kernel_rfl
theorem fn_86 : cfg.P.funcs[86]? = some Tryz.f86 := by kernel_rfl
theorem fn_87 : cfg.P.funcs[87]? = some Tryz.f87 := by kernel_rfl
theorem fn_88 : cfg.P.funcs[88]? = some Tryz.f88 := by kernel_rfl
theorem fn_89 : cfg.P.funcs[89]? = some Tryz.f89 := by kernel_rfl
theorem fn_90 : cfg.P.funcs[90]? = some Tryz.f90 := by kernel_rfl
theorem fn_91 : cfg.P.funcs[91]? = some Tryz.f91 := by kernel_rfl
theorem fn_92 : cfg.P.funcs[92]? = some Tryz.f92 := by kernel_rfl
theorem fn_93 : cfg.P.funcs[93]? = some Tryz.f93 := by kernel_rfl
theorem fn_95 : cfg.P.funcs[95]? = some Tryz.f95 := by kernel_rfl
theorem fn_96 : cfg.P.funcs[96]? = some Tryz.f96 := by kernel_rfl
theorem fn_97 : cfg.P.funcs[97]? = some Tryz.f97 := by kernel_rfl
theorem fn_98 : cfg.P.funcs[98]? = some Tryz.f98 := by kernel_rfl
theorem fn_99 : cfg.P.funcs[99]? = some Tryz.f99 := by kernel_rfl
theorem fn_127 : cfg.P.funcs[127]? = some Tryz.f127 := by kernel_rfl
theorem ok_3 : cfg.ok 3 = true := by kernel_rfl
theorem prim_3 : cfg.prim 3 = none := rfl
theorem ok_4 : cfg.ok 4 = true := by kernel_rfl
theorem prim_4 : cfg.prim 4 = none := rfl
theorem ok_5 : cfg.ok 5 = true := by kernel_rfl
theorem prim_5 : cfg.prim 5 = none := rfl
theorem ok_6 : cfg.ok 6 = true := by kernel_rfl
theorem prim_6 : cfg.prim 6 = none := rfl
theorem ok_7 : cfg.ok 7 = true := by kernel_rfl
theorem prim_7 : cfg.prim 7 = none := rfl
theorem ok_8 : cfg.ok 8 = true := by kernel_rfl
theorem prim_8 : cfg.prim 8 = none := rfl
theorem ok_9 : cfg.ok 9 = true := by kernel_rfl
theorem prim_9 : cfg.prim 9 = none := rfl
theorem ok_10 : cfg.ok 10 = true := by kernel_rfl
theorem prim_10 : cfg.prim 10 = none := rfl
theorem ok_11 : cfg.ok 11 = true := by kernel_rfl
theorem prim_11 : cfg.prim 11 = none := rfl
theorem ok_12 : cfg.ok 12 = true := by kernel_rfl
theorem prim_12 : cfg.prim 12 = none := rfl
theorem ok_13 : cfg.ok 13 = true := by kernel_rfl
theorem prim_13 : cfg.prim 13 = none := rfl
theorem ok_14 : cfg.ok 14 = true := by kernel_rfl
theorem prim_14 : cfg.prim 14 = none := rfl
theorem ok_15 : cfg.ok 15 = true := by kernel_rfl
theorem prim_15 : cfg.prim 15 = none := rfl
theorem ok_16 : cfg.ok 16 = true := by kernel_rfl
theorem prim_16 : cfg.prim 16 = none := rfl
theorem ok_17 : cfg.ok 17 = true := by kernel_rfl
theorem prim_17 : cfg.prim 17 = none := rfl
theorem ok_18 : cfg.ok 18 = true := by kernel_rfl
theorem prim_18 : cfg.prim 18 = none := rfl
theorem ok_19 : cfg.ok 19 = true := by kernel_rfl
theorem prim_19 : cfg.prim 19 = none := rfl
theorem ok_20 : cfg.ok 20 = true := by kernel_rfl
theorem prim_20 : cfg.prim 20 = none := rfl
theorem ok_21 : cfg.ok 21 = true := by kernel_rfl
theorem prim_21 : cfg.prim 21 = none := rfl
theorem ok_22 : cfg.ok 22 = true := by kernel_rfl
theorem prim_22 : cfg.prim 22 = none := rfl
theorem ok_23 : cfg.ok 23 = true := by kernel_rfl
theorem prim_23 : cfg.prim 23 = none := rfl
theorem ok_24 : cfg.ok 24 = true := by kernel_rfl
theorem prim_24 : cfg.prim 24 = none := rfl
theorem ok_25 : cfg.ok 25 = true := by kernel_rfl
theorem prim_25 : cfg.prim 25 = none := rfl
theorem ok_26 : cfg.ok 26 = true := by kernel_rfl
theorem prim_26 : cfg.prim 26 = none := rfl
theorem ok_27 : cfg.ok 27 = true := by kernel_rfl
theorem prim_27 : cfg.prim 27 = none := rfl
theorem ok_29 : cfg.ok 29 = true := by kernel_rfl
theorem prim_29 : cfg.prim 29 = none := rfl
theorem ok_30 : cfg.ok 30 = true := by kernel_rfl
theorem prim_30 : cfg.prim 30 = none := rfl
theorem ok_31 : cfg.ok 31 = true := by kernel_rfl
theorem prim_31 : cfg.prim 31 = none := rfl
theorem ok_32 : cfg.ok 32 = true := by kernel_rfl
theorem prim_32 : cfg.prim 32 = none := rfl
theorem ok_33 : cfg.ok 33 = true := by kernel_rfl
theorem prim_33 : cfg.prim 33 = none := rfl
theorem ok_34 : cfg.ok 34 = true := by kernel_rfl
theorem prim_34 : cfg.prim 34 = none := rfl
theorem ok_35 : cfg.ok 35 = true := by kernel_rfl
theorem prim_35 : cfg.prim 35 = none := rfl
theorem ok_37 : cfg.ok 37 = true := by kernel_rfl
theorem prim_37 : cfg.prim 37 = none := rfl
theorem ok_38 : cfg.ok 38 = true := by kernel_rfl
theorem prim_38 : cfg.prim 38 = none := rfl
theorem ok_39 : cfg.ok 39 = true := by kernel_rfl
theorem prim_39 : cfg.prim 39 = none := rfl
theorem ok_40 : cfg.ok 40 = true := by kernel_rfl
theorem prim_40 : cfg.prim 40 = none := rfl
theorem ok_41 : cfg.ok 41 = true := by kernel_rfl
theorem prim_41 : cfg.prim 41 = none := rfl
theorem ok_43 : cfg.ok 43 = true := by kernel_rfl
theorem prim_43 : cfg.prim 43 = none := rfl
theorem ok_44 : cfg.ok 44 = true := by kernel_rfl
theorem prim_44 : cfg.prim 44 = none := rfl
theorem ok_45 : cfg.ok 45 = true := by kernel_rfl
theorem prim_45 : cfg.prim 45 = none := rfl
theorem ok_46 : cfg.ok 46 = true := by kernel_rfl
theorem prim_46 : cfg.prim 46 = none := rfl
theorem ok_47 : cfg.ok 47 = true := by kernel_rfl
theorem prim_47 : cfg.prim 47 = none := rfl
theorem ok_48 : cfg.ok 48 = true := by kernel_rfl
theorem prim_48 : cfg.prim 48 = none := rfl
theorem ok_50 : cfg.ok 50 = true := by kernel_rfl
theorem prim_50 : cfg.prim 50 = none := rfl
theorem ok_52 : cfg.ok 52 = true := by kernel_rfl
theorem prim_52 : cfg.prim 52 = none := rfl
theorem ok_53 : cfg.ok 53 = true := by kernel_rfl
theorem prim_53 : cfg.prim 53 = none := rfl
theorem ok_55 : cfg.ok 55 = true := by kernel_rfl
theorem prim_55 : cfg.prim 55 = none := rfl
theorem ok_56 : cfg.ok 56 = true := by kernel_rfl
theorem prim_56 : cfg.prim 56 = none := rfl
theorem ok_57 : cfg.ok 57 = true := by kernel_rfl
theorem prim_57 : cfg.prim 57 = none := rfl
theorem ok_58 : cfg.ok 58 = true := by kernel_rfl
theorem prim_58 : cfg.prim 58 = none := rfl
theorem ok_62 : cfg.ok 62 = true := by kernel_rfl
theorem prim_62 : cfg.prim 62 = none := rfl
theorem ok_63 : cfg.ok 63 = true := by kernel_rfl
theorem prim_63 : cfg.prim 63 = none := rfl
theorem ok_64 : cfg.ok 64 = true := by kernel_rfl
theorem prim_64 : cfg.prim 64 = none := rfl
theorem ok_66 : cfg.ok 66 = true := by kernel_rfl
theorem prim_66 : cfg.prim 66 = none := rfl
theorem ok_69 : cfg.ok 69 = true := by kernel_rfl
theorem prim_69 : cfg.prim 69 = none := rfl
theorem ok_70 : cfg.ok 70 = true := by kernel_rfl
theorem prim_70 : cfg.prim 70 = none := rfl
theorem ok_73 : cfg.ok 73 = true := by kernel_rfl
theorem prim_73 : cfg.prim 73 = none := rfl
theorem ok_75 : cfg.ok 75 = true := by kernel_rfl
theorem prim_75 : cfg.prim 75 = none := rfl
theorem ok_76 : cfg.ok 76 = true := by kernel_rfl
theorem prim_76 : cfg.prim 76 = none := rfl
theorem ok_77 : cfg.ok 77 = true := by kernel_rfl
theorem prim_77 : cfg.prim 77 = none := rfl
theorem ok_78 : cfg.ok 78 = true := by kernel_rfl
theorem prim_78 : cfg.prim 78 = none := rfl
theorem ok_79 : cfg.ok 79 = true := by kernel_rfl
theorem prim_79 : cfg.prim 79 = none := rfl
theorem ok_80 : cfg.ok 80 = true := by kernel_rfl
theorem prim_80 : cfg.prim 80 = none := rfl
theorem ok_81 : cfg.ok 81 = true := by kernel_rfl
theorem prim_81 : cfg.prim 81 = none := rfl
theorem ok_82 : cfg.ok 82 = true := by kernel_rfl
theorem prim_82 : cfg.prim 82 = none := rfl
theorem ok_83 : cfg.ok 83 = true := by kernel_rfl
theorem prim_83 : cfg.prim 83 = none := rfl
theorem ok_84 : cfg.ok 84 = true := by kernel_rfl
theorem prim_84 : cfg.prim 84 = none := rfl
theorem ok_85 : cfg.ok 85 = true := by kernel_rfl
theorem prim_85 : cfg.prim 85 = none := rfl
theorem ok_86 : cfg.ok 86 = true := by kernel_rfl
theorem prim_86 : cfg.prim 86 = none := rfl
theorem ok_87 : cfg.ok 87 = true := by kernel_rfl
theorem prim_87 : cfg.prim 87 = none := rfl
theorem ok_88 : cfg.ok 88 = true := by kernel_rfl
theorem prim_88 : cfg.prim 88 = none := rfl
theorem ok_89 : cfg.ok 89 = true := by kernel_rfl
theorem prim_89 : cfg.prim 89 = none := rfl
theorem ok_90 : cfg.ok 90 = true := by kernel_rfl
theorem prim_90 : cfg.prim 90 = none := rfl
theorem ok_91 : cfg.ok 91 = true := by kernel_rfl
theorem prim_91 : cfg.prim 91 = none := rfl
theorem ok_92 : cfg.ok 92 = true := by kernel_rfl
theorem prim_92 : cfg.prim 92 = none := rfl
theorem ok_93 : cfg.ok 93 = true := by kernel_rfl
theorem prim_93 : cfg.prim 93 = none := rfl
theorem ok_95 : cfg.ok 95 = true := by kernel_rfl
theorem prim_95 : cfg.prim 95 = none := rfl
theorem ok_96 : cfg.ok 96 = true := by kernel_rfl
theorem prim_96 : cfg.prim 96 = none := rfl
theorem ok_97 : cfg.ok 97 = true := by kernel_rfl
theorem prim_97 : cfg.prim 97 = none := rfl
theorem ok_98 : cfg.ok 98 = true := by kernel_rfl
theorem prim_98 : cfg.prim 98 = none := rfl
theorem ok_99 : cfg.ok 99 = true := by kernel_rfl
theorem prim_99 : cfg.prim 99 = none := rfl
theorem ok_127 : cfg.ok 127 = true := by kernel_rfl
theorem prim_127 : cfg.prim 127 = none := rfl
end Go.Proofs.YtbfllngekcckeaaGreatDoor
