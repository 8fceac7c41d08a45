/- The table of this seat's types, for the engine; its facts by the kernel. -/
import Derived.Test.YtbiolfeincepoaaGreatDoorLs
import Derived.Test.YtbiolfeincepoaaGreatDoorProg
namespace Go.Proofs.YtbiolfeincepoaaGreatDoor.Eng
open Go Go.RowKit
set_option maxRecDepth 20000
def tab : Tab where
  tk := [.other, .func, .int .i64, .int .i64, .bool, .int .u8, .int .u8, .struct 4, .struct 4, .str, .str, .str, .int .u64, .struct 2, .struct 2, .ptr, .ptr, .ptr, .struct 1, .struct 1, .iface, .int .i32, .slice 5 1 1, .slice 22 1 24, .func, .ptr, .slice 99 1 24, .slice 101 1 24, .slice 103 1 24, .slice 23 1 24, .slice 106 1 24, .slice 108 1 24, .slice 110 1 24, .slice 112 1 24, .slice 114 1 24, .slice 116 1 24, .slice 118 1 24, .slice 120 1 24, .slice 122 1 24, .slice 124 1 24, .slice 126 1 24, .slice 128 1 24, .struct 53, .struct 53, .func, .int .i64, .other, .func, .func, .func, .other, .func, .func, .other, .func, .func, .func, .ptr, .other, .func, .func, .arr 16 5 1 16, .func, .ptr, .other, .func, .func, .func, .other, .func, .arr 256 5 1 256, .arr 16 5 1 16, .arr 15 71 16 240, .struct 496, .struct 496, .func, .arr 4 5 1 4, .arr 4 5 1 4, .arr 60 77 4 240, .func, .func, .func, .func, .func, .func, .func, .func, .func, .int .u32, .func, .func, .arr 240 5 1 240, .struct 752, .struct 752, .func, .func, .int .u64, .func, .func, .slice 4 1 1, .func, .slice 3 1 8, .func, .slice 9 1 16, .func, .func, .slice 160 4 32, .func, .slice 140 3 24, .func, .slice 164 3 56, .func, .slice 167 8 80, .func, .slice 170 2 48, .func, .slice 173 3 56, .func, .slice 176 2 32, .func, .slice 179 8 80, .func, .slice 182 2 16, .func, .slice 185 3 40, .func, .slice 190 14 176, .func, .slice 193 21 248, .arr 5 3 1 5, .func, .arr 4 5 1 4, .func, .int .u64, .func, .func, .func, .struct 2, .struct 2, .struct 3, .struct 3, .func, .func, .func, .func, .func, .func, .func, .func, .func, .func, .func, .func, .func, .func, .func, .func, .struct 3, .struct 3, .struct 4, .struct 4, .func, .func, .struct 3, .struct 3, .func, .struct 8, .struct 8, .func, .struct 2, .struct 2, .func, .struct 3, .struct 3, .func, .struct 2, .struct 2, .func, .struct 8, .struct 8, .func, .struct 2, .struct 2, .func, .struct 3, .struct 3, .func, .struct 2, .struct 2, .struct 14, .struct 14, .func, .struct 21, .struct 21, .func, .func, .func, .func, .func, .func, .func, .func, .func, .func, .func, .func, .func, .func, .arr 24 5 1 24, .func, .func, .other, .func, .func, .arr 20 133 1 20, .arr 65 5 1 65, .func, .func, .func, .arr 32 5 1 32, .arr 64 5 1 64, .func, .struct 4, .struct 4, .arr 0 16 1 0, .struct 0, .struct 0, .func, .int .u8, .int .u8, .func, .ptr, .int .i32, .int .i32, .struct 11, .struct 11, .other]
  zero := [none, some ([.fnil]), some ([.i .i64 0]), some ([.i .i64 0]), some ([.b false]), some ([.u8 0]), some ([.u8 0]), some ([.i .i64 0, .i .i64 0, .b false, .u8 0]), some ([.i .i64 0, .i .i64 0, .b false, .u8 0]), some ([.str ⟨#[]⟩]), some ([.str ⟨#[]⟩]), some ([.str ⟨#[]⟩]), some ([.u64 0]), some ([.str ⟨#[]⟩, .u64 0]), some ([.str ⟨#[]⟩, .u64 0]), some ([.pn]), some ([.pn]), some ([.pn]), some ([.pn]), some ([.pn]), some ([.inil]), some ([.i .i32 0]), some ([.sn]), some ([.sn]), some ([.fnil]), some ([.pn]), some ([.sn]), some ([.sn]), some ([.sn]), some ([.sn]), some ([.sn]), some ([.sn]), some ([.sn]), some ([.sn]), some ([.sn]), some ([.sn]), some ([.sn]), some ([.sn]), some ([.sn]), some ([.sn]), some ([.sn]), some ([.sn]), some ([.i .i64 0, .i .i64 0] ++ List.replicate 51 (.sn)), some ([.i .i64 0, .i .i64 0] ++ List.replicate 51 (.sn)), some ([.fnil]), some ([.i .i64 0]), none, some ([.fnil]), some ([.fnil]), some ([.fnil]), none, some ([.fnil]), some ([.fnil]), none, some ([.fnil]), some ([.fnil]), some ([.fnil]), some ([.pn]), none, some ([.fnil]), some ([.fnil]), some (List.replicate 16 (.u8 0)), some ([.fnil]), some ([.pn]), none, some ([.fnil]), some ([.fnil]), some ([.fnil]), none, some ([.fnil]), some (List.replicate 256 (.u8 0)), some (List.replicate 16 (.u8 0)), some (List.replicate 240 (.u8 0)), some (List.replicate 496 (.u8 0)), some (List.replicate 496 (.u8 0)), some ([.fnil]), some ([.u8 0, .u8 0, .u8 0, .u8 0]), some ([.u8 0, .u8 0, .u8 0, .u8 0]), some (List.replicate 240 (.u8 0)), some ([.fnil]), some ([.fnil]), some ([.fnil]), some ([.fnil]), some ([.fnil]), some ([.fnil]), some ([.fnil]), some ([.fnil]), some ([.fnil]), some ([.u32 0]), some ([.fnil]), some ([.fnil]), some (List.replicate 240 (.u8 0)), some (List.replicate 752 (.u8 0)), some (List.replicate 752 (.u8 0)), some ([.fnil]), some ([.fnil]), some ([.u64 0]), some ([.fnil]), some ([.fnil]), some ([.sn]), some ([.fnil]), some ([.sn]), some ([.fnil]), some ([.sn]), some ([.fnil]), some ([.fnil]), some ([.sn]), some ([.fnil]), some ([.sn]), some ([.fnil]), some ([.sn]), some ([.fnil]), some ([.sn]), some ([.fnil]), some ([.sn]), some ([.fnil]), some ([.sn]), some ([.fnil]), some ([.sn]), some ([.fnil]), some ([.sn]), some ([.fnil]), some ([.sn]), some ([.fnil]), some ([.sn]), some ([.fnil]), some ([.sn]), some ([.fnil]), some ([.sn]), some ([.i .i64 0, .i .i64 0, .i .i64 0, .i .i64 0, .i .i64 0]), some ([.fnil]), some ([.u8 0, .u8 0, .u8 0, .u8 0]), some ([.fnil]), some ([.u64 0]), some ([.fnil]), some ([.fnil]), some ([.fnil]), some ([.i .i64 0, .i .i64 0]), some ([.i .i64 0, .i .i64 0]), some ([.i .i64 0, .i .i64 0, .i .i64 0]), some ([.i .i64 0, .i .i64 0, .i .i64 0]), some ([.fnil]), some ([.fnil]), some ([.fnil]), some ([.fnil]), some ([.fnil]), some ([.fnil]), some ([.fnil]), some ([.fnil]), some ([.fnil]), some ([.fnil]), some ([.fnil]), some ([.fnil]), some ([.fnil]), some ([.fnil]), some ([.fnil]), some ([.fnil]), some ([.i .i64 0, .u64 0, .u64 0]), some ([.i .i64 0, .u64 0, .u64 0]), some ([.i .i64 0, .u64 0, .u64 0, .i .i64 0]), some ([.i .i64 0, .u64 0, .u64 0, .i .i64 0]), some ([.fnil]), some ([.fnil]), some ([.i .i64 0, .sn, .sn]), some ([.i .i64 0, .sn, .sn]), some ([.fnil]), some ([.sn, .i .i64 0, .i .i64 0, .i .i64 0, .u64 0, .u64 0, .i .i64 0, .i .i64 0]), some ([.sn, .i .i64 0, .i .i64 0, .i .i64 0, .u64 0, .u64 0, .i .i64 0, .i .i64 0]), some ([.fnil]), some ([.sn, .sn]), some ([.sn, .sn]), some ([.fnil]), some ([.sn, .sn, .b false]), some ([.sn, .sn, .b false]), some ([.fnil]), some ([.i .i64 0, .sn]), some ([.i .i64 0, .sn]), some ([.fnil]), some ([.i .i64 0, .i .i64 0, .i .i64 0, .sn, .i .i64 0, .u64 0, .u64 0, .i .i64 0]), some ([.i .i64 0, .i .i64 0, .i .i64 0, .sn, .i .i64 0, .u64 0, .u64 0, .i .i64 0]), some ([.fnil]), some ([.i .i64 0, .i .i64 0]), some ([.i .i64 0, .i .i64 0]), some ([.fnil]), some ([.i .i64 0, .i .i64 0, .sn]), some ([.i .i64 0, .i .i64 0, .sn]), some ([.fnil]), some ([.i .i64 0, .i .i64 0]), some ([.i .i64 0, .i .i64 0]), some ([.i .i64 0, .i .i64 0, .i .i64 0, .i .i64 0, .i .i64 0, .i .i64 0, .sn, .i .i64 0, .i .i64 0, .i .i64 0, .i .i64 0, .sn, .sn, .sn]), some ([.i .i64 0, .i .i64 0, .i .i64 0, .i .i64 0, .i .i64 0, .i .i64 0, .sn, .i .i64 0, .i .i64 0, .i .i64 0, .i .i64 0, .sn, .sn, .sn]), some ([.fnil]), some ([.i .i64 0, .i .i64 0, .i .i64 0, .i .i64 0, .i .i64 0, .i .i64 0, .sn, .i .i64 0, .sn, .sn, .sn, .i .i64 0, .i .i64 0, .i .i64 0, .u64 0, .u64 0, .i .i64 0, .i .i64 0, .i .i64 0, .i .i64 0, .sn]), some ([.i .i64 0, .i .i64 0, .i .i64 0, .i .i64 0, .i .i64 0, .i .i64 0, .sn, .i .i64 0, .sn, .sn, .sn, .i .i64 0, .i .i64 0, .i .i64 0, .u64 0, .u64 0, .i .i64 0, .i .i64 0, .i .i64 0, .i .i64 0, .sn]), some ([.fnil]), some ([.fnil]), some ([.fnil]), some ([.fnil]), some ([.fnil]), some ([.fnil]), some ([.fnil]), some ([.fnil]), some ([.fnil]), some ([.fnil]), some ([.fnil]), some ([.fnil]), some ([.fnil]), some ([.fnil]), some (List.replicate 24 (.u8 0)), some ([.fnil]), some ([.fnil]), none, some ([.fnil]), some ([.fnil]), some (List.replicate 20 (.u64 0)), some (List.replicate 65 (.u8 0)), some ([.fnil]), some ([.fnil]), some ([.fnil]), some (List.replicate 32 (.u8 0)), some (List.replicate 64 (.u8 0)), some ([.fnil]), some ([.pn, .pn, .pn, .str ⟨#[]⟩]), some ([.pn, .pn, .pn, .str ⟨#[]⟩]), some ([]), some ([]), some ([]), some ([.fnil]), some ([.u8 0]), some ([.u8 0]), some ([.fnil]), some ([.pn]), some ([.i .i32 0]), some ([.i .i32 0]), some ([.u64 0, .u64 0, .u32 0, .u8 0, .u8 0, .u8 0, .u8 0, .fnil, .pn, .i .i32 0, .i .i32 0]), some ([.u64 0, .u64 0, .u32 0, .u8 0, .u8 0, .u8 0, .u8 0, .fnil, .pn, .i .i32 0, .i .i32 0]), none]
  fo := [[], [], [], [], [], [], [], [(0, 1, 2), (1, 1, 3), (2, 1, 4), (3, 1, 6)], [(0, 1, 2), (1, 1, 3), (2, 1, 4), (3, 1, 6)], [], [], [], [], [(0, 1, 9), (1, 1, 12)], [(0, 1, 9), (1, 1, 12)], [], [], [], [(0, 1, 17)], [(0, 1, 17)], [], [], [], [], [], [], [], [], [], [], [], [], [], [], [], [], [], [], [], [], [], [], [(0, 1, 3), (1, 1, 3), (2, 1, 23), (3, 1, 23), (4, 1, 23), (5, 1, 26), (6, 1, 26), (7, 1, 26), (8, 1, 27), (9, 1, 27), (10, 1, 27), (11, 1, 28), (12, 1, 28), (13, 1, 28), (14, 1, 29), (15, 1, 29), (16, 1, 29), (17, 1, 30), (18, 1, 30), (19, 1, 30), (20, 1, 31), (21, 1, 31), (22, 1, 31), (23, 1, 32), (24, 1, 32), (25, 1, 32), (26, 1, 33), (27, 1, 33), (28, 1, 33), (29, 1, 34), (30, 1, 34), (31, 1, 34), (32, 1, 35), (33, 1, 35), (34, 1, 35), (35, 1, 36), (36, 1, 36), (37, 1, 36), (38, 1, 37), (39, 1, 37), (40, 1, 37), (41, 1, 38), (42, 1, 38), (43, 1, 38), (44, 1, 39), (45, 1, 39), (46, 1, 39), (47, 1, 40), (48, 1, 40), (49, 1, 40), (50, 1, 41), (51, 1, 41), (52, 1, 41)], [(0, 1, 3), (1, 1, 3), (2, 1, 23), (3, 1, 23), (4, 1, 23), (5, 1, 26), (6, 1, 26), (7, 1, 26), (8, 1, 27), (9, 1, 27), (10, 1, 27), (11, 1, 28), (12, 1, 28), (13, 1, 28), (14, 1, 29), (15, 1, 29), (16, 1, 29), (17, 1, 30), (18, 1, 30), (19, 1, 30), (20, 1, 31), (21, 1, 31), (22, 1, 31), (23, 1, 32), (24, 1, 32), (25, 1, 32), (26, 1, 33), (27, 1, 33), (28, 1, 33), (29, 1, 34), (30, 1, 34), (31, 1, 34), (32, 1, 35), (33, 1, 35), (34, 1, 35), (35, 1, 36), (36, 1, 36), (37, 1, 36), (38, 1, 37), (39, 1, 37), (40, 1, 37), (41, 1, 38), (42, 1, 38), (43, 1, 38), (44, 1, 39), (45, 1, 39), (46, 1, 39), (47, 1, 40), (48, 1, 40), (49, 1, 40), (50, 1, 41), (51, 1, 41), (52, 1, 41)], [], [], [], [], [], [], [], [], [], [], [], [], [], [], [], [], [], [], [], [], [], [], [], [], [], [], [], [], [], [(0, 256, 70), (256, 240, 72)], [(0, 256, 70), (256, 240, 72)], [], [], [], [], [], [], [], [], [], [], [], [], [], [], [], [], [], [(0, 256, 70), (256, 256, 70), (512, 240, 91)], [(0, 256, 70), (256, 256, 70), (512, 240, 91)], [], [], [], [], [], [], [], [], [], [], [], [], [], [], [], [], [], [], [], [], [], [], [], [], [], [], [], [], [], [], [], [], [], [], [], [], [], [], [], [], [], [], [], [(0, 1, 3), (1, 1, 3)], [(0, 1, 3), (1, 1, 3)], [(0, 1, 3), (1, 2, 138)], [(0, 1, 3), (1, 2, 138)], [], [], [], [], [], [], [], [], [], [], [], [], [], [], [], [], [(0, 1, 3), (1, 1, 133), (2, 1, 133)], [(0, 1, 3), (1, 1, 133), (2, 1, 133)], [(0, 3, 158), (3, 1, 3)], [(0, 3, 158), (3, 1, 3)], [], [], [(0, 1, 3), (1, 1, 22), (2, 1, 106)], [(0, 1, 3), (1, 1, 22), (2, 1, 106)], [], [(0, 1, 22), (1, 1, 3), (2, 1, 3), (3, 1, 3), (4, 1, 133), (5, 1, 133), (6, 2, 138)], [(0, 1, 22), (1, 1, 3), (2, 1, 3), (3, 1, 3), (4, 1, 133), (5, 1, 133), (6, 2, 138)], [], [(0, 1, 22), (1, 1, 22)], [(0, 1, 22), (1, 1, 22)], [], [(0, 1, 22), (1, 1, 22), (2, 1, 4)], [(0, 1, 22), (1, 1, 22), (2, 1, 4)], [], [(0, 1, 3), (1, 1, 22)], [(0, 1, 3), (1, 1, 22)], [], [(0, 1, 3), (1, 1, 3), (2, 1, 3), (3, 1, 22), (4, 4, 160)], [(0, 1, 3), (1, 1, 3), (2, 1, 3), (3, 1, 22), (4, 4, 160)], [], [(0, 1, 3), (1, 1, 3)], [(0, 1, 3), (1, 1, 3)], [], [(0, 1, 3), (1, 1, 3), (2, 1, 22)], [(0, 1, 3), (1, 1, 3), (2, 1, 22)], [], [(0, 1, 3), (1, 1, 3)], [(0, 1, 3), (1, 1, 3)], [(0, 1, 3), (1, 1, 3), (2, 1, 3), (3, 1, 3), (4, 1, 3), (5, 1, 3), (6, 1, 22), (7, 2, 138), (9, 2, 188), (11, 1, 120), (12, 1, 122), (13, 1, 99)], [(0, 1, 3), (1, 1, 3), (2, 1, 3), (3, 1, 3), (4, 1, 3), (5, 1, 3), (6, 1, 22), (7, 2, 138), (9, 2, 188), (11, 1, 120), (12, 1, 122), (13, 1, 99)], [], [(0, 1, 3), (1, 1, 3), (2, 1, 3), (3, 1, 3), (4, 1, 3), (5, 1, 45), (6, 1, 22), (7, 3, 164), (10, 8, 167), (18, 3, 185)], [(0, 1, 3), (1, 1, 3), (2, 1, 3), (3, 1, 3), (4, 1, 3), (5, 1, 45), (6, 1, 22), (7, 3, 164), (10, 8, 167), (18, 3, 185)], [], [], [], [], [], [], [], [], [], [], [], [], [], [], [], [], [], [], [], [], [], [], [], [], [], [], [], [], [(0, 1, 17), (1, 1, 17), (2, 1, 17), (3, 1, 9)], [(0, 1, 17), (1, 1, 17), (2, 1, 17), (3, 1, 9)], [], [], [], [], [], [], [], [], [], [], [(0, 1, 12), (1, 1, 12), (2, 1, 88), (3, 1, 228), (4, 1, 5), (5, 1, 5), (6, 1, 229), (7, 1, 230), (8, 1, 231), (9, 1, 232), (10, 1, 233)], [(0, 1, 12), (1, 1, 12), (2, 1, 88), (3, 1, 228), (4, 1, 5), (5, 1, 5), (6, 1, 229), (7, 1, 230), (8, 1, 231), (9, 1, 232), (10, 1, 233)], []]
  eqp := [false, false, false, false, false, false, false, true, true, false, false, false, false, true, true, false, false, false, true, true, false, false, false, false, false, false, false, false, false, false, false, false, false, false, false, false, false, false, false, false, false, false, true, true, false, false, false, false, false, false, false, false, false, false, false, false, false, false, false, false, false, true, false, false, false, false, false, false, false, false, true, true, true, true, true, false, true, true, true, false, false, false, false, false, false, false, false, false, false, false, false, true, true, true, false, false, false, false, false, false, false, false, false, false, false, false, false, false, false, false, false, false, false, false, false, false, false, false, false, false, false, false, false, false, false, false, false, false, false, true, false, true, false, false, false, false, false, true, true, true, true, false, false, false, false, false, false, false, false, false, false, false, false, false, false, false, false, true, true, true, true, false, false, true, true, false, true, true, false, true, true, false, true, true, false, true, true, false, true, true, false, true, true, false, true, true, false, true, true, true, true, false, true, true, false, false, false, false, false, false, false, false, false, false, false, false, false, false, true, false, false, false, false, false, true, true, false, false, false, true, true, false, true, true, true, true, true, false, false, false, false, false, false, false, true, true, false]
  eqk := [none, none, none, none, none, none, none, none, none, none, none, none, none, none, none, none, none, none, none, none, none, none, none, none, none, none, none, none, none, none, none, none, none, none, none, none, none, none, none, none, none, none, none, none, none, none, none, none, none, none, none, none, none, none, none, none, none, none, none, none, none, none, none, none, none, none, none, none, none, none, none, none, none, none, none, none, none, none, none, none, none, none, none, none, none, none, none, none, none, none, none, none, none, none, none, none, none, none, none, none, none, none, none, none, none, none, none, none, none, none, none, none, none, none, none, none, none, none, none, none, none, none, none, none, none, none, none, none, none, none, none, none, none, none, none, none, none, some ([.i64, .i64]), some ([.i64, .i64]), some ([.i64, .i64, .i64]), some ([.i64, .i64, .i64]), none, none, none, none, none, none, none, none, none, none, none, none, none, none, none, none, some ([.i64, .u64, .u64]), some ([.i64, .u64, .u64]), some ([.i64, .u64, .u64, .i64]), some ([.i64, .u64, .u64, .i64]), none, none, none, none, none, none, none, none, none, none, none, none, none, none, none, none, none, none, none, none, some ([.i64, .i64]), some ([.i64, .i64]), none, none, none, none, some ([.i64, .i64]), some ([.i64, .i64]), none, none, none, none, none, none, none, none, none, none, none, none, none, none, none, none, none, none, none, none, none, none, none, none, none, none, none, none, none, none, none, none, none, none, none, none, none, none, none, none, none, none, none, none, none, none, none, none]
attribute [go_sem_proc] Nat.reduceBEq Nat.reduceAdd Nat.reduceSub Nat.reduceMul Nat.reduceLT Nat.reduceLeDiff Nat.reduceEqDiff Int.reduceLT Int.reduceLE Int.reduceAdd Int.reduceSub Int.reduceMul Int.reduceNeg Int.reduceToNat Int.reduceEq Int.reduceNe reduceIte reduceCtorEq BitVec.reduceOfInt BitVec.reduceToNat
def zR (n : Nat) (l : List SV) : Prop := zeroOf Tryz.prog n = some l ∧ l.all SV.one = true ∧ (Tryz.prog.info? n).map (·.size) = some l.length
theorem z1 : zR 1 ([.fnil]) := ⟨by kernel_rfl, by kernel_rfl, by kernel_rfl⟩
theorem z2 : zR 2 ([.i .i64 0]) := ⟨by kernel_rfl, by kernel_rfl, by kernel_rfl⟩
theorem z3 : zR 3 ([.i .i64 0]) := ⟨by kernel_rfl, by kernel_rfl, by kernel_rfl⟩
theorem z4 : zR 4 ([.b false]) := ⟨by kernel_rfl, by kernel_rfl, by kernel_rfl⟩
theorem z5 : zR 5 ([.u8 0]) := ⟨by kernel_rfl, by kernel_rfl, by kernel_rfl⟩
theorem z6 : zR 6 ([.u8 0]) := ⟨by kernel_rfl, by kernel_rfl, by kernel_rfl⟩
theorem z7 : zR 7 ([.i .i64 0, .i .i64 0, .b false, .u8 0]) := ⟨by kernel_rfl, by kernel_rfl, by kernel_rfl⟩
theorem z8 : zR 8 ([.i .i64 0, .i .i64 0, .b false, .u8 0]) := ⟨by kernel_rfl, by kernel_rfl, by kernel_rfl⟩
theorem z9 : zR 9 ([.str ⟨#[]⟩]) := ⟨by kernel_rfl, by kernel_rfl, by kernel_rfl⟩
theorem z10 : zR 10 ([.str ⟨#[]⟩]) := ⟨by kernel_rfl, by kernel_rfl, by kernel_rfl⟩
theorem z11 : zR 11 ([.str ⟨#[]⟩]) := ⟨by kernel_rfl, by kernel_rfl, by kernel_rfl⟩
theorem z12 : zR 12 ([.u64 0]) := ⟨by kernel_rfl, by kernel_rfl, by kernel_rfl⟩
theorem z13 : zR 13 ([.str ⟨#[]⟩, .u64 0]) := ⟨by kernel_rfl, by kernel_rfl, by kernel_rfl⟩
theorem z14 : zR 14 ([.str ⟨#[]⟩, .u64 0]) := ⟨by kernel_rfl, by kernel_rfl, by kernel_rfl⟩
theorem z15 : zR 15 ([.pn]) := ⟨by kernel_rfl, by kernel_rfl, by kernel_rfl⟩
theorem z16 : zR 16 ([.pn]) := ⟨by kernel_rfl, by kernel_rfl, by kernel_rfl⟩
theorem z17 : zR 17 ([.pn]) := ⟨by kernel_rfl, by kernel_rfl, by kernel_rfl⟩
theorem z18 : zR 18 ([.pn]) := ⟨by kernel_rfl, by kernel_rfl, by kernel_rfl⟩
theorem z19 : zR 19 ([.pn]) := ⟨by kernel_rfl, by kernel_rfl, by kernel_rfl⟩
theorem z20 : zR 20 ([.inil]) := ⟨by kernel_rfl, by kernel_rfl, by kernel_rfl⟩
theorem z21 : zR 21 ([.i .i32 0]) := ⟨by kernel_rfl, by kernel_rfl, by kernel_rfl⟩
theorem z22 : zR 22 ([.sn]) := ⟨by kernel_rfl, by kernel_rfl, by kernel_rfl⟩
theorem z23 : zR 23 ([.sn]) := ⟨by kernel_rfl, by kernel_rfl, by kernel_rfl⟩
theorem z24 : zR 24 ([.fnil]) := ⟨by kernel_rfl, by kernel_rfl, by kernel_rfl⟩
theorem z25 : zR 25 ([.pn]) := ⟨by kernel_rfl, by kernel_rfl, by kernel_rfl⟩
theorem z26 : zR 26 ([.sn]) := ⟨by kernel_rfl, by kernel_rfl, by kernel_rfl⟩
theorem z27 : zR 27 ([.sn]) := ⟨by kernel_rfl, by kernel_rfl, by kernel_rfl⟩
theorem z28 : zR 28 ([.sn]) := ⟨by kernel_rfl, by kernel_rfl, by kernel_rfl⟩
theorem z29 : zR 29 ([.sn]) := ⟨by kernel_rfl, by kernel_rfl, by kernel_rfl⟩
theorem z30 : zR 30 ([.sn]) := ⟨by kernel_rfl, by kernel_rfl, by kernel_rfl⟩
theorem z31 : zR 31 ([.sn]) := ⟨by kernel_rfl, by kernel_rfl, by kernel_rfl⟩
theorem z32 : zR 32 ([.sn]) := ⟨by kernel_rfl, by kernel_rfl, by kernel_rfl⟩
theorem z33 : zR 33 ([.sn]) := ⟨by kernel_rfl, by kernel_rfl, by kernel_rfl⟩
theorem z34 : zR 34 ([.sn]) := ⟨by kernel_rfl, by kernel_rfl, by kernel_rfl⟩
theorem z35 : zR 35 ([.sn]) := ⟨by kernel_rfl, by kernel_rfl, by kernel_rfl⟩
theorem z36 : zR 36 ([.sn]) := ⟨by kernel_rfl, by kernel_rfl, by kernel_rfl⟩
theorem z37 : zR 37 ([.sn]) := ⟨by kernel_rfl, by kernel_rfl, by kernel_rfl⟩
theorem z38 : zR 38 ([.sn]) := ⟨by kernel_rfl, by kernel_rfl, by kernel_rfl⟩
theorem z39 : zR 39 ([.sn]) := ⟨by kernel_rfl, by kernel_rfl, by kernel_rfl⟩
theorem z40 : zR 40 ([.sn]) := ⟨by kernel_rfl, by kernel_rfl, by kernel_rfl⟩
theorem z41 : zR 41 ([.sn]) := ⟨by kernel_rfl, by kernel_rfl, by kernel_rfl⟩
theorem z42 : zR 42 ([.i .i64 0, .i .i64 0] ++ List.replicate 51 (.sn)) := ⟨by kernel_rfl, by kernel_rfl, by kernel_rfl⟩
theorem z43 : zR 43 ([.i .i64 0, .i .i64 0] ++ List.replicate 51 (.sn)) := ⟨by kernel_rfl, by kernel_rfl, by kernel_rfl⟩
theorem z44 : zR 44 ([.fnil]) := ⟨by kernel_rfl, by kernel_rfl, by kernel_rfl⟩
theorem z45 : zR 45 ([.i .i64 0]) := ⟨by kernel_rfl, by kernel_rfl, by kernel_rfl⟩
theorem z47 : zR 47 ([.fnil]) := ⟨by kernel_rfl, by kernel_rfl, by kernel_rfl⟩
theorem z48 : zR 48 ([.fnil]) := ⟨by kernel_rfl, by kernel_rfl, by kernel_rfl⟩
theorem z49 : zR 49 ([.fnil]) := ⟨by kernel_rfl, by kernel_rfl, by kernel_rfl⟩
theorem z51 : zR 51 ([.fnil]) := ⟨by kernel_rfl, by kernel_rfl, by kernel_rfl⟩
theorem z52 : zR 52 ([.fnil]) := ⟨by kernel_rfl, by kernel_rfl, by kernel_rfl⟩
theorem z54 : zR 54 ([.fnil]) := ⟨by kernel_rfl, by kernel_rfl, by kernel_rfl⟩
theorem z55 : zR 55 ([.fnil]) := ⟨by kernel_rfl, by kernel_rfl, by kernel_rfl⟩
theorem z56 : zR 56 ([.fnil]) := ⟨by kernel_rfl, by kernel_rfl, by kernel_rfl⟩
theorem z57 : zR 57 ([.pn]) := ⟨by kernel_rfl, by kernel_rfl, by kernel_rfl⟩
theorem z59 : zR 59 ([.fnil]) := ⟨by kernel_rfl, by kernel_rfl, by kernel_rfl⟩
theorem z60 : zR 60 ([.fnil]) := ⟨by kernel_rfl, by kernel_rfl, by kernel_rfl⟩
theorem z61 : zR 61 (List.replicate 16 (.u8 0)) := ⟨by kernel_rfl, by kernel_rfl, by kernel_rfl⟩
theorem z62 : zR 62 ([.fnil]) := ⟨by kernel_rfl, by kernel_rfl, by kernel_rfl⟩
theorem z63 : zR 63 ([.pn]) := ⟨by kernel_rfl, by kernel_rfl, by kernel_rfl⟩
theorem z65 : zR 65 ([.fnil]) := ⟨by kernel_rfl, by kernel_rfl, by kernel_rfl⟩
theorem z66 : zR 66 ([.fnil]) := ⟨by kernel_rfl, by kernel_rfl, by kernel_rfl⟩
theorem z67 : zR 67 ([.fnil]) := ⟨by kernel_rfl, by kernel_rfl, by kernel_rfl⟩
theorem z69 : zR 69 ([.fnil]) := ⟨by kernel_rfl, by kernel_rfl, by kernel_rfl⟩
theorem z70 : zR 70 (List.replicate 256 (.u8 0)) := ⟨by kernel_rfl, by kernel_rfl, by kernel_rfl⟩
theorem z71 : zR 71 (List.replicate 16 (.u8 0)) := ⟨by kernel_rfl, by kernel_rfl, by kernel_rfl⟩
theorem z72 : zR 72 (List.replicate 240 (.u8 0)) := ⟨by kernel_rfl, by kernel_rfl, by kernel_rfl⟩
theorem z73 : zR 73 (List.replicate 496 (.u8 0)) := ⟨by kernel_rfl, by kernel_rfl, by kernel_rfl⟩
theorem z74 : zR 74 (List.replicate 496 (.u8 0)) := ⟨by kernel_rfl, by kernel_rfl, by kernel_rfl⟩
theorem z75 : zR 75 ([.fnil]) := ⟨by kernel_rfl, by kernel_rfl, by kernel_rfl⟩
theorem z76 : zR 76 ([.u8 0, .u8 0, .u8 0, .u8 0]) := ⟨by kernel_rfl, by kernel_rfl, by kernel_rfl⟩
theorem z77 : zR 77 ([.u8 0, .u8 0, .u8 0, .u8 0]) := ⟨by kernel_rfl, by kernel_rfl, by kernel_rfl⟩
theorem z78 : zR 78 (List.replicate 240 (.u8 0)) := ⟨by kernel_rfl, by kernel_rfl, by kernel_rfl⟩
theorem z79 : zR 79 ([.fnil]) := ⟨by kernel_rfl, by kernel_rfl, by kernel_rfl⟩
theorem z80 : zR 80 ([.fnil]) := ⟨by kernel_rfl, by kernel_rfl, by kernel_rfl⟩
theorem z81 : zR 81 ([.fnil]) := ⟨by kernel_rfl, by kernel_rfl, by kernel_rfl⟩
theorem z82 : zR 82 ([.fnil]) := ⟨by kernel_rfl, by kernel_rfl, by kernel_rfl⟩
theorem z83 : zR 83 ([.fnil]) := ⟨by kernel_rfl, by kernel_rfl, by kernel_rfl⟩
theorem z84 : zR 84 ([.fnil]) := ⟨by kernel_rfl, by kernel_rfl, by kernel_rfl⟩
theorem z85 : zR 85 ([.fnil]) := ⟨by kernel_rfl, by kernel_rfl, by kernel_rfl⟩
theorem z86 : zR 86 ([.fnil]) := ⟨by kernel_rfl, by kernel_rfl, by kernel_rfl⟩
theorem z87 : zR 87 ([.fnil]) := ⟨by kernel_rfl, by kernel_rfl, by kernel_rfl⟩
theorem z88 : zR 88 ([.u32 0]) := ⟨by kernel_rfl, by kernel_rfl, by kernel_rfl⟩
theorem z89 : zR 89 ([.fnil]) := ⟨by kernel_rfl, by kernel_rfl, by kernel_rfl⟩
theorem z90 : zR 90 ([.fnil]) := ⟨by kernel_rfl, by kernel_rfl, by kernel_rfl⟩
theorem z91 : zR 91 (List.replicate 240 (.u8 0)) := ⟨by kernel_rfl, by kernel_rfl, by kernel_rfl⟩
theorem z92 : zR 92 (List.replicate 752 (.u8 0)) := ⟨by kernel_rfl, by kernel_rfl, by kernel_rfl⟩
theorem z93 : zR 93 (List.replicate 752 (.u8 0)) := ⟨by kernel_rfl, by kernel_rfl, by kernel_rfl⟩
theorem z94 : zR 94 ([.fnil]) := ⟨by kernel_rfl, by kernel_rfl, by kernel_rfl⟩
theorem z95 : zR 95 ([.fnil]) := ⟨by kernel_rfl, by kernel_rfl, by kernel_rfl⟩
theorem z96 : zR 96 ([.u64 0]) := ⟨by kernel_rfl, by kernel_rfl, by kernel_rfl⟩
theorem z97 : zR 97 ([.fnil]) := ⟨by kernel_rfl, by kernel_rfl, by kernel_rfl⟩
theorem z98 : zR 98 ([.fnil]) := ⟨by kernel_rfl, by kernel_rfl, by kernel_rfl⟩
theorem z99 : zR 99 ([.sn]) := ⟨by kernel_rfl, by kernel_rfl, by kernel_rfl⟩
theorem z100 : zR 100 ([.fnil]) := ⟨by kernel_rfl, by kernel_rfl, by kernel_rfl⟩
theorem z101 : zR 101 ([.sn]) := ⟨by kernel_rfl, by kernel_rfl, by kernel_rfl⟩
theorem z102 : zR 102 ([.fnil]) := ⟨by kernel_rfl, by kernel_rfl, by kernel_rfl⟩
theorem z103 : zR 103 ([.sn]) := ⟨by kernel_rfl, by kernel_rfl, by kernel_rfl⟩
theorem z104 : zR 104 ([.fnil]) := ⟨by kernel_rfl, by kernel_rfl, by kernel_rfl⟩
theorem z105 : zR 105 ([.fnil]) := ⟨by kernel_rfl, by kernel_rfl, by kernel_rfl⟩
theorem z106 : zR 106 ([.sn]) := ⟨by kernel_rfl, by kernel_rfl, by kernel_rfl⟩
theorem z107 : zR 107 ([.fnil]) := ⟨by kernel_rfl, by kernel_rfl, by kernel_rfl⟩
theorem z108 : zR 108 ([.sn]) := ⟨by kernel_rfl, by kernel_rfl, by kernel_rfl⟩
theorem z109 : zR 109 ([.fnil]) := ⟨by kernel_rfl, by kernel_rfl, by kernel_rfl⟩
theorem z110 : zR 110 ([.sn]) := ⟨by kernel_rfl, by kernel_rfl, by kernel_rfl⟩
theorem z111 : zR 111 ([.fnil]) := ⟨by kernel_rfl, by kernel_rfl, by kernel_rfl⟩
theorem z112 : zR 112 ([.sn]) := ⟨by kernel_rfl, by kernel_rfl, by kernel_rfl⟩
theorem z113 : zR 113 ([.fnil]) := ⟨by kernel_rfl, by kernel_rfl, by kernel_rfl⟩
theorem z114 : zR 114 ([.sn]) := ⟨by kernel_rfl, by kernel_rfl, by kernel_rfl⟩
theorem z115 : zR 115 ([.fnil]) := ⟨by kernel_rfl, by kernel_rfl, by kernel_rfl⟩
theorem z116 : zR 116 ([.sn]) := ⟨by kernel_rfl, by kernel_rfl, by kernel_rfl⟩
theorem z117 : zR 117 ([.fnil]) := ⟨by kernel_rfl, by kernel_rfl, by kernel_rfl⟩
theorem z118 : zR 118 ([.sn]) := ⟨by kernel_rfl, by kernel_rfl, by kernel_rfl⟩
theorem z119 : zR 119 ([.fnil]) := ⟨by kernel_rfl, by kernel_rfl, by kernel_rfl⟩
theorem z120 : zR 120 ([.sn]) := ⟨by kernel_rfl, by kernel_rfl, by kernel_rfl⟩
theorem z121 : zR 121 ([.fnil]) := ⟨by kernel_rfl, by kernel_rfl, by kernel_rfl⟩
theorem z122 : zR 122 ([.sn]) := ⟨by kernel_rfl, by kernel_rfl, by kernel_rfl⟩
theorem z123 : zR 123 ([.fnil]) := ⟨by kernel_rfl, by kernel_rfl, by kernel_rfl⟩
theorem z124 : zR 124 ([.sn]) := ⟨by kernel_rfl, by kernel_rfl, by kernel_rfl⟩
theorem z125 : zR 125 ([.fnil]) := ⟨by kernel_rfl, by kernel_rfl, by kernel_rfl⟩
theorem z126 : zR 126 ([.sn]) := ⟨by kernel_rfl, by kernel_rfl, by kernel_rfl⟩
theorem z127 : zR 127 ([.fnil]) := ⟨by kernel_rfl, by kernel_rfl, by kernel_rfl⟩
theorem z128 : zR 128 ([.sn]) := ⟨by kernel_rfl, by kernel_rfl, by kernel_rfl⟩
theorem z129 : zR 129 ([.i .i64 0, .i .i64 0, .i .i64 0, .i .i64 0, .i .i64 0]) := ⟨by kernel_rfl, by kernel_rfl, by kernel_rfl⟩
theorem z130 : zR 130 ([.fnil]) := ⟨by kernel_rfl, by kernel_rfl, by kernel_rfl⟩
theorem z131 : zR 131 ([.u8 0, .u8 0, .u8 0, .u8 0]) := ⟨by kernel_rfl, by kernel_rfl, by kernel_rfl⟩
theorem z132 : zR 132 ([.fnil]) := ⟨by kernel_rfl, by kernel_rfl, by kernel_rfl⟩
theorem z133 : zR 133 ([.u64 0]) := ⟨by kernel_rfl, by kernel_rfl, by kernel_rfl⟩
theorem z134 : zR 134 ([.fnil]) := ⟨by kernel_rfl, by kernel_rfl, by kernel_rfl⟩
theorem z135 : zR 135 ([.fnil]) := ⟨by kernel_rfl, by kernel_rfl, by kernel_rfl⟩
theorem z136 : zR 136 ([.fnil]) := ⟨by kernel_rfl, by kernel_rfl, by kernel_rfl⟩
theorem z137 : zR 137 ([.i .i64 0, .i .i64 0]) := ⟨by kernel_rfl, by kernel_rfl, by kernel_rfl⟩
theorem z138 : zR 138 ([.i .i64 0, .i .i64 0]) := ⟨by kernel_rfl, by kernel_rfl, by kernel_rfl⟩
theorem z139 : zR 139 ([.i .i64 0, .i .i64 0, .i .i64 0]) := ⟨by kernel_rfl, by kernel_rfl, by kernel_rfl⟩
theorem z140 : zR 140 ([.i .i64 0, .i .i64 0, .i .i64 0]) := ⟨by kernel_rfl, by kernel_rfl, by kernel_rfl⟩
theorem z141 : zR 141 ([.fnil]) := ⟨by kernel_rfl, by kernel_rfl, by kernel_rfl⟩
theorem z142 : zR 142 ([.fnil]) := ⟨by kernel_rfl, by kernel_rfl, by kernel_rfl⟩
theorem z143 : zR 143 ([.fnil]) := ⟨by kernel_rfl, by kernel_rfl, by kernel_rfl⟩
theorem z144 : zR 144 ([.fnil]) := ⟨by kernel_rfl, by kernel_rfl, by kernel_rfl⟩
theorem z145 : zR 145 ([.fnil]) := ⟨by kernel_rfl, by kernel_rfl, by kernel_rfl⟩
theorem z146 : zR 146 ([.fnil]) := ⟨by kernel_rfl, by kernel_rfl, by kernel_rfl⟩
theorem z147 : zR 147 ([.fnil]) := ⟨by kernel_rfl, by kernel_rfl, by kernel_rfl⟩
theorem z148 : zR 148 ([.fnil]) := ⟨by kernel_rfl, by kernel_rfl, by kernel_rfl⟩
theorem z149 : zR 149 ([.fnil]) := ⟨by kernel_rfl, by kernel_rfl, by kernel_rfl⟩
theorem z150 : zR 150 ([.fnil]) := ⟨by kernel_rfl, by kernel_rfl, by kernel_rfl⟩
theorem z151 : zR 151 ([.fnil]) := ⟨by kernel_rfl, by kernel_rfl, by kernel_rfl⟩
theorem z152 : zR 152 ([.fnil]) := ⟨by kernel_rfl, by kernel_rfl, by kernel_rfl⟩
theorem z153 : zR 153 ([.fnil]) := ⟨by kernel_rfl, by kernel_rfl, by kernel_rfl⟩
theorem z154 : zR 154 ([.fnil]) := ⟨by kernel_rfl, by kernel_rfl, by kernel_rfl⟩
theorem z155 : zR 155 ([.fnil]) := ⟨by kernel_rfl, by kernel_rfl, by kernel_rfl⟩
theorem z156 : zR 156 ([.fnil]) := ⟨by kernel_rfl, by kernel_rfl, by kernel_rfl⟩
theorem z157 : zR 157 ([.i .i64 0, .u64 0, .u64 0]) := ⟨by kernel_rfl, by kernel_rfl, by kernel_rfl⟩
theorem z158 : zR 158 ([.i .i64 0, .u64 0, .u64 0]) := ⟨by kernel_rfl, by kernel_rfl, by kernel_rfl⟩
theorem z159 : zR 159 ([.i .i64 0, .u64 0, .u64 0, .i .i64 0]) := ⟨by kernel_rfl, by kernel_rfl, by kernel_rfl⟩
theorem z160 : zR 160 ([.i .i64 0, .u64 0, .u64 0, .i .i64 0]) := ⟨by kernel_rfl, by kernel_rfl, by kernel_rfl⟩
theorem z161 : zR 161 ([.fnil]) := ⟨by kernel_rfl, by kernel_rfl, by kernel_rfl⟩
theorem z162 : zR 162 ([.fnil]) := ⟨by kernel_rfl, by kernel_rfl, by kernel_rfl⟩
theorem z163 : zR 163 ([.i .i64 0, .sn, .sn]) := ⟨by kernel_rfl, by kernel_rfl, by kernel_rfl⟩
theorem z164 : zR 164 ([.i .i64 0, .sn, .sn]) := ⟨by kernel_rfl, by kernel_rfl, by kernel_rfl⟩
theorem z165 : zR 165 ([.fnil]) := ⟨by kernel_rfl, by kernel_rfl, by kernel_rfl⟩
theorem z166 : zR 166 ([.sn, .i .i64 0, .i .i64 0, .i .i64 0, .u64 0, .u64 0, .i .i64 0, .i .i64 0]) := ⟨by kernel_rfl, by kernel_rfl, by kernel_rfl⟩
theorem z167 : zR 167 ([.sn, .i .i64 0, .i .i64 0, .i .i64 0, .u64 0, .u64 0, .i .i64 0, .i .i64 0]) := ⟨by kernel_rfl, by kernel_rfl, by kernel_rfl⟩
theorem z168 : zR 168 ([.fnil]) := ⟨by kernel_rfl, by kernel_rfl, by kernel_rfl⟩
theorem z169 : zR 169 ([.sn, .sn]) := ⟨by kernel_rfl, by kernel_rfl, by kernel_rfl⟩
theorem z170 : zR 170 ([.sn, .sn]) := ⟨by kernel_rfl, by kernel_rfl, by kernel_rfl⟩
theorem z171 : zR 171 ([.fnil]) := ⟨by kernel_rfl, by kernel_rfl, by kernel_rfl⟩
theorem z172 : zR 172 ([.sn, .sn, .b false]) := ⟨by kernel_rfl, by kernel_rfl, by kernel_rfl⟩
theorem z173 : zR 173 ([.sn, .sn, .b false]) := ⟨by kernel_rfl, by kernel_rfl, by kernel_rfl⟩
theorem z174 : zR 174 ([.fnil]) := ⟨by kernel_rfl, by kernel_rfl, by kernel_rfl⟩
theorem z175 : zR 175 ([.i .i64 0, .sn]) := ⟨by kernel_rfl, by kernel_rfl, by kernel_rfl⟩
theorem z176 : zR 176 ([.i .i64 0, .sn]) := ⟨by kernel_rfl, by kernel_rfl, by kernel_rfl⟩
theorem z177 : zR 177 ([.fnil]) := ⟨by kernel_rfl, by kernel_rfl, by kernel_rfl⟩
theorem z178 : zR 178 ([.i .i64 0, .i .i64 0, .i .i64 0, .sn, .i .i64 0, .u64 0, .u64 0, .i .i64 0]) := ⟨by kernel_rfl, by kernel_rfl, by kernel_rfl⟩
theorem z179 : zR 179 ([.i .i64 0, .i .i64 0, .i .i64 0, .sn, .i .i64 0, .u64 0, .u64 0, .i .i64 0]) := ⟨by kernel_rfl, by kernel_rfl, by kernel_rfl⟩
theorem z180 : zR 180 ([.fnil]) := ⟨by kernel_rfl, by kernel_rfl, by kernel_rfl⟩
theorem z181 : zR 181 ([.i .i64 0, .i .i64 0]) := ⟨by kernel_rfl, by kernel_rfl, by kernel_rfl⟩
theorem z182 : zR 182 ([.i .i64 0, .i .i64 0]) := ⟨by kernel_rfl, by kernel_rfl, by kernel_rfl⟩
theorem z183 : zR 183 ([.fnil]) := ⟨by kernel_rfl, by kernel_rfl, by kernel_rfl⟩
theorem z184 : zR 184 ([.i .i64 0, .i .i64 0, .sn]) := ⟨by kernel_rfl, by kernel_rfl, by kernel_rfl⟩
theorem z185 : zR 185 ([.i .i64 0, .i .i64 0, .sn]) := ⟨by kernel_rfl, by kernel_rfl, by kernel_rfl⟩
theorem z186 : zR 186 ([.fnil]) := ⟨by kernel_rfl, by kernel_rfl, by kernel_rfl⟩
theorem z187 : zR 187 ([.i .i64 0, .i .i64 0]) := ⟨by kernel_rfl, by kernel_rfl, by kernel_rfl⟩
theorem z188 : zR 188 ([.i .i64 0, .i .i64 0]) := ⟨by kernel_rfl, by kernel_rfl, by kernel_rfl⟩
theorem z189 : zR 189 ([.i .i64 0, .i .i64 0, .i .i64 0, .i .i64 0, .i .i64 0, .i .i64 0, .sn, .i .i64 0, .i .i64 0, .i .i64 0, .i .i64 0, .sn, .sn, .sn]) := ⟨by kernel_rfl, by kernel_rfl, by kernel_rfl⟩
theorem z190 : zR 190 ([.i .i64 0, .i .i64 0, .i .i64 0, .i .i64 0, .i .i64 0, .i .i64 0, .sn, .i .i64 0, .i .i64 0, .i .i64 0, .i .i64 0, .sn, .sn, .sn]) := ⟨by kernel_rfl, by kernel_rfl, by kernel_rfl⟩
theorem z191 : zR 191 ([.fnil]) := ⟨by kernel_rfl, by kernel_rfl, by kernel_rfl⟩
theorem z192 : zR 192 ([.i .i64 0, .i .i64 0, .i .i64 0, .i .i64 0, .i .i64 0, .i .i64 0, .sn, .i .i64 0, .sn, .sn, .sn, .i .i64 0, .i .i64 0, .i .i64 0, .u64 0, .u64 0, .i .i64 0, .i .i64 0, .i .i64 0, .i .i64 0, .sn]) := ⟨by kernel_rfl, by kernel_rfl, by kernel_rfl⟩
theorem z193 : zR 193 ([.i .i64 0, .i .i64 0, .i .i64 0, .i .i64 0, .i .i64 0, .i .i64 0, .sn, .i .i64 0, .sn, .sn, .sn, .i .i64 0, .i .i64 0, .i .i64 0, .u64 0, .u64 0, .i .i64 0, .i .i64 0, .i .i64 0, .i .i64 0, .sn]) := ⟨by kernel_rfl, by kernel_rfl, by kernel_rfl⟩
theorem z194 : zR 194 ([.fnil]) := ⟨by kernel_rfl, by kernel_rfl, by kernel_rfl⟩
theorem z195 : zR 195 ([.fnil]) := ⟨by kernel_rfl, by kernel_rfl, by kernel_rfl⟩
theorem z196 : zR 196 ([.fnil]) := ⟨by kernel_rfl, by kernel_rfl, by kernel_rfl⟩
theorem z197 : zR 197 ([.fnil]) := ⟨by kernel_rfl, by kernel_rfl, by kernel_rfl⟩
theorem z198 : zR 198 ([.fnil]) := ⟨by kernel_rfl, by kernel_rfl, by kernel_rfl⟩
theorem z199 : zR 199 ([.fnil]) := ⟨by kernel_rfl, by kernel_rfl, by kernel_rfl⟩
theorem z200 : zR 200 ([.fnil]) := ⟨by kernel_rfl, by kernel_rfl, by kernel_rfl⟩
theorem z201 : zR 201 ([.fnil]) := ⟨by kernel_rfl, by kernel_rfl, by kernel_rfl⟩
theorem z202 : zR 202 ([.fnil]) := ⟨by kernel_rfl, by kernel_rfl, by kernel_rfl⟩
theorem z203 : zR 203 ([.fnil]) := ⟨by kernel_rfl, by kernel_rfl, by kernel_rfl⟩
theorem z204 : zR 204 ([.fnil]) := ⟨by kernel_rfl, by kernel_rfl, by kernel_rfl⟩
theorem z205 : zR 205 ([.fnil]) := ⟨by kernel_rfl, by kernel_rfl, by kernel_rfl⟩
theorem z206 : zR 206 ([.fnil]) := ⟨by kernel_rfl, by kernel_rfl, by kernel_rfl⟩
theorem z207 : zR 207 ([.fnil]) := ⟨by kernel_rfl, by kernel_rfl, by kernel_rfl⟩
theorem z208 : zR 208 (List.replicate 24 (.u8 0)) := ⟨by kernel_rfl, by kernel_rfl, by kernel_rfl⟩
theorem z209 : zR 209 ([.fnil]) := ⟨by kernel_rfl, by kernel_rfl, by kernel_rfl⟩
theorem z210 : zR 210 ([.fnil]) := ⟨by kernel_rfl, by kernel_rfl, by kernel_rfl⟩
theorem z212 : zR 212 ([.fnil]) := ⟨by kernel_rfl, by kernel_rfl, by kernel_rfl⟩
theorem z213 : zR 213 ([.fnil]) := ⟨by kernel_rfl, by kernel_rfl, by kernel_rfl⟩
theorem z214 : zR 214 (List.replicate 20 (.u64 0)) := ⟨by kernel_rfl, by kernel_rfl, by kernel_rfl⟩
theorem z215 : zR 215 (List.replicate 65 (.u8 0)) := ⟨by kernel_rfl, by kernel_rfl, by kernel_rfl⟩
theorem z216 : zR 216 ([.fnil]) := ⟨by kernel_rfl, by kernel_rfl, by kernel_rfl⟩
theorem z217 : zR 217 ([.fnil]) := ⟨by kernel_rfl, by kernel_rfl, by kernel_rfl⟩
theorem z218 : zR 218 ([.fnil]) := ⟨by kernel_rfl, by kernel_rfl, by kernel_rfl⟩
theorem z219 : zR 219 (List.replicate 32 (.u8 0)) := ⟨by kernel_rfl, by kernel_rfl, by kernel_rfl⟩
theorem z220 : zR 220 (List.replicate 64 (.u8 0)) := ⟨by kernel_rfl, by kernel_rfl, by kernel_rfl⟩
theorem z221 : zR 221 ([.fnil]) := ⟨by kernel_rfl, by kernel_rfl, by kernel_rfl⟩
theorem z222 : zR 222 ([.pn, .pn, .pn, .str ⟨#[]⟩]) := ⟨by kernel_rfl, by kernel_rfl, by kernel_rfl⟩
theorem z223 : zR 223 ([.pn, .pn, .pn, .str ⟨#[]⟩]) := ⟨by kernel_rfl, by kernel_rfl, by kernel_rfl⟩
theorem z224 : zR 224 ([]) := ⟨by kernel_rfl, by kernel_rfl, by kernel_rfl⟩
theorem z225 : zR 225 ([]) := ⟨by kernel_rfl, by kernel_rfl, by kernel_rfl⟩
theorem z226 : zR 226 ([]) := ⟨by kernel_rfl, by kernel_rfl, by kernel_rfl⟩
theorem z227 : zR 227 ([.fnil]) := ⟨by kernel_rfl, by kernel_rfl, by kernel_rfl⟩
theorem z228 : zR 228 ([.u8 0]) := ⟨by kernel_rfl, by kernel_rfl, by kernel_rfl⟩
theorem z229 : zR 229 ([.u8 0]) := ⟨by kernel_rfl, by kernel_rfl, by kernel_rfl⟩
theorem z230 : zR 230 ([.fnil]) := ⟨by kernel_rfl, by kernel_rfl, by kernel_rfl⟩
theorem z231 : zR 231 ([.pn]) := ⟨by kernel_rfl, by kernel_rfl, by kernel_rfl⟩
theorem z232 : zR 232 ([.i .i32 0]) := ⟨by kernel_rfl, by kernel_rfl, by kernel_rfl⟩
theorem z233 : zR 233 ([.i .i32 0]) := ⟨by kernel_rfl, by kernel_rfl, by kernel_rfl⟩
theorem z234 : zR 234 ([.u64 0, .u64 0, .u32 0, .u8 0, .u8 0, .u8 0, .u8 0, .fnil, .pn, .i .i32 0, .i .i32 0]) := ⟨by kernel_rfl, by kernel_rfl, by kernel_rfl⟩
theorem z235 : zR 235 ([.u64 0, .u64 0, .u32 0, .u8 0, .u8 0, .u8 0, .u8 0, .fnil, .pn, .i .i32 0, .i .i32 0]) := ⟨by kernel_rfl, by kernel_rfl, by kernel_rfl⟩
@[go_sem] theorem tk1 : tab.k 1 = .func := rfl
@[go_sem] theorem tz1 : tab.z 1 = some (([.fnil] : List SV)) := rfl
@[go_sem] theorem tk2 : tab.k 2 = .int .i64 := rfl
@[go_sem] theorem tz2 : tab.z 2 = some (([.i .i64 0] : List SV)) := rfl
@[go_sem] theorem tk3 : tab.k 3 = .int .i64 := rfl
@[go_sem] theorem tz3 : tab.z 3 = some (([.i .i64 0] : List SV)) := rfl
@[go_sem] theorem tk4 : tab.k 4 = .bool := rfl
@[go_sem] theorem tz4 : tab.z 4 = some (([.b false] : List SV)) := rfl
@[go_sem] theorem tk5 : tab.k 5 = .int .u8 := rfl
@[go_sem] theorem tz5 : tab.z 5 = some (([.u8 0] : List SV)) := rfl
@[go_sem] theorem tk6 : tab.k 6 = .int .u8 := rfl
@[go_sem] theorem tz6 : tab.z 6 = some (([.u8 0] : List SV)) := rfl
@[go_sem] theorem tk7 : tab.k 7 = .struct 4 := rfl
@[go_sem] theorem tz7 : tab.z 7 = some (([.i .i64 0, .i .i64 0, .b false, .u8 0] : List SV)) := rfl
@[go_sem] theorem te7 : tab.eqp.getD 7 false = true := rfl
@[go_sem] theorem tf7_0 : tab.f 7 0 = some (0, 1, 2) := rfl
@[go_sem] theorem tf7_1 : tab.f 7 1 = some (1, 1, 3) := rfl
@[go_sem] theorem tf7_2 : tab.f 7 2 = some (2, 1, 4) := rfl
@[go_sem] theorem tf7_3 : tab.f 7 3 = some (3, 1, 6) := rfl
@[go_sem] theorem tk8 : tab.k 8 = .struct 4 := rfl
@[go_sem] theorem tz8 : tab.z 8 = some (([.i .i64 0, .i .i64 0, .b false, .u8 0] : List SV)) := rfl
@[go_sem] theorem te8 : tab.eqp.getD 8 false = true := rfl
@[go_sem] theorem tf8_0 : tab.f 8 0 = some (0, 1, 2) := rfl
@[go_sem] theorem tf8_1 : tab.f 8 1 = some (1, 1, 3) := rfl
@[go_sem] theorem tf8_2 : tab.f 8 2 = some (2, 1, 4) := rfl
@[go_sem] theorem tf8_3 : tab.f 8 3 = some (3, 1, 6) := rfl
@[go_sem] theorem tk9 : tab.k 9 = .str := rfl
@[go_sem] theorem tz9 : tab.z 9 = some (([.str ⟨#[]⟩] : List SV)) := rfl
@[go_sem] theorem tk10 : tab.k 10 = .str := rfl
@[go_sem] theorem tz10 : tab.z 10 = some (([.str ⟨#[]⟩] : List SV)) := rfl
@[go_sem] theorem tk11 : tab.k 11 = .str := rfl
@[go_sem] theorem tz11 : tab.z 11 = some (([.str ⟨#[]⟩] : List SV)) := rfl
@[go_sem] theorem tk12 : tab.k 12 = .int .u64 := rfl
@[go_sem] theorem tz12 : tab.z 12 = some (([.u64 0] : List SV)) := rfl
@[go_sem] theorem tk13 : tab.k 13 = .struct 2 := rfl
@[go_sem] theorem tz13 : tab.z 13 = some (([.str ⟨#[]⟩, .u64 0] : List SV)) := rfl
@[go_sem] theorem te13 : tab.eqp.getD 13 false = true := rfl
@[go_sem] theorem tf13_0 : tab.f 13 0 = some (0, 1, 9) := rfl
@[go_sem] theorem tf13_1 : tab.f 13 1 = some (1, 1, 12) := rfl
@[go_sem] theorem tk14 : tab.k 14 = .struct 2 := rfl
@[go_sem] theorem tz14 : tab.z 14 = some (([.str ⟨#[]⟩, .u64 0] : List SV)) := rfl
@[go_sem] theorem te14 : tab.eqp.getD 14 false = true := rfl
@[go_sem] theorem tf14_0 : tab.f 14 0 = some (0, 1, 9) := rfl
@[go_sem] theorem tf14_1 : tab.f 14 1 = some (1, 1, 12) := rfl
@[go_sem] theorem tk15 : tab.k 15 = .ptr := rfl
@[go_sem] theorem tz15 : tab.z 15 = some (([.pn] : List SV)) := rfl
@[go_sem] theorem tk16 : tab.k 16 = .ptr := rfl
@[go_sem] theorem tz16 : tab.z 16 = some (([.pn] : List SV)) := rfl
@[go_sem] theorem tk17 : tab.k 17 = .ptr := rfl
@[go_sem] theorem tz17 : tab.z 17 = some (([.pn] : List SV)) := rfl
@[go_sem] theorem tk18 : tab.k 18 = .struct 1 := rfl
@[go_sem] theorem tz18 : tab.z 18 = some (([.pn] : List SV)) := rfl
@[go_sem] theorem te18 : tab.eqp.getD 18 false = true := rfl
@[go_sem] theorem tf18_0 : tab.f 18 0 = some (0, 1, 17) := rfl
@[go_sem] theorem tk19 : tab.k 19 = .struct 1 := rfl
@[go_sem] theorem tz19 : tab.z 19 = some (([.pn] : List SV)) := rfl
@[go_sem] theorem te19 : tab.eqp.getD 19 false = true := rfl
@[go_sem] theorem tf19_0 : tab.f 19 0 = some (0, 1, 17) := rfl
@[go_sem] theorem tk20 : tab.k 20 = .iface := rfl
@[go_sem] theorem tz20 : tab.z 20 = some (([.inil] : List SV)) := rfl
@[go_sem] theorem tk21 : tab.k 21 = .int .i32 := rfl
@[go_sem] theorem tz21 : tab.z 21 = some (([.i .i32 0] : List SV)) := rfl
@[go_sem] theorem tk22 : tab.k 22 = .slice 5 1 1 := rfl
@[go_sem] theorem tz22 : tab.z 22 = some (([.sn] : List SV)) := rfl
@[go_sem] theorem tk23 : tab.k 23 = .slice 22 1 24 := rfl
@[go_sem] theorem tz23 : tab.z 23 = some (([.sn] : List SV)) := rfl
@[go_sem] theorem tk24 : tab.k 24 = .func := rfl
@[go_sem] theorem tz24 : tab.z 24 = some (([.fnil] : List SV)) := rfl
@[go_sem] theorem tk25 : tab.k 25 = .ptr := rfl
@[go_sem] theorem tz25 : tab.z 25 = some (([.pn] : List SV)) := rfl
@[go_sem] theorem tk26 : tab.k 26 = .slice 99 1 24 := rfl
@[go_sem] theorem tz26 : tab.z 26 = some (([.sn] : List SV)) := rfl
@[go_sem] theorem tk27 : tab.k 27 = .slice 101 1 24 := rfl
@[go_sem] theorem tz27 : tab.z 27 = some (([.sn] : List SV)) := rfl
@[go_sem] theorem tk28 : tab.k 28 = .slice 103 1 24 := rfl
@[go_sem] theorem tz28 : tab.z 28 = some (([.sn] : List SV)) := rfl
@[go_sem] theorem tk29 : tab.k 29 = .slice 23 1 24 := rfl
@[go_sem] theorem tz29 : tab.z 29 = some (([.sn] : List SV)) := rfl
@[go_sem] theorem tk30 : tab.k 30 = .slice 106 1 24 := rfl
@[go_sem] theorem tz30 : tab.z 30 = some (([.sn] : List SV)) := rfl
@[go_sem] theorem tk31 : tab.k 31 = .slice 108 1 24 := rfl
@[go_sem] theorem tz31 : tab.z 31 = some (([.sn] : List SV)) := rfl
@[go_sem] theorem tk32 : tab.k 32 = .slice 110 1 24 := rfl
@[go_sem] theorem tz32 : tab.z 32 = some (([.sn] : List SV)) := rfl
@[go_sem] theorem tk33 : tab.k 33 = .slice 112 1 24 := rfl
@[go_sem] theorem tz33 : tab.z 33 = some (([.sn] : List SV)) := rfl
@[go_sem] theorem tk34 : tab.k 34 = .slice 114 1 24 := rfl
@[go_sem] theorem tz34 : tab.z 34 = some (([.sn] : List SV)) := rfl
@[go_sem] theorem tk35 : tab.k 35 = .slice 116 1 24 := rfl
@[go_sem] theorem tz35 : tab.z 35 = some (([.sn] : List SV)) := rfl
@[go_sem] theorem tk36 : tab.k 36 = .slice 118 1 24 := rfl
@[go_sem] theorem tz36 : tab.z 36 = some (([.sn] : List SV)) := rfl
@[go_sem] theorem tk37 : tab.k 37 = .slice 120 1 24 := rfl
@[go_sem] theorem tz37 : tab.z 37 = some (([.sn] : List SV)) := rfl
@[go_sem] theorem tk38 : tab.k 38 = .slice 122 1 24 := rfl
@[go_sem] theorem tz38 : tab.z 38 = some (([.sn] : List SV)) := rfl
@[go_sem] theorem tk39 : tab.k 39 = .slice 124 1 24 := rfl
@[go_sem] theorem tz39 : tab.z 39 = some (([.sn] : List SV)) := rfl
@[go_sem] theorem tk40 : tab.k 40 = .slice 126 1 24 := rfl
@[go_sem] theorem tz40 : tab.z 40 = some (([.sn] : List SV)) := rfl
@[go_sem] theorem tk41 : tab.k 41 = .slice 128 1 24 := rfl
@[go_sem] theorem tz41 : tab.z 41 = some (([.sn] : List SV)) := rfl
@[go_sem] theorem tk42 : tab.k 42 = .struct 53 := rfl
@[go_sem] theorem tz42 : tab.z 42 = some (([.i .i64 0, .i .i64 0] ++ List.replicate 51 (.sn) : List SV)) := rfl
@[go_sem] theorem te42 : tab.eqp.getD 42 false = true := rfl
@[go_sem] theorem tf42_0 : tab.f 42 0 = some (0, 1, 3) := rfl
@[go_sem] theorem tf42_1 : tab.f 42 1 = some (1, 1, 3) := rfl
@[go_sem] theorem tf42_2 : tab.f 42 2 = some (2, 1, 23) := rfl
@[go_sem] theorem tf42_3 : tab.f 42 3 = some (3, 1, 23) := rfl
@[go_sem] theorem tf42_4 : tab.f 42 4 = some (4, 1, 23) := rfl
@[go_sem] theorem tf42_5 : tab.f 42 5 = some (5, 1, 26) := rfl
@[go_sem] theorem tf42_6 : tab.f 42 6 = some (6, 1, 26) := rfl
@[go_sem] theorem tf42_7 : tab.f 42 7 = some (7, 1, 26) := rfl
@[go_sem] theorem tf42_8 : tab.f 42 8 = some (8, 1, 27) := rfl
@[go_sem] theorem tf42_9 : tab.f 42 9 = some (9, 1, 27) := rfl
@[go_sem] theorem tf42_10 : tab.f 42 10 = some (10, 1, 27) := rfl
@[go_sem] theorem tf42_11 : tab.f 42 11 = some (11, 1, 28) := rfl
@[go_sem] theorem tf42_12 : tab.f 42 12 = some (12, 1, 28) := rfl
@[go_sem] theorem tf42_13 : tab.f 42 13 = some (13, 1, 28) := rfl
@[go_sem] theorem tf42_14 : tab.f 42 14 = some (14, 1, 29) := rfl
@[go_sem] theorem tf42_15 : tab.f 42 15 = some (15, 1, 29) := rfl
@[go_sem] theorem tf42_16 : tab.f 42 16 = some (16, 1, 29) := rfl
@[go_sem] theorem tf42_17 : tab.f 42 17 = some (17, 1, 30) := rfl
@[go_sem] theorem tf42_18 : tab.f 42 18 = some (18, 1, 30) := rfl
@[go_sem] theorem tf42_19 : tab.f 42 19 = some (19, 1, 30) := rfl
@[go_sem] theorem tf42_20 : tab.f 42 20 = some (20, 1, 31) := rfl
@[go_sem] theorem tf42_21 : tab.f 42 21 = some (21, 1, 31) := rfl
@[go_sem] theorem tf42_22 : tab.f 42 22 = some (22, 1, 31) := rfl
@[go_sem] theorem tf42_23 : tab.f 42 23 = some (23, 1, 32) := rfl
@[go_sem] theorem tf42_24 : tab.f 42 24 = some (24, 1, 32) := rfl
@[go_sem] theorem tf42_25 : tab.f 42 25 = some (25, 1, 32) := rfl
@[go_sem] theorem tf42_26 : tab.f 42 26 = some (26, 1, 33) := rfl
@[go_sem] theorem tf42_27 : tab.f 42 27 = some (27, 1, 33) := rfl
@[go_sem] theorem tf42_28 : tab.f 42 28 = some (28, 1, 33) := rfl
@[go_sem] theorem tf42_29 : tab.f 42 29 = some (29, 1, 34) := rfl
@[go_sem] theorem tf42_30 : tab.f 42 30 = some (30, 1, 34) := rfl
@[go_sem] theorem tf42_31 : tab.f 42 31 = some (31, 1, 34) := rfl
@[go_sem] theorem tf42_32 : tab.f 42 32 = some (32, 1, 35) := rfl
@[go_sem] theorem tf42_33 : tab.f 42 33 = some (33, 1, 35) := rfl
@[go_sem] theorem tf42_34 : tab.f 42 34 = some (34, 1, 35) := rfl
@[go_sem] theorem tf42_35 : tab.f 42 35 = some (35, 1, 36) := rfl
@[go_sem] theorem tf42_36 : tab.f 42 36 = some (36, 1, 36) := rfl
@[go_sem] theorem tf42_37 : tab.f 42 37 = some (37, 1, 36) := rfl
@[go_sem] theorem tf42_38 : tab.f 42 38 = some (38, 1, 37) := rfl
@[go_sem] theorem tf42_39 : tab.f 42 39 = some (39, 1, 37) := rfl
@[go_sem] theorem tf42_40 : tab.f 42 40 = some (40, 1, 37) := rfl
@[go_sem] theorem tf42_41 : tab.f 42 41 = some (41, 1, 38) := rfl
@[go_sem] theorem tf42_42 : tab.f 42 42 = some (42, 1, 38) := rfl
@[go_sem] theorem tf42_43 : tab.f 42 43 = some (43, 1, 38) := rfl
@[go_sem] theorem tf42_44 : tab.f 42 44 = some (44, 1, 39) := rfl
@[go_sem] theorem tf42_45 : tab.f 42 45 = some (45, 1, 39) := rfl
@[go_sem] theorem tf42_46 : tab.f 42 46 = some (46, 1, 39) := rfl
@[go_sem] theorem tf42_47 : tab.f 42 47 = some (47, 1, 40) := rfl
@[go_sem] theorem tf42_48 : tab.f 42 48 = some (48, 1, 40) := rfl
@[go_sem] theorem tf42_49 : tab.f 42 49 = some (49, 1, 40) := rfl
@[go_sem] theorem tf42_50 : tab.f 42 50 = some (50, 1, 41) := rfl
@[go_sem] theorem tf42_51 : tab.f 42 51 = some (51, 1, 41) := rfl
@[go_sem] theorem tf42_52 : tab.f 42 52 = some (52, 1, 41) := rfl
@[go_sem] theorem tk43 : tab.k 43 = .struct 53 := rfl
@[go_sem] theorem tz43 : tab.z 43 = some (([.i .i64 0, .i .i64 0] ++ List.replicate 51 (.sn) : List SV)) := rfl
@[go_sem] theorem te43 : tab.eqp.getD 43 false = true := rfl
@[go_sem] theorem tf43_0 : tab.f 43 0 = some (0, 1, 3) := rfl
@[go_sem] theorem tf43_1 : tab.f 43 1 = some (1, 1, 3) := rfl
@[go_sem] theorem tf43_2 : tab.f 43 2 = some (2, 1, 23) := rfl
@[go_sem] theorem tf43_3 : tab.f 43 3 = some (3, 1, 23) := rfl
@[go_sem] theorem tf43_4 : tab.f 43 4 = some (4, 1, 23) := rfl
@[go_sem] theorem tf43_5 : tab.f 43 5 = some (5, 1, 26) := rfl
@[go_sem] theorem tf43_6 : tab.f 43 6 = some (6, 1, 26) := rfl
@[go_sem] theorem tf43_7 : tab.f 43 7 = some (7, 1, 26) := rfl
@[go_sem] theorem tf43_8 : tab.f 43 8 = some (8, 1, 27) := rfl
@[go_sem] theorem tf43_9 : tab.f 43 9 = some (9, 1, 27) := rfl
@[go_sem] theorem tf43_10 : tab.f 43 10 = some (10, 1, 27) := rfl
@[go_sem] theorem tf43_11 : tab.f 43 11 = some (11, 1, 28) := rfl
@[go_sem] theorem tf43_12 : tab.f 43 12 = some (12, 1, 28) := rfl
@[go_sem] theorem tf43_13 : tab.f 43 13 = some (13, 1, 28) := rfl
@[go_sem] theorem tf43_14 : tab.f 43 14 = some (14, 1, 29) := rfl
@[go_sem] theorem tf43_15 : tab.f 43 15 = some (15, 1, 29) := rfl
@[go_sem] theorem tf43_16 : tab.f 43 16 = some (16, 1, 29) := rfl
@[go_sem] theorem tf43_17 : tab.f 43 17 = some (17, 1, 30) := rfl
@[go_sem] theorem tf43_18 : tab.f 43 18 = some (18, 1, 30) := rfl
@[go_sem] theorem tf43_19 : tab.f 43 19 = some (19, 1, 30) := rfl
@[go_sem] theorem tf43_20 : tab.f 43 20 = some (20, 1, 31) := rfl
@[go_sem] theorem tf43_21 : tab.f 43 21 = some (21, 1, 31) := rfl
@[go_sem] theorem tf43_22 : tab.f 43 22 = some (22, 1, 31) := rfl
@[go_sem] theorem tf43_23 : tab.f 43 23 = some (23, 1, 32) := rfl
@[go_sem] theorem tf43_24 : tab.f 43 24 = some (24, 1, 32) := rfl
@[go_sem] theorem tf43_25 : tab.f 43 25 = some (25, 1, 32) := rfl
@[go_sem] theorem tf43_26 : tab.f 43 26 = some (26, 1, 33) := rfl
@[go_sem] theorem tf43_27 : tab.f 43 27 = some (27, 1, 33) := rfl
@[go_sem] theorem tf43_28 : tab.f 43 28 = some (28, 1, 33) := rfl
@[go_sem] theorem tf43_29 : tab.f 43 29 = some (29, 1, 34) := rfl
@[go_sem] theorem tf43_30 : tab.f 43 30 = some (30, 1, 34) := rfl
@[go_sem] theorem tf43_31 : tab.f 43 31 = some (31, 1, 34) := rfl
@[go_sem] theorem tf43_32 : tab.f 43 32 = some (32, 1, 35) := rfl
@[go_sem] theorem tf43_33 : tab.f 43 33 = some (33, 1, 35) := rfl
@[go_sem] theorem tf43_34 : tab.f 43 34 = some (34, 1, 35) := rfl
@[go_sem] theorem tf43_35 : tab.f 43 35 = some (35, 1, 36) := rfl
@[go_sem] theorem tf43_36 : tab.f 43 36 = some (36, 1, 36) := rfl
@[go_sem] theorem tf43_37 : tab.f 43 37 = some (37, 1, 36) := rfl
@[go_sem] theorem tf43_38 : tab.f 43 38 = some (38, 1, 37) := rfl
@[go_sem] theorem tf43_39 : tab.f 43 39 = some (39, 1, 37) := rfl
@[go_sem] theorem tf43_40 : tab.f 43 40 = some (40, 1, 37) := rfl
@[go_sem] theorem tf43_41 : tab.f 43 41 = some (41, 1, 38) := rfl
@[go_sem] theorem tf43_42 : tab.f 43 42 = some (42, 1, 38) := rfl
@[go_sem] theorem tf43_43 : tab.f 43 43 = some (43, 1, 38) := rfl
@[go_sem] theorem tf43_44 : tab.f 43 44 = some (44, 1, 39) := rfl
@[go_sem] theorem tf43_45 : tab.f 43 45 = some (45, 1, 39) := rfl
@[go_sem] theorem tf43_46 : tab.f 43 46 = some (46, 1, 39) := rfl
@[go_sem] theorem tf43_47 : tab.f 43 47 = some (47, 1, 40) := rfl
@[go_sem] theorem tf43_48 : tab.f 43 48 = some (48, 1, 40) := rfl
@[go_sem] theorem tf43_49 : tab.f 43 49 = some (49, 1, 40) := rfl
@[go_sem] theorem tf43_50 : tab.f 43 50 = some (50, 1, 41) := rfl
@[go_sem] theorem tf43_51 : tab.f 43 51 = some (51, 1, 41) := rfl
@[go_sem] theorem tf43_52 : tab.f 43 52 = some (52, 1, 41) := rfl
@[go_sem] theorem tk44 : tab.k 44 = .func := rfl
@[go_sem] theorem tz44 : tab.z 44 = some (([.fnil] : List SV)) := rfl
@[go_sem] theorem tk45 : tab.k 45 = .int .i64 := rfl
@[go_sem] theorem tz45 : tab.z 45 = some (([.i .i64 0] : List SV)) := rfl
@[go_sem] theorem tk47 : tab.k 47 = .func := rfl
@[go_sem] theorem tz47 : tab.z 47 = some (([.fnil] : List SV)) := rfl
@[go_sem] theorem tk48 : tab.k 48 = .func := rfl
@[go_sem] theorem tz48 : tab.z 48 = some (([.fnil] : List SV)) := rfl
@[go_sem] theorem tk49 : tab.k 49 = .func := rfl
@[go_sem] theorem tz49 : tab.z 49 = some (([.fnil] : List SV)) := rfl
@[go_sem] theorem tk51 : tab.k 51 = .func := rfl
@[go_sem] theorem tz51 : tab.z 51 = some (([.fnil] : List SV)) := rfl
@[go_sem] theorem tk52 : tab.k 52 = .func := rfl
@[go_sem] theorem tz52 : tab.z 52 = some (([.fnil] : List SV)) := rfl
@[go_sem] theorem tk54 : tab.k 54 = .func := rfl
@[go_sem] theorem tz54 : tab.z 54 = some (([.fnil] : List SV)) := rfl
@[go_sem] theorem tk55 : tab.k 55 = .func := rfl
@[go_sem] theorem tz55 : tab.z 55 = some (([.fnil] : List SV)) := rfl
@[go_sem] theorem tk56 : tab.k 56 = .func := rfl
@[go_sem] theorem tz56 : tab.z 56 = some (([.fnil] : List SV)) := rfl
@[go_sem] theorem tk57 : tab.k 57 = .ptr := rfl
@[go_sem] theorem tz57 : tab.z 57 = some (([.pn] : List SV)) := rfl
@[go_sem] theorem tk59 : tab.k 59 = .func := rfl
@[go_sem] theorem tz59 : tab.z 59 = some (([.fnil] : List SV)) := rfl
@[go_sem] theorem tk60 : tab.k 60 = .func := rfl
@[go_sem] theorem tz60 : tab.z 60 = some (([.fnil] : List SV)) := rfl
@[go_sem] theorem tk61 : tab.k 61 = .arr 16 5 1 16 := rfl
@[go_sem] theorem tz61 : tab.z 61 = some (bS (List.replicate 16 0#8)) := rfl
@[go_sem] theorem te61 : tab.eqp.getD 61 false = true := rfl
@[go_sem] theorem tk62 : tab.k 62 = .func := rfl
@[go_sem] theorem tz62 : tab.z 62 = some (([.fnil] : List SV)) := rfl
@[go_sem] theorem tk63 : tab.k 63 = .ptr := rfl
@[go_sem] theorem tz63 : tab.z 63 = some (([.pn] : List SV)) := rfl
@[go_sem] theorem tk65 : tab.k 65 = .func := rfl
@[go_sem] theorem tz65 : tab.z 65 = some (([.fnil] : List SV)) := rfl
@[go_sem] theorem tk66 : tab.k 66 = .func := rfl
@[go_sem] theorem tz66 : tab.z 66 = some (([.fnil] : List SV)) := rfl
@[go_sem] theorem tk67 : tab.k 67 = .func := rfl
@[go_sem] theorem tz67 : tab.z 67 = some (([.fnil] : List SV)) := rfl
@[go_sem] theorem tk69 : tab.k 69 = .func := rfl
@[go_sem] theorem tz69 : tab.z 69 = some (([.fnil] : List SV)) := rfl
@[go_sem] theorem tk70 : tab.k 70 = .arr 256 5 1 256 := rfl
@[go_sem] theorem tz70 : tab.z 70 = some (bS (List.replicate 256 0#8)) := rfl
@[go_sem] theorem te70 : tab.eqp.getD 70 false = true := rfl
@[go_sem] theorem tk71 : tab.k 71 = .arr 16 5 1 16 := rfl
@[go_sem] theorem tz71 : tab.z 71 = some (bS (List.replicate 16 0#8)) := rfl
@[go_sem] theorem te71 : tab.eqp.getD 71 false = true := rfl
@[go_sem] theorem tk72 : tab.k 72 = .arr 15 71 16 240 := rfl
@[go_sem] theorem tz72 : tab.z 72 = some (bS (List.replicate 240 0#8)) := rfl
@[go_sem] theorem te72 : tab.eqp.getD 72 false = true := rfl
@[go_sem] theorem tk73 : tab.k 73 = .struct 496 := rfl
@[go_sem] theorem tz73 : tab.z 73 = some (bS (List.replicate 496 0#8)) := rfl
@[go_sem] theorem te73 : tab.eqp.getD 73 false = true := rfl
@[go_sem] theorem tf73_0 : tab.f 73 0 = some (0, 256, 70) := rfl
@[go_sem] theorem tf73_1 : tab.f 73 1 = some (256, 240, 72) := rfl
@[go_sem] theorem tk74 : tab.k 74 = .struct 496 := rfl
@[go_sem] theorem tz74 : tab.z 74 = some (bS (List.replicate 496 0#8)) := rfl
@[go_sem] theorem te74 : tab.eqp.getD 74 false = true := rfl
@[go_sem] theorem tf74_0 : tab.f 74 0 = some (0, 256, 70) := rfl
@[go_sem] theorem tf74_1 : tab.f 74 1 = some (256, 240, 72) := rfl
@[go_sem] theorem tk75 : tab.k 75 = .func := rfl
@[go_sem] theorem tz75 : tab.z 75 = some (([.fnil] : List SV)) := rfl
@[go_sem] theorem tk76 : tab.k 76 = .arr 4 5 1 4 := rfl
@[go_sem] theorem tz76 : tab.z 76 = some (bS (List.replicate 4 0#8)) := rfl
@[go_sem] theorem te76 : tab.eqp.getD 76 false = true := rfl
@[go_sem] theorem tk77 : tab.k 77 = .arr 4 5 1 4 := rfl
@[go_sem] theorem tz77 : tab.z 77 = some (bS (List.replicate 4 0#8)) := rfl
@[go_sem] theorem te77 : tab.eqp.getD 77 false = true := rfl
@[go_sem] theorem tk78 : tab.k 78 = .arr 60 77 4 240 := rfl
@[go_sem] theorem tz78 : tab.z 78 = some (bS (List.replicate 240 0#8)) := rfl
@[go_sem] theorem te78 : tab.eqp.getD 78 false = true := rfl
@[go_sem] theorem tk79 : tab.k 79 = .func := rfl
@[go_sem] theorem tz79 : tab.z 79 = some (([.fnil] : List SV)) := rfl
@[go_sem] theorem tk80 : tab.k 80 = .func := rfl
@[go_sem] theorem tz80 : tab.z 80 = some (([.fnil] : List SV)) := rfl
@[go_sem] theorem tk81 : tab.k 81 = .func := rfl
@[go_sem] theorem tz81 : tab.z 81 = some (([.fnil] : List SV)) := rfl
@[go_sem] theorem tk82 : tab.k 82 = .func := rfl
@[go_sem] theorem tz82 : tab.z 82 = some (([.fnil] : List SV)) := rfl
@[go_sem] theorem tk83 : tab.k 83 = .func := rfl
@[go_sem] theorem tz83 : tab.z 83 = some (([.fnil] : List SV)) := rfl
@[go_sem] theorem tk84 : tab.k 84 = .func := rfl
@[go_sem] theorem tz84 : tab.z 84 = some (([.fnil] : List SV)) := rfl
@[go_sem] theorem tk85 : tab.k 85 = .func := rfl
@[go_sem] theorem tz85 : tab.z 85 = some (([.fnil] : List SV)) := rfl
@[go_sem] theorem tk86 : tab.k 86 = .func := rfl
@[go_sem] theorem tz86 : tab.z 86 = some (([.fnil] : List SV)) := rfl
@[go_sem] theorem tk87 : tab.k 87 = .func := rfl
@[go_sem] theorem tz87 : tab.z 87 = some (([.fnil] : List SV)) := rfl
@[go_sem] theorem tk88 : tab.k 88 = .int .u32 := rfl
@[go_sem] theorem tz88 : tab.z 88 = some (([.u32 0] : List SV)) := rfl
@[go_sem] theorem tk89 : tab.k 89 = .func := rfl
@[go_sem] theorem tz89 : tab.z 89 = some (([.fnil] : List SV)) := rfl
@[go_sem] theorem tk90 : tab.k 90 = .func := rfl
@[go_sem] theorem tz90 : tab.z 90 = some (([.fnil] : List SV)) := rfl
@[go_sem] theorem tk91 : tab.k 91 = .arr 240 5 1 240 := rfl
@[go_sem] theorem tz91 : tab.z 91 = some (bS (List.replicate 240 0#8)) := rfl
@[go_sem] theorem te91 : tab.eqp.getD 91 false = true := rfl
@[go_sem] theorem tk92 : tab.k 92 = .struct 752 := rfl
@[go_sem] theorem tz92 : tab.z 92 = some (bS (List.replicate 752 0#8)) := rfl
@[go_sem] theorem te92 : tab.eqp.getD 92 false = true := rfl
@[go_sem] theorem tf92_0 : tab.f 92 0 = some (0, 256, 70) := rfl
@[go_sem] theorem tf92_1 : tab.f 92 1 = some (256, 256, 70) := rfl
@[go_sem] theorem tf92_2 : tab.f 92 2 = some (512, 240, 91) := rfl
@[go_sem] theorem tk93 : tab.k 93 = .struct 752 := rfl
@[go_sem] theorem tz93 : tab.z 93 = some (bS (List.replicate 752 0#8)) := rfl
@[go_sem] theorem te93 : tab.eqp.getD 93 false = true := rfl
@[go_sem] theorem tf93_0 : tab.f 93 0 = some (0, 256, 70) := rfl
@[go_sem] theorem tf93_1 : tab.f 93 1 = some (256, 256, 70) := rfl
@[go_sem] theorem tf93_2 : tab.f 93 2 = some (512, 240, 91) := rfl
@[go_sem] theorem tk94 : tab.k 94 = .func := rfl
@[go_sem] theorem tz94 : tab.z 94 = some (([.fnil] : List SV)) := rfl
@[go_sem] theorem tk95 : tab.k 95 = .func := rfl
@[go_sem] theorem tz95 : tab.z 95 = some (([.fnil] : List SV)) := rfl
@[go_sem] theorem tk96 : tab.k 96 = .int .u64 := rfl
@[go_sem] theorem tz96 : tab.z 96 = some (([.u64 0] : List SV)) := rfl
@[go_sem] theorem tk97 : tab.k 97 = .func := rfl
@[go_sem] theorem tz97 : tab.z 97 = some (([.fnil] : List SV)) := rfl
@[go_sem] theorem tk98 : tab.k 98 = .func := rfl
@[go_sem] theorem tz98 : tab.z 98 = some (([.fnil] : List SV)) := rfl
@[go_sem] theorem tk99 : tab.k 99 = .slice 4 1 1 := rfl
@[go_sem] theorem tz99 : tab.z 99 = some (([.sn] : List SV)) := rfl
@[go_sem] theorem tk100 : tab.k 100 = .func := rfl
@[go_sem] theorem tz100 : tab.z 100 = some (([.fnil] : List SV)) := rfl
@[go_sem] theorem tk101 : tab.k 101 = .slice 3 1 8 := rfl
@[go_sem] theorem tz101 : tab.z 101 = some (([.sn] : List SV)) := rfl
@[go_sem] theorem tk102 : tab.k 102 = .func := rfl
@[go_sem] theorem tz102 : tab.z 102 = some (([.fnil] : List SV)) := rfl
@[go_sem] theorem tk103 : tab.k 103 = .slice 9 1 16 := rfl
@[go_sem] theorem tz103 : tab.z 103 = some (([.sn] : List SV)) := rfl
@[go_sem] theorem tk104 : tab.k 104 = .func := rfl
@[go_sem] theorem tz104 : tab.z 104 = some (([.fnil] : List SV)) := rfl
@[go_sem] theorem tk105 : tab.k 105 = .func := rfl
@[go_sem] theorem tz105 : tab.z 105 = some (([.fnil] : List SV)) := rfl
@[go_sem] theorem tk106 : tab.k 106 = .slice 160 4 32 := rfl
@[go_sem] theorem tz106 : tab.z 106 = some (([.sn] : List SV)) := rfl
@[go_sem] theorem tk107 : tab.k 107 = .func := rfl
@[go_sem] theorem tz107 : tab.z 107 = some (([.fnil] : List SV)) := rfl
@[go_sem] theorem tk108 : tab.k 108 = .slice 140 3 24 := rfl
@[go_sem] theorem tz108 : tab.z 108 = some (([.sn] : List SV)) := rfl
@[go_sem] theorem tk109 : tab.k 109 = .func := rfl
@[go_sem] theorem tz109 : tab.z 109 = some (([.fnil] : List SV)) := rfl
@[go_sem] theorem tk110 : tab.k 110 = .slice 164 3 56 := rfl
@[go_sem] theorem tz110 : tab.z 110 = some (([.sn] : List SV)) := rfl
@[go_sem] theorem tk111 : tab.k 111 = .func := rfl
@[go_sem] theorem tz111 : tab.z 111 = some (([.fnil] : List SV)) := rfl
@[go_sem] theorem tk112 : tab.k 112 = .slice 167 8 80 := rfl
@[go_sem] theorem tz112 : tab.z 112 = some (([.sn] : List SV)) := rfl
@[go_sem] theorem tk113 : tab.k 113 = .func := rfl
@[go_sem] theorem tz113 : tab.z 113 = some (([.fnil] : List SV)) := rfl
@[go_sem] theorem tk114 : tab.k 114 = .slice 170 2 48 := rfl
@[go_sem] theorem tz114 : tab.z 114 = some (([.sn] : List SV)) := rfl
@[go_sem] theorem tk115 : tab.k 115 = .func := rfl
@[go_sem] theorem tz115 : tab.z 115 = some (([.fnil] : List SV)) := rfl
@[go_sem] theorem tk116 : tab.k 116 = .slice 173 3 56 := rfl
@[go_sem] theorem tz116 : tab.z 116 = some (([.sn] : List SV)) := rfl
@[go_sem] theorem tk117 : tab.k 117 = .func := rfl
@[go_sem] theorem tz117 : tab.z 117 = some (([.fnil] : List SV)) := rfl
@[go_sem] theorem tk118 : tab.k 118 = .slice 176 2 32 := rfl
@[go_sem] theorem tz118 : tab.z 118 = some (([.sn] : List SV)) := rfl
@[go_sem] theorem tk119 : tab.k 119 = .func := rfl
@[go_sem] theorem tz119 : tab.z 119 = some (([.fnil] : List SV)) := rfl
@[go_sem] theorem tk120 : tab.k 120 = .slice 179 8 80 := rfl
@[go_sem] theorem tz120 : tab.z 120 = some (([.sn] : List SV)) := rfl
@[go_sem] theorem tk121 : tab.k 121 = .func := rfl
@[go_sem] theorem tz121 : tab.z 121 = some (([.fnil] : List SV)) := rfl
@[go_sem] theorem tk122 : tab.k 122 = .slice 182 2 16 := rfl
@[go_sem] theorem tz122 : tab.z 122 = some (([.sn] : List SV)) := rfl
@[go_sem] theorem tk123 : tab.k 123 = .func := rfl
@[go_sem] theorem tz123 : tab.z 123 = some (([.fnil] : List SV)) := rfl
@[go_sem] theorem tk124 : tab.k 124 = .slice 185 3 40 := rfl
@[go_sem] theorem tz124 : tab.z 124 = some (([.sn] : List SV)) := rfl
@[go_sem] theorem tk125 : tab.k 125 = .func := rfl
@[go_sem] theorem tz125 : tab.z 125 = some (([.fnil] : List SV)) := rfl
@[go_sem] theorem tk126 : tab.k 126 = .slice 190 14 176 := rfl
@[go_sem] theorem tz126 : tab.z 126 = some (([.sn] : List SV)) := rfl
@[go_sem] theorem tk127 : tab.k 127 = .func := rfl
@[go_sem] theorem tz127 : tab.z 127 = some (([.fnil] : List SV)) := rfl
@[go_sem] theorem tk128 : tab.k 128 = .slice 193 21 248 := rfl
@[go_sem] theorem tz128 : tab.z 128 = some (([.sn] : List SV)) := rfl
@[go_sem] theorem tk129 : tab.k 129 = .arr 5 3 1 5 := rfl
@[go_sem] theorem tz129 : tab.z 129 = some (([.i .i64 0, .i .i64 0, .i .i64 0, .i .i64 0, .i .i64 0] : List SV)) := rfl
@[go_sem] theorem te129 : tab.eqp.getD 129 false = true := rfl
@[go_sem] theorem tk130 : tab.k 130 = .func := rfl
@[go_sem] theorem tz130 : tab.z 130 = some (([.fnil] : List SV)) := rfl
@[go_sem] theorem tk131 : tab.k 131 = .arr 4 5 1 4 := rfl
@[go_sem] theorem tz131 : tab.z 131 = some (bS (List.replicate 4 0#8)) := rfl
@[go_sem] theorem te131 : tab.eqp.getD 131 false = true := rfl
@[go_sem] theorem tk132 : tab.k 132 = .func := rfl
@[go_sem] theorem tz132 : tab.z 132 = some (([.fnil] : List SV)) := rfl
@[go_sem] theorem tk133 : tab.k 133 = .int .u64 := rfl
@[go_sem] theorem tz133 : tab.z 133 = some (([.u64 0] : List SV)) := rfl
@[go_sem] theorem tk134 : tab.k 134 = .func := rfl
@[go_sem] theorem tz134 : tab.z 134 = some (([.fnil] : List SV)) := rfl
@[go_sem] theorem tk135 : tab.k 135 = .func := rfl
@[go_sem] theorem tz135 : tab.z 135 = some (([.fnil] : List SV)) := rfl
@[go_sem] theorem tk136 : tab.k 136 = .func := rfl
@[go_sem] theorem tz136 : tab.z 136 = some (([.fnil] : List SV)) := rfl
@[go_sem] theorem tk137 : tab.k 137 = .struct 2 := rfl
@[go_sem] theorem tz137 : tab.z 137 = some (([.i .i64 0, .i .i64 0] : List SV)) := rfl
@[go_sem] theorem tq137 : tab.eqk.getD 137 none = some [.i64, .i64] := rfl
@[go_sem] theorem te137 : tab.eqp.getD 137 false = true := rfl
@[go_sem] theorem tf137_0 : tab.f 137 0 = some (0, 1, 3) := rfl
@[go_sem] theorem tf137_1 : tab.f 137 1 = some (1, 1, 3) := rfl
@[go_sem] theorem tk138 : tab.k 138 = .struct 2 := rfl
@[go_sem] theorem tz138 : tab.z 138 = some (([.i .i64 0, .i .i64 0] : List SV)) := rfl
@[go_sem] theorem tq138 : tab.eqk.getD 138 none = some [.i64, .i64] := rfl
@[go_sem] theorem te138 : tab.eqp.getD 138 false = true := rfl
@[go_sem] theorem tf138_0 : tab.f 138 0 = some (0, 1, 3) := rfl
@[go_sem] theorem tf138_1 : tab.f 138 1 = some (1, 1, 3) := rfl
@[go_sem] theorem tk139 : tab.k 139 = .struct 3 := rfl
@[go_sem] theorem tz139 : tab.z 139 = some (([.i .i64 0, .i .i64 0, .i .i64 0] : List SV)) := rfl
@[go_sem] theorem tq139 : tab.eqk.getD 139 none = some [.i64, .i64, .i64] := rfl
@[go_sem] theorem te139 : tab.eqp.getD 139 false = true := rfl
@[go_sem] theorem tf139_0 : tab.f 139 0 = some (0, 1, 3) := rfl
@[go_sem] theorem tf139_1 : tab.f 139 1 = some (1, 2, 138) := rfl
@[go_sem] theorem tk140 : tab.k 140 = .struct 3 := rfl
@[go_sem] theorem tz140 : tab.z 140 = some (([.i .i64 0, .i .i64 0, .i .i64 0] : List SV)) := rfl
@[go_sem] theorem tq140 : tab.eqk.getD 140 none = some [.i64, .i64, .i64] := rfl
@[go_sem] theorem te140 : tab.eqp.getD 140 false = true := rfl
@[go_sem] theorem tf140_0 : tab.f 140 0 = some (0, 1, 3) := rfl
@[go_sem] theorem tf140_1 : tab.f 140 1 = some (1, 2, 138) := rfl
@[go_sem] theorem tk141 : tab.k 141 = .func := rfl
@[go_sem] theorem tz141 : tab.z 141 = some (([.fnil] : List SV)) := rfl
@[go_sem] theorem tk142 : tab.k 142 = .func := rfl
@[go_sem] theorem tz142 : tab.z 142 = some (([.fnil] : List SV)) := rfl
@[go_sem] theorem tk143 : tab.k 143 = .func := rfl
@[go_sem] theorem tz143 : tab.z 143 = some (([.fnil] : List SV)) := rfl
@[go_sem] theorem tk144 : tab.k 144 = .func := rfl
@[go_sem] theorem tz144 : tab.z 144 = some (([.fnil] : List SV)) := rfl
@[go_sem] theorem tk145 : tab.k 145 = .func := rfl
@[go_sem] theorem tz145 : tab.z 145 = some (([.fnil] : List SV)) := rfl
@[go_sem] theorem tk146 : tab.k 146 = .func := rfl
@[go_sem] theorem tz146 : tab.z 146 = some (([.fnil] : List SV)) := rfl
@[go_sem] theorem tk147 : tab.k 147 = .func := rfl
@[go_sem] theorem tz147 : tab.z 147 = some (([.fnil] : List SV)) := rfl
@[go_sem] theorem tk148 : tab.k 148 = .func := rfl
@[go_sem] theorem tz148 : tab.z 148 = some (([.fnil] : List SV)) := rfl
@[go_sem] theorem tk149 : tab.k 149 = .func := rfl
@[go_sem] theorem tz149 : tab.z 149 = some (([.fnil] : List SV)) := rfl
@[go_sem] theorem tk150 : tab.k 150 = .func := rfl
@[go_sem] theorem tz150 : tab.z 150 = some (([.fnil] : List SV)) := rfl
@[go_sem] theorem tk151 : tab.k 151 = .func := rfl
@[go_sem] theorem tz151 : tab.z 151 = some (([.fnil] : List SV)) := rfl
@[go_sem] theorem tk152 : tab.k 152 = .func := rfl
@[go_sem] theorem tz152 : tab.z 152 = some (([.fnil] : List SV)) := rfl
@[go_sem] theorem tk153 : tab.k 153 = .func := rfl
@[go_sem] theorem tz153 : tab.z 153 = some (([.fnil] : List SV)) := rfl
@[go_sem] theorem tk154 : tab.k 154 = .func := rfl
@[go_sem] theorem tz154 : tab.z 154 = some (([.fnil] : List SV)) := rfl
@[go_sem] theorem tk155 : tab.k 155 = .func := rfl
@[go_sem] theorem tz155 : tab.z 155 = some (([.fnil] : List SV)) := rfl
@[go_sem] theorem tk156 : tab.k 156 = .func := rfl
@[go_sem] theorem tz156 : tab.z 156 = some (([.fnil] : List SV)) := rfl
@[go_sem] theorem tk157 : tab.k 157 = .struct 3 := rfl
@[go_sem] theorem tz157 : tab.z 157 = some (([.i .i64 0, .u64 0, .u64 0] : List SV)) := rfl
@[go_sem] theorem tq157 : tab.eqk.getD 157 none = some [.i64, .u64, .u64] := rfl
@[go_sem] theorem te157 : tab.eqp.getD 157 false = true := rfl
@[go_sem] theorem tf157_0 : tab.f 157 0 = some (0, 1, 3) := rfl
@[go_sem] theorem tf157_1 : tab.f 157 1 = some (1, 1, 133) := rfl
@[go_sem] theorem tf157_2 : tab.f 157 2 = some (2, 1, 133) := rfl
@[go_sem] theorem tk158 : tab.k 158 = .struct 3 := rfl
@[go_sem] theorem tz158 : tab.z 158 = some (([.i .i64 0, .u64 0, .u64 0] : List SV)) := rfl
@[go_sem] theorem tq158 : tab.eqk.getD 158 none = some [.i64, .u64, .u64] := rfl
@[go_sem] theorem te158 : tab.eqp.getD 158 false = true := rfl
@[go_sem] theorem tf158_0 : tab.f 158 0 = some (0, 1, 3) := rfl
@[go_sem] theorem tf158_1 : tab.f 158 1 = some (1, 1, 133) := rfl
@[go_sem] theorem tf158_2 : tab.f 158 2 = some (2, 1, 133) := rfl
@[go_sem] theorem tk159 : tab.k 159 = .struct 4 := rfl
@[go_sem] theorem tz159 : tab.z 159 = some (([.i .i64 0, .u64 0, .u64 0, .i .i64 0] : List SV)) := rfl
@[go_sem] theorem tq159 : tab.eqk.getD 159 none = some [.i64, .u64, .u64, .i64] := rfl
@[go_sem] theorem te159 : tab.eqp.getD 159 false = true := rfl
@[go_sem] theorem tf159_0 : tab.f 159 0 = some (0, 3, 158) := rfl
@[go_sem] theorem tf159_1 : tab.f 159 1 = some (3, 1, 3) := rfl
@[go_sem] theorem tk160 : tab.k 160 = .struct 4 := rfl
@[go_sem] theorem tz160 : tab.z 160 = some (([.i .i64 0, .u64 0, .u64 0, .i .i64 0] : List SV)) := rfl
@[go_sem] theorem tq160 : tab.eqk.getD 160 none = some [.i64, .u64, .u64, .i64] := rfl
@[go_sem] theorem te160 : tab.eqp.getD 160 false = true := rfl
@[go_sem] theorem tf160_0 : tab.f 160 0 = some (0, 3, 158) := rfl
@[go_sem] theorem tf160_1 : tab.f 160 1 = some (3, 1, 3) := rfl
@[go_sem] theorem tk161 : tab.k 161 = .func := rfl
@[go_sem] theorem tz161 : tab.z 161 = some (([.fnil] : List SV)) := rfl
@[go_sem] theorem tk162 : tab.k 162 = .func := rfl
@[go_sem] theorem tz162 : tab.z 162 = some (([.fnil] : List SV)) := rfl
@[go_sem] theorem tk163 : tab.k 163 = .struct 3 := rfl
@[go_sem] theorem tz163 : tab.z 163 = some (([.i .i64 0, .sn, .sn] : List SV)) := rfl
@[go_sem] theorem te163 : tab.eqp.getD 163 false = true := rfl
@[go_sem] theorem tf163_0 : tab.f 163 0 = some (0, 1, 3) := rfl
@[go_sem] theorem tf163_1 : tab.f 163 1 = some (1, 1, 22) := rfl
@[go_sem] theorem tf163_2 : tab.f 163 2 = some (2, 1, 106) := rfl
@[go_sem] theorem tk164 : tab.k 164 = .struct 3 := rfl
@[go_sem] theorem tz164 : tab.z 164 = some (([.i .i64 0, .sn, .sn] : List SV)) := rfl
@[go_sem] theorem te164 : tab.eqp.getD 164 false = true := rfl
@[go_sem] theorem tf164_0 : tab.f 164 0 = some (0, 1, 3) := rfl
@[go_sem] theorem tf164_1 : tab.f 164 1 = some (1, 1, 22) := rfl
@[go_sem] theorem tf164_2 : tab.f 164 2 = some (2, 1, 106) := rfl
@[go_sem] theorem tk165 : tab.k 165 = .func := rfl
@[go_sem] theorem tz165 : tab.z 165 = some (([.fnil] : List SV)) := rfl
@[go_sem] theorem tk166 : tab.k 166 = .struct 8 := rfl
@[go_sem] theorem tz166 : tab.z 166 = some (([.sn, .i .i64 0, .i .i64 0, .i .i64 0, .u64 0, .u64 0, .i .i64 0, .i .i64 0] : List SV)) := rfl
@[go_sem] theorem te166 : tab.eqp.getD 166 false = true := rfl
@[go_sem] theorem tf166_0 : tab.f 166 0 = some (0, 1, 22) := rfl
@[go_sem] theorem tf166_1 : tab.f 166 1 = some (1, 1, 3) := rfl
@[go_sem] theorem tf166_2 : tab.f 166 2 = some (2, 1, 3) := rfl
@[go_sem] theorem tf166_3 : tab.f 166 3 = some (3, 1, 3) := rfl
@[go_sem] theorem tf166_4 : tab.f 166 4 = some (4, 1, 133) := rfl
@[go_sem] theorem tf166_5 : tab.f 166 5 = some (5, 1, 133) := rfl
@[go_sem] theorem tf166_6 : tab.f 166 6 = some (6, 2, 138) := rfl
@[go_sem] theorem tk167 : tab.k 167 = .struct 8 := rfl
@[go_sem] theorem tz167 : tab.z 167 = some (([.sn, .i .i64 0, .i .i64 0, .i .i64 0, .u64 0, .u64 0, .i .i64 0, .i .i64 0] : List SV)) := rfl
@[go_sem] theorem te167 : tab.eqp.getD 167 false = true := rfl
@[go_sem] theorem tf167_0 : tab.f 167 0 = some (0, 1, 22) := rfl
@[go_sem] theorem tf167_1 : tab.f 167 1 = some (1, 1, 3) := rfl
@[go_sem] theorem tf167_2 : tab.f 167 2 = some (2, 1, 3) := rfl
@[go_sem] theorem tf167_3 : tab.f 167 3 = some (3, 1, 3) := rfl
@[go_sem] theorem tf167_4 : tab.f 167 4 = some (4, 1, 133) := rfl
@[go_sem] theorem tf167_5 : tab.f 167 5 = some (5, 1, 133) := rfl
@[go_sem] theorem tf167_6 : tab.f 167 6 = some (6, 2, 138) := rfl
@[go_sem] theorem tk168 : tab.k 168 = .func := rfl
@[go_sem] theorem tz168 : tab.z 168 = some (([.fnil] : List SV)) := rfl
@[go_sem] theorem tk169 : tab.k 169 = .struct 2 := rfl
@[go_sem] theorem tz169 : tab.z 169 = some (([.sn, .sn] : List SV)) := rfl
@[go_sem] theorem te169 : tab.eqp.getD 169 false = true := rfl
@[go_sem] theorem tf169_0 : tab.f 169 0 = some (0, 1, 22) := rfl
@[go_sem] theorem tf169_1 : tab.f 169 1 = some (1, 1, 22) := rfl
@[go_sem] theorem tk170 : tab.k 170 = .struct 2 := rfl
@[go_sem] theorem tz170 : tab.z 170 = some (([.sn, .sn] : List SV)) := rfl
@[go_sem] theorem te170 : tab.eqp.getD 170 false = true := rfl
@[go_sem] theorem tf170_0 : tab.f 170 0 = some (0, 1, 22) := rfl
@[go_sem] theorem tf170_1 : tab.f 170 1 = some (1, 1, 22) := rfl
@[go_sem] theorem tk171 : tab.k 171 = .func := rfl
@[go_sem] theorem tz171 : tab.z 171 = some (([.fnil] : List SV)) := rfl
@[go_sem] theorem tk172 : tab.k 172 = .struct 3 := rfl
@[go_sem] theorem tz172 : tab.z 172 = some (([.sn, .sn, .b false] : List SV)) := rfl
@[go_sem] theorem te172 : tab.eqp.getD 172 false = true := rfl
@[go_sem] theorem tf172_0 : tab.f 172 0 = some (0, 1, 22) := rfl
@[go_sem] theorem tf172_1 : tab.f 172 1 = some (1, 1, 22) := rfl
@[go_sem] theorem tf172_2 : tab.f 172 2 = some (2, 1, 4) := rfl
@[go_sem] theorem tk173 : tab.k 173 = .struct 3 := rfl
@[go_sem] theorem tz173 : tab.z 173 = some (([.sn, .sn, .b false] : List SV)) := rfl
@[go_sem] theorem te173 : tab.eqp.getD 173 false = true := rfl
@[go_sem] theorem tf173_0 : tab.f 173 0 = some (0, 1, 22) := rfl
@[go_sem] theorem tf173_1 : tab.f 173 1 = some (1, 1, 22) := rfl
@[go_sem] theorem tf173_2 : tab.f 173 2 = some (2, 1, 4) := rfl
@[go_sem] theorem tk174 : tab.k 174 = .func := rfl
@[go_sem] theorem tz174 : tab.z 174 = some (([.fnil] : List SV)) := rfl
@[go_sem] theorem tk175 : tab.k 175 = .struct 2 := rfl
@[go_sem] theorem tz175 : tab.z 175 = some (([.i .i64 0, .sn] : List SV)) := rfl
@[go_sem] theorem te175 : tab.eqp.getD 175 false = true := rfl
@[go_sem] theorem tf175_0 : tab.f 175 0 = some (0, 1, 3) := rfl
@[go_sem] theorem tf175_1 : tab.f 175 1 = some (1, 1, 22) := rfl
@[go_sem] theorem tk176 : tab.k 176 = .struct 2 := rfl
@[go_sem] theorem tz176 : tab.z 176 = some (([.i .i64 0, .sn] : List SV)) := rfl
@[go_sem] theorem te176 : tab.eqp.getD 176 false = true := rfl
@[go_sem] theorem tf176_0 : tab.f 176 0 = some (0, 1, 3) := rfl
@[go_sem] theorem tf176_1 : tab.f 176 1 = some (1, 1, 22) := rfl
@[go_sem] theorem tk177 : tab.k 177 = .func := rfl
@[go_sem] theorem tz177 : tab.z 177 = some (([.fnil] : List SV)) := rfl
@[go_sem] theorem tk178 : tab.k 178 = .struct 8 := rfl
@[go_sem] theorem tz178 : tab.z 178 = some (([.i .i64 0, .i .i64 0, .i .i64 0, .sn, .i .i64 0, .u64 0, .u64 0, .i .i64 0] : List SV)) := rfl
@[go_sem] theorem te178 : tab.eqp.getD 178 false = true := rfl
@[go_sem] theorem tf178_0 : tab.f 178 0 = some (0, 1, 3) := rfl
@[go_sem] theorem tf178_1 : tab.f 178 1 = some (1, 1, 3) := rfl
@[go_sem] theorem tf178_2 : tab.f 178 2 = some (2, 1, 3) := rfl
@[go_sem] theorem tf178_3 : tab.f 178 3 = some (3, 1, 22) := rfl
@[go_sem] theorem tf178_4 : tab.f 178 4 = some (4, 4, 160) := rfl
@[go_sem] theorem tk179 : tab.k 179 = .struct 8 := rfl
@[go_sem] theorem tz179 : tab.z 179 = some (([.i .i64 0, .i .i64 0, .i .i64 0, .sn, .i .i64 0, .u64 0, .u64 0, .i .i64 0] : List SV)) := rfl
@[go_sem] theorem te179 : tab.eqp.getD 179 false = true := rfl
@[go_sem] theorem tf179_0 : tab.f 179 0 = some (0, 1, 3) := rfl
@[go_sem] theorem tf179_1 : tab.f 179 1 = some (1, 1, 3) := rfl
@[go_sem] theorem tf179_2 : tab.f 179 2 = some (2, 1, 3) := rfl
@[go_sem] theorem tf179_3 : tab.f 179 3 = some (3, 1, 22) := rfl
@[go_sem] theorem tf179_4 : tab.f 179 4 = some (4, 4, 160) := rfl
@[go_sem] theorem tk180 : tab.k 180 = .func := rfl
@[go_sem] theorem tz180 : tab.z 180 = some (([.fnil] : List SV)) := rfl
@[go_sem] theorem tk181 : tab.k 181 = .struct 2 := rfl
@[go_sem] theorem tz181 : tab.z 181 = some (([.i .i64 0, .i .i64 0] : List SV)) := rfl
@[go_sem] theorem tq181 : tab.eqk.getD 181 none = some [.i64, .i64] := rfl
@[go_sem] theorem te181 : tab.eqp.getD 181 false = true := rfl
@[go_sem] theorem tf181_0 : tab.f 181 0 = some (0, 1, 3) := rfl
@[go_sem] theorem tf181_1 : tab.f 181 1 = some (1, 1, 3) := rfl
@[go_sem] theorem tk182 : tab.k 182 = .struct 2 := rfl
@[go_sem] theorem tz182 : tab.z 182 = some (([.i .i64 0, .i .i64 0] : List SV)) := rfl
@[go_sem] theorem tq182 : tab.eqk.getD 182 none = some [.i64, .i64] := rfl
@[go_sem] theorem te182 : tab.eqp.getD 182 false = true := rfl
@[go_sem] theorem tf182_0 : tab.f 182 0 = some (0, 1, 3) := rfl
@[go_sem] theorem tf182_1 : tab.f 182 1 = some (1, 1, 3) := rfl
@[go_sem] theorem tk183 : tab.k 183 = .func := rfl
@[go_sem] theorem tz183 : tab.z 183 = some (([.fnil] : List SV)) := rfl
@[go_sem] theorem tk184 : tab.k 184 = .struct 3 := rfl
@[go_sem] theorem tz184 : tab.z 184 = some (([.i .i64 0, .i .i64 0, .sn] : List SV)) := rfl
@[go_sem] theorem te184 : tab.eqp.getD 184 false = true := rfl
@[go_sem] theorem tf184_0 : tab.f 184 0 = some (0, 1, 3) := rfl
@[go_sem] theorem tf184_1 : tab.f 184 1 = some (1, 1, 3) := rfl
@[go_sem] theorem tf184_2 : tab.f 184 2 = some (2, 1, 22) := rfl
@[go_sem] theorem tk185 : tab.k 185 = .struct 3 := rfl
@[go_sem] theorem tz185 : tab.z 185 = some (([.i .i64 0, .i .i64 0, .sn] : List SV)) := rfl
@[go_sem] theorem te185 : tab.eqp.getD 185 false = true := rfl
@[go_sem] theorem tf185_0 : tab.f 185 0 = some (0, 1, 3) := rfl
@[go_sem] theorem tf185_1 : tab.f 185 1 = some (1, 1, 3) := rfl
@[go_sem] theorem tf185_2 : tab.f 185 2 = some (2, 1, 22) := rfl
@[go_sem] theorem tk186 : tab.k 186 = .func := rfl
@[go_sem] theorem tz186 : tab.z 186 = some (([.fnil] : List SV)) := rfl
@[go_sem] theorem tk187 : tab.k 187 = .struct 2 := rfl
@[go_sem] theorem tz187 : tab.z 187 = some (([.i .i64 0, .i .i64 0] : List SV)) := rfl
@[go_sem] theorem tq187 : tab.eqk.getD 187 none = some [.i64, .i64] := rfl
@[go_sem] theorem te187 : tab.eqp.getD 187 false = true := rfl
@[go_sem] theorem tf187_0 : tab.f 187 0 = some (0, 1, 3) := rfl
@[go_sem] theorem tf187_1 : tab.f 187 1 = some (1, 1, 3) := rfl
@[go_sem] theorem tk188 : tab.k 188 = .struct 2 := rfl
@[go_sem] theorem tz188 : tab.z 188 = some (([.i .i64 0, .i .i64 0] : List SV)) := rfl
@[go_sem] theorem tq188 : tab.eqk.getD 188 none = some [.i64, .i64] := rfl
@[go_sem] theorem te188 : tab.eqp.getD 188 false = true := rfl
@[go_sem] theorem tf188_0 : tab.f 188 0 = some (0, 1, 3) := rfl
@[go_sem] theorem tf188_1 : tab.f 188 1 = some (1, 1, 3) := rfl
@[go_sem] theorem tk189 : tab.k 189 = .struct 14 := rfl
@[go_sem] theorem tz189 : tab.z 189 = some (([.i .i64 0, .i .i64 0, .i .i64 0, .i .i64 0, .i .i64 0, .i .i64 0, .sn, .i .i64 0, .i .i64 0, .i .i64 0, .i .i64 0, .sn, .sn, .sn] : List SV)) := rfl
@[go_sem] theorem te189 : tab.eqp.getD 189 false = true := rfl
@[go_sem] theorem tf189_0 : tab.f 189 0 = some (0, 1, 3) := rfl
@[go_sem] theorem tf189_1 : tab.f 189 1 = some (1, 1, 3) := rfl
@[go_sem] theorem tf189_2 : tab.f 189 2 = some (2, 1, 3) := rfl
@[go_sem] theorem tf189_3 : tab.f 189 3 = some (3, 1, 3) := rfl
@[go_sem] theorem tf189_4 : tab.f 189 4 = some (4, 1, 3) := rfl
@[go_sem] theorem tf189_5 : tab.f 189 5 = some (5, 1, 3) := rfl
@[go_sem] theorem tf189_6 : tab.f 189 6 = some (6, 1, 22) := rfl
@[go_sem] theorem tf189_7 : tab.f 189 7 = some (7, 2, 138) := rfl
@[go_sem] theorem tf189_8 : tab.f 189 8 = some (9, 2, 188) := rfl
@[go_sem] theorem tf189_9 : tab.f 189 9 = some (11, 1, 120) := rfl
@[go_sem] theorem tf189_10 : tab.f 189 10 = some (12, 1, 122) := rfl
@[go_sem] theorem tf189_11 : tab.f 189 11 = some (13, 1, 99) := rfl
@[go_sem] theorem tk190 : tab.k 190 = .struct 14 := rfl
@[go_sem] theorem tz190 : tab.z 190 = some (([.i .i64 0, .i .i64 0, .i .i64 0, .i .i64 0, .i .i64 0, .i .i64 0, .sn, .i .i64 0, .i .i64 0, .i .i64 0, .i .i64 0, .sn, .sn, .sn] : List SV)) := rfl
@[go_sem] theorem te190 : tab.eqp.getD 190 false = true := rfl
@[go_sem] theorem tf190_0 : tab.f 190 0 = some (0, 1, 3) := rfl
@[go_sem] theorem tf190_1 : tab.f 190 1 = some (1, 1, 3) := rfl
@[go_sem] theorem tf190_2 : tab.f 190 2 = some (2, 1, 3) := rfl
@[go_sem] theorem tf190_3 : tab.f 190 3 = some (3, 1, 3) := rfl
@[go_sem] theorem tf190_4 : tab.f 190 4 = some (4, 1, 3) := rfl
@[go_sem] theorem tf190_5 : tab.f 190 5 = some (5, 1, 3) := rfl
@[go_sem] theorem tf190_6 : tab.f 190 6 = some (6, 1, 22) := rfl
@[go_sem] theorem tf190_7 : tab.f 190 7 = some (7, 2, 138) := rfl
@[go_sem] theorem tf190_8 : tab.f 190 8 = some (9, 2, 188) := rfl
@[go_sem] theorem tf190_9 : tab.f 190 9 = some (11, 1, 120) := rfl
@[go_sem] theorem tf190_10 : tab.f 190 10 = some (12, 1, 122) := rfl
@[go_sem] theorem tf190_11 : tab.f 190 11 = some (13, 1, 99) := rfl
@[go_sem] theorem tk191 : tab.k 191 = .func := rfl
@[go_sem] theorem tz191 : tab.z 191 = some (([.fnil] : List SV)) := rfl
@[go_sem] theorem tk192 : tab.k 192 = .struct 21 := rfl
@[go_sem] theorem tz192 : tab.z 192 = some (([.i .i64 0, .i .i64 0, .i .i64 0, .i .i64 0, .i .i64 0, .i .i64 0, .sn, .i .i64 0, .sn, .sn, .sn, .i .i64 0, .i .i64 0, .i .i64 0, .u64 0, .u64 0, .i .i64 0, .i .i64 0, .i .i64 0, .i .i64 0, .sn] : List SV)) := rfl
@[go_sem] theorem te192 : tab.eqp.getD 192 false = true := rfl
@[go_sem] theorem tf192_0 : tab.f 192 0 = some (0, 1, 3) := rfl
@[go_sem] theorem tf192_1 : tab.f 192 1 = some (1, 1, 3) := rfl
@[go_sem] theorem tf192_2 : tab.f 192 2 = some (2, 1, 3) := rfl
@[go_sem] theorem tf192_3 : tab.f 192 3 = some (3, 1, 3) := rfl
@[go_sem] theorem tf192_4 : tab.f 192 4 = some (4, 1, 3) := rfl
@[go_sem] theorem tf192_5 : tab.f 192 5 = some (5, 1, 45) := rfl
@[go_sem] theorem tf192_6 : tab.f 192 6 = some (6, 1, 22) := rfl
@[go_sem] theorem tf192_7 : tab.f 192 7 = some (7, 3, 164) := rfl
@[go_sem] theorem tf192_8 : tab.f 192 8 = some (10, 8, 167) := rfl
@[go_sem] theorem tf192_9 : tab.f 192 9 = some (18, 3, 185) := rfl
@[go_sem] theorem tk193 : tab.k 193 = .struct 21 := rfl
@[go_sem] theorem tz193 : tab.z 193 = some (([.i .i64 0, .i .i64 0, .i .i64 0, .i .i64 0, .i .i64 0, .i .i64 0, .sn, .i .i64 0, .sn, .sn, .sn, .i .i64 0, .i .i64 0, .i .i64 0, .u64 0, .u64 0, .i .i64 0, .i .i64 0, .i .i64 0, .i .i64 0, .sn] : List SV)) := rfl
@[go_sem] theorem te193 : tab.eqp.getD 193 false = true := rfl
@[go_sem] theorem tf193_0 : tab.f 193 0 = some (0, 1, 3) := rfl
@[go_sem] theorem tf193_1 : tab.f 193 1 = some (1, 1, 3) := rfl
@[go_sem] theorem tf193_2 : tab.f 193 2 = some (2, 1, 3) := rfl
@[go_sem] theorem tf193_3 : tab.f 193 3 = some (3, 1, 3) := rfl
@[go_sem] theorem tf193_4 : tab.f 193 4 = some (4, 1, 3) := rfl
@[go_sem] theorem tf193_5 : tab.f 193 5 = some (5, 1, 45) := rfl
@[go_sem] theorem tf193_6 : tab.f 193 6 = some (6, 1, 22) := rfl
@[go_sem] theorem tf193_7 : tab.f 193 7 = some (7, 3, 164) := rfl
@[go_sem] theorem tf193_8 : tab.f 193 8 = some (10, 8, 167) := rfl
@[go_sem] theorem tf193_9 : tab.f 193 9 = some (18, 3, 185) := rfl
@[go_sem] theorem tk194 : tab.k 194 = .func := rfl
@[go_sem] theorem tz194 : tab.z 194 = some (([.fnil] : List SV)) := rfl
@[go_sem] theorem tk195 : tab.k 195 = .func := rfl
@[go_sem] theorem tz195 : tab.z 195 = some (([.fnil] : List SV)) := rfl
@[go_sem] theorem tk196 : tab.k 196 = .func := rfl
@[go_sem] theorem tz196 : tab.z 196 = some (([.fnil] : List SV)) := rfl
@[go_sem] theorem tk197 : tab.k 197 = .func := rfl
@[go_sem] theorem tz197 : tab.z 197 = some (([.fnil] : List SV)) := rfl
@[go_sem] theorem tk198 : tab.k 198 = .func := rfl
@[go_sem] theorem tz198 : tab.z 198 = some (([.fnil] : List SV)) := rfl
@[go_sem] theorem tk199 : tab.k 199 = .func := rfl
@[go_sem] theorem tz199 : tab.z 199 = some (([.fnil] : List SV)) := rfl
@[go_sem] theorem tk200 : tab.k 200 = .func := rfl
@[go_sem] theorem tz200 : tab.z 200 = some (([.fnil] : List SV)) := rfl
@[go_sem] theorem tk201 : tab.k 201 = .func := rfl
@[go_sem] theorem tz201 : tab.z 201 = some (([.fnil] : List SV)) := rfl
@[go_sem] theorem tk202 : tab.k 202 = .func := rfl
@[go_sem] theorem tz202 : tab.z 202 = some (([.fnil] : List SV)) := rfl
@[go_sem] theorem tk203 : tab.k 203 = .func := rfl
@[go_sem] theorem tz203 : tab.z 203 = some (([.fnil] : List SV)) := rfl
@[go_sem] theorem tk204 : tab.k 204 = .func := rfl
@[go_sem] theorem tz204 : tab.z 204 = some (([.fnil] : List SV)) := rfl
@[go_sem] theorem tk205 : tab.k 205 = .func := rfl
@[go_sem] theorem tz205 : tab.z 205 = some (([.fnil] : List SV)) := rfl
@[go_sem] theorem tk206 : tab.k 206 = .func := rfl
@[go_sem] theorem tz206 : tab.z 206 = some (([.fnil] : List SV)) := rfl
@[go_sem] theorem tk207 : tab.k 207 = .func := rfl
@[go_sem] theorem tz207 : tab.z 207 = some (([.fnil] : List SV)) := rfl
@[go_sem] theorem tk208 : tab.k 208 = .arr 24 5 1 24 := rfl
@[go_sem] theorem tz208 : tab.z 208 = some (bS (List.replicate 24 0#8)) := rfl
@[go_sem] theorem te208 : tab.eqp.getD 208 false = true := rfl
@[go_sem] theorem tk209 : tab.k 209 = .func := rfl
@[go_sem] theorem tz209 : tab.z 209 = some (([.fnil] : List SV)) := rfl
@[go_sem] theorem tk210 : tab.k 210 = .func := rfl
@[go_sem] theorem tz210 : tab.z 210 = some (([.fnil] : List SV)) := rfl
@[go_sem] theorem tk212 : tab.k 212 = .func := rfl
@[go_sem] theorem tz212 : tab.z 212 = some (([.fnil] : List SV)) := rfl
@[go_sem] theorem tk213 : tab.k 213 = .func := rfl
@[go_sem] theorem tz213 : tab.z 213 = some (([.fnil] : List SV)) := rfl
@[go_sem] theorem tk214 : tab.k 214 = .arr 20 133 1 20 := rfl
@[go_sem] theorem tz214 : tab.z 214 = some ((List.replicate 20 (.u64 0) : List SV)) := rfl
@[go_sem] theorem te214 : tab.eqp.getD 214 false = true := rfl
@[go_sem] theorem tk215 : tab.k 215 = .arr 65 5 1 65 := rfl
@[go_sem] theorem tz215 : tab.z 215 = some (bS (List.replicate 65 0#8)) := rfl
@[go_sem] theorem te215 : tab.eqp.getD 215 false = true := rfl
@[go_sem] theorem tk216 : tab.k 216 = .func := rfl
@[go_sem] theorem tz216 : tab.z 216 = some (([.fnil] : List SV)) := rfl
@[go_sem] theorem tk217 : tab.k 217 = .func := rfl
@[go_sem] theorem tz217 : tab.z 217 = some (([.fnil] : List SV)) := rfl
@[go_sem] theorem tk218 : tab.k 218 = .func := rfl
@[go_sem] theorem tz218 : tab.z 218 = some (([.fnil] : List SV)) := rfl
@[go_sem] theorem tk219 : tab.k 219 = .arr 32 5 1 32 := rfl
@[go_sem] theorem tz219 : tab.z 219 = some (bS (List.replicate 32 0#8)) := rfl
@[go_sem] theorem te219 : tab.eqp.getD 219 false = true := rfl
@[go_sem] theorem tk220 : tab.k 220 = .arr 64 5 1 64 := rfl
@[go_sem] theorem tz220 : tab.z 220 = some (bS (List.replicate 64 0#8)) := rfl
@[go_sem] theorem te220 : tab.eqp.getD 220 false = true := rfl
@[go_sem] theorem tk221 : tab.k 221 = .func := rfl
@[go_sem] theorem tz221 : tab.z 221 = some (([.fnil] : List SV)) := rfl
@[go_sem] theorem tk222 : tab.k 222 = .struct 4 := rfl
@[go_sem] theorem tz222 : tab.z 222 = some (([.pn, .pn, .pn, .str ⟨#[]⟩] : List SV)) := rfl
@[go_sem] theorem te222 : tab.eqp.getD 222 false = true := rfl
@[go_sem] theorem tf222_0 : tab.f 222 0 = some (0, 1, 17) := rfl
@[go_sem] theorem tf222_1 : tab.f 222 1 = some (1, 1, 17) := rfl
@[go_sem] theorem tf222_2 : tab.f 222 2 = some (2, 1, 17) := rfl
@[go_sem] theorem tf222_3 : tab.f 222 3 = some (3, 1, 9) := rfl
@[go_sem] theorem tk223 : tab.k 223 = .struct 4 := rfl
@[go_sem] theorem tz223 : tab.z 223 = some (([.pn, .pn, .pn, .str ⟨#[]⟩] : List SV)) := rfl
@[go_sem] theorem te223 : tab.eqp.getD 223 false = true := rfl
@[go_sem] theorem tf223_0 : tab.f 223 0 = some (0, 1, 17) := rfl
@[go_sem] theorem tf223_1 : tab.f 223 1 = some (1, 1, 17) := rfl
@[go_sem] theorem tf223_2 : tab.f 223 2 = some (2, 1, 17) := rfl
@[go_sem] theorem tf223_3 : tab.f 223 3 = some (3, 1, 9) := rfl
@[go_sem] theorem tk224 : tab.k 224 = .arr 0 16 1 0 := rfl
@[go_sem] theorem tz224 : tab.z 224 = some (([] : List SV)) := rfl
@[go_sem] theorem te224 : tab.eqp.getD 224 false = true := rfl
@[go_sem] theorem tk225 : tab.k 225 = .struct 0 := rfl
@[go_sem] theorem tz225 : tab.z 225 = some (([] : List SV)) := rfl
@[go_sem] theorem te225 : tab.eqp.getD 225 false = true := rfl
@[go_sem] theorem tk226 : tab.k 226 = .struct 0 := rfl
@[go_sem] theorem tz226 : tab.z 226 = some (([] : List SV)) := rfl
@[go_sem] theorem te226 : tab.eqp.getD 226 false = true := rfl
@[go_sem] theorem tk227 : tab.k 227 = .func := rfl
@[go_sem] theorem tz227 : tab.z 227 = some (([.fnil] : List SV)) := rfl
@[go_sem] theorem tk228 : tab.k 228 = .int .u8 := rfl
@[go_sem] theorem tz228 : tab.z 228 = some (([.u8 0] : List SV)) := rfl
@[go_sem] theorem tk229 : tab.k 229 = .int .u8 := rfl
@[go_sem] theorem tz229 : tab.z 229 = some (([.u8 0] : List SV)) := rfl
@[go_sem] theorem tk230 : tab.k 230 = .func := rfl
@[go_sem] theorem tz230 : tab.z 230 = some (([.fnil] : List SV)) := rfl
@[go_sem] theorem tk231 : tab.k 231 = .ptr := rfl
@[go_sem] theorem tz231 : tab.z 231 = some (([.pn] : List SV)) := rfl
@[go_sem] theorem tk232 : tab.k 232 = .int .i32 := rfl
@[go_sem] theorem tz232 : tab.z 232 = some (([.i .i32 0] : List SV)) := rfl
@[go_sem] theorem tk233 : tab.k 233 = .int .i32 := rfl
@[go_sem] theorem tz233 : tab.z 233 = some (([.i .i32 0] : List SV)) := rfl
@[go_sem] theorem tk234 : tab.k 234 = .struct 11 := rfl
@[go_sem] theorem tz234 : tab.z 234 = some (([.u64 0, .u64 0, .u32 0, .u8 0, .u8 0, .u8 0, .u8 0, .fnil, .pn, .i .i32 0, .i .i32 0] : List SV)) := rfl
@[go_sem] theorem te234 : tab.eqp.getD 234 false = true := rfl
@[go_sem] theorem tf234_0 : tab.f 234 0 = some (0, 1, 12) := rfl
@[go_sem] theorem tf234_1 : tab.f 234 1 = some (1, 1, 12) := rfl
@[go_sem] theorem tf234_2 : tab.f 234 2 = some (2, 1, 88) := rfl
@[go_sem] theorem tf234_3 : tab.f 234 3 = some (3, 1, 228) := rfl
@[go_sem] theorem tf234_4 : tab.f 234 4 = some (4, 1, 5) := rfl
@[go_sem] theorem tf234_5 : tab.f 234 5 = some (5, 1, 5) := rfl
@[go_sem] theorem tf234_6 : tab.f 234 6 = some (6, 1, 229) := rfl
@[go_sem] theorem tf234_7 : tab.f 234 7 = some (7, 1, 230) := rfl
@[go_sem] theorem tf234_8 : tab.f 234 8 = some (8, 1, 231) := rfl
@[go_sem] theorem tf234_9 : tab.f 234 9 = some (9, 1, 232) := rfl
@[go_sem] theorem tf234_10 : tab.f 234 10 = some (10, 1, 233) := rfl
@[go_sem] theorem tk235 : tab.k 235 = .struct 11 := rfl
@[go_sem] theorem tz235 : tab.z 235 = some (([.u64 0, .u64 0, .u32 0, .u8 0, .u8 0, .u8 0, .u8 0, .fnil, .pn, .i .i32 0, .i .i32 0] : List SV)) := rfl
@[go_sem] theorem te235 : tab.eqp.getD 235 false = true := rfl
@[go_sem] theorem tf235_0 : tab.f 235 0 = some (0, 1, 12) := rfl
@[go_sem] theorem tf235_1 : tab.f 235 1 = some (1, 1, 12) := rfl
@[go_sem] theorem tf235_2 : tab.f 235 2 = some (2, 1, 88) := rfl
@[go_sem] theorem tf235_3 : tab.f 235 3 = some (3, 1, 228) := rfl
@[go_sem] theorem tf235_4 : tab.f 235 4 = some (4, 1, 5) := rfl
@[go_sem] theorem tf235_5 : tab.f 235 5 = some (5, 1, 5) := rfl
@[go_sem] theorem tf235_6 : tab.f 235 6 = some (6, 1, 229) := rfl
@[go_sem] theorem tf235_7 : tab.f 235 7 = some (7, 1, 230) := rfl
@[go_sem] theorem tf235_8 : tab.f 235 8 = some (8, 1, 231) := rfl
@[go_sem] theorem tf235_9 : tab.f 235 9 = some (9, 1, 232) := rfl
@[go_sem] theorem tf235_10 : tab.f 235 10 = some (10, 1, 233) := rfl
theorem tabOK : TabOK Tryz.prog tab := tabOK_of (by kernel_rfl) (⟨z1, ⟨z2, ⟨z3, ⟨z4, ⟨z5, ⟨z6, ⟨z7, ⟨z8, ⟨z9, ⟨z10, ⟨z11, ⟨z12, ⟨z13, ⟨z14, ⟨z15, ⟨z16, ⟨z17, ⟨z18, ⟨z19, ⟨z20, ⟨z21, ⟨z22, ⟨z23, ⟨z24, ⟨z25, ⟨z26, ⟨z27, ⟨z28, ⟨z29, ⟨z30, ⟨z31, ⟨z32, ⟨z33, ⟨z34, ⟨z35, ⟨z36, ⟨z37, ⟨z38, ⟨z39, ⟨z40, ⟨z41, ⟨z42, ⟨z43, ⟨z44, ⟨z45, ⟨z47, ⟨z48, ⟨z49, ⟨z51, ⟨z52, ⟨z54, ⟨z55, ⟨z56, ⟨z57, ⟨z59, ⟨z60, ⟨z61, ⟨z62, ⟨z63, ⟨z65, ⟨z66, ⟨z67, ⟨z69, ⟨z70, ⟨z71, ⟨z72, ⟨z73, ⟨z74, ⟨z75, ⟨z76, ⟨z77, ⟨z78, ⟨z79, ⟨z80, ⟨z81, ⟨z82, ⟨z83, ⟨z84, ⟨z85, ⟨z86, ⟨z87, ⟨z88, ⟨z89, ⟨z90, ⟨z91, ⟨z92, ⟨z93, ⟨z94, ⟨z95, ⟨z96, ⟨z97, ⟨z98, ⟨z99, ⟨z100, ⟨z101, ⟨z102, ⟨z103, ⟨z104, ⟨z105, ⟨z106, ⟨z107, ⟨z108, ⟨z109, ⟨z110, ⟨z111, ⟨z112, ⟨z113, ⟨z114, ⟨z115, ⟨z116, ⟨z117, ⟨z118, ⟨z119, ⟨z120, ⟨z121, ⟨z122, ⟨z123, ⟨z124, ⟨z125, ⟨z126, ⟨z127, ⟨z128, ⟨z129, ⟨z130, ⟨z131, ⟨z132, ⟨z133, ⟨z134, ⟨z135, ⟨z136, ⟨z137, ⟨z138, ⟨z139, ⟨z140, ⟨z141, ⟨z142, ⟨z143, ⟨z144, ⟨z145, ⟨z146, ⟨z147, ⟨z148, ⟨z149, ⟨z150, ⟨z151, ⟨z152, ⟨z153, ⟨z154, ⟨z155, ⟨z156, ⟨z157, ⟨z158, ⟨z159, ⟨z160, ⟨z161, ⟨z162, ⟨z163, ⟨z164, ⟨z165, ⟨z166, ⟨z167, ⟨z168, ⟨z169, ⟨z170, ⟨z171, ⟨z172, ⟨z173, ⟨z174, ⟨z175, ⟨z176, ⟨z177, ⟨z178, ⟨z179, ⟨z180, ⟨z181, ⟨z182, ⟨z183, ⟨z184, ⟨z185, ⟨z186, ⟨z187, ⟨z188, ⟨z189, ⟨z190, ⟨z191, ⟨z192, ⟨z193, ⟨z194, ⟨z195, ⟨z196, ⟨z197, ⟨z198, ⟨z199, ⟨z200, ⟨z201, ⟨z202, ⟨z203, ⟨z204, ⟨z205, ⟨z206, ⟨z207, ⟨z208, ⟨z209, ⟨z210, ⟨z212, ⟨z213, ⟨z214, ⟨z215, ⟨z216, ⟨z217, ⟨z218, ⟨z219, ⟨z220, ⟨z221, ⟨z222, ⟨z223, ⟨z224, ⟨z225, ⟨z226, ⟨z227, ⟨z228, ⟨z229, ⟨z230, ⟨z231, ⟨z232, ⟨z233, ⟨z234, ⟨z235, trivial⟩⟩⟩⟩⟩⟩⟩⟩⟩⟩⟩⟩⟩⟩⟩⟩⟩⟩⟩⟩⟩⟩⟩⟩⟩⟩⟩⟩⟩⟩⟩⟩⟩⟩⟩⟩⟩⟩⟩⟩⟩⟩⟩⟩⟩⟩⟩⟩⟩⟩⟩⟩⟩⟩⟩⟩⟩⟩⟩⟩⟩⟩⟩⟩⟩⟩⟩⟩⟩⟩⟩⟩⟩⟩⟩⟩⟩⟩⟩⟩⟩⟩⟩⟩⟩⟩⟩⟩⟩⟩⟩⟩⟩⟩⟩⟩⟩⟩⟩⟩⟩⟩⟩⟩⟩⟩⟩⟩⟩⟩⟩⟩⟩⟩⟩⟩⟩⟩⟩⟩⟩⟩⟩⟩⟩⟩⟩⟩⟩⟩⟩⟩⟩⟩⟩⟩⟩⟩⟩⟩⟩⟩⟩⟩⟩⟩⟩⟩⟩⟩⟩⟩⟩⟩⟩⟩⟩⟩⟩⟩⟩⟩⟩⟩⟩⟩⟩⟩⟩⟩⟩⟩⟩⟩⟩⟩⟩⟩⟩⟩⟩⟩⟩⟩⟩⟩⟩⟩⟩⟩⟩⟩⟩⟩⟩⟩⟩⟩⟩⟩⟩⟩⟩⟩⟩⟩⟩⟩⟩⟩⟩⟩⟩⟩⟩⟩⟩⟩⟩⟩⟩⟩⟩⟩⟩⟩⟩⟩) (by kernel_rfl) (by kernel_rfl) (by kernel_rfl)
end Go.Proofs.YtbiolfeincepoaaGreatDoor.Eng
