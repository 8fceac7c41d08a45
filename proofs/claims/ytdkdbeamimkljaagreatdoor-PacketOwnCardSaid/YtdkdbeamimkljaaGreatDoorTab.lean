/- The table of this seat's types, for the engine; its facts by the kernel. -/
import Derived.Test.YtdkdbeamimkljaaGreatDoorLs
import Derived.Test.YtdkdbeamimkljaaGreatDoorProg
namespace Go.Proofs.YtdkdbeamimkljaaGreatDoor.Eng
open Go Go.RowKit
set_option maxRecDepth 20000
def tab : Tab where
  tk := [.other, .func, .int .i64, .int .i64, .bool, .int .u8, .int .u8, .struct 4, .struct 4, .str, .str, .str, .int .u64, .struct 2, .struct 2, .ptr, .ptr, .ptr, .struct 1, .struct 1, .iface, .int .i32, .slice 5 1 1, .slice 52 7 72, .func, .ptr, .slice 22 1 24, .slice 139 1 24, .slice 141 1 24, .slice 142 1 24, .slice 26 1 24, .slice 150 1 24, .slice 143 1 24, .slice 152 1 24, .slice 154 1 24, .slice 156 1 24, .slice 158 1 24, .slice 162 1 24, .slice 160 1 24, .slice 164 1 24, .slice 166 1 24, .slice 168 1 24, .slice 170 1 24, .struct 53, .struct 53, .func, .other, .func, .int .u64, .struct 3, .struct 3, .struct 7, .struct 7, .int .i64, .other, .func, .struct 4, .struct 4, .other, .func, .struct 5, .struct 5, .func, .func, .func, .other, .func, .func, .func, .func, .func, .func, .func, .other, .func, .func, .func, .ptr, .func, .func, .func, .other, .func, .func, .func, .func, .func, .func, .func, .struct 6, .struct 6, .other, .func, .other, .func, .func, .func, .func, .int .u32, .int .u64, .other, .func, .func, .func, .struct 3, .struct 3, .func, .func, .func, .ptr, .other, .func, .func, .arr 16 5 1 16, .func, .func, .func, .other, .func, .func, .arr 256 5 1 256, .arr 16 5 1 16, .arr 15 121 16 240, .struct 496, .struct 496, .func, .arr 4 5 1 4, .arr 4 5 1 4, .arr 60 127 4 240, .func, .func, .func, .func, .func, .func, .func, .func, .func, .func, .slice 4 1 1, .func, .slice 3 1 8, .slice 9 1 16, .slice 147 3 24, .struct 2, .struct 2, .struct 3, .struct 3, .func, .func, .slice 175 4 32, .func, .slice 179 3 56, .func, .slice 182 8 80, .func, .slice 185 2 48, .func, .slice 188 3 56, .func, .slice 194 8 80, .func, .slice 191 2 32, .func, .slice 197 2 16, .func, .slice 200 3 40, .func, .slice 205 14 176, .func, .slice 208 21 248, .func, .func, .func, .struct 4, .struct 4, .func, .func, .struct 3, .struct 3, .func, .struct 8, .struct 8, .func, .struct 2, .struct 2, .func, .struct 3, .struct 3, .func, .struct 2, .struct 2, .func, .struct 8, .struct 8, .func, .struct 2, .struct 2, .func, .struct 3, .struct 3, .func, .struct 2, .struct 2, .struct 14, .struct 14, .func, .struct 21, .struct 21, .func, .func, .func, .func, .func, .func, .func, .func, .func, .func, .func, .func, .func, .func, .func, .func, .func, .func, .arr 5 3 1 5, .func, .arr 4 5 1 4, .func, .func, .func, .func, .func, .func, .func, .func, .func, .func, .func, .func, .func, .arr 24 5 1 24, .func, .func, .other, .func, .func, .arr 20 48 1 20, .arr 65 5 1 65, .func, .func, .func, .arr 32 5 1 32, .arr 64 5 1 64, .func, .struct 4, .struct 4, .arr 0 16 1 0, .struct 0, .struct 0, .int .u8, .int .u8, .func, .ptr, .int .i32, .int .i32, .struct 11, .struct 11, .other]
  zero := [none, some ([.fnil]), some ([.i .i64 0]), some ([.i .i64 0]), some ([.b false]), some ([.u8 0]), some ([.u8 0]), some ([.i .i64 0, .i .i64 0, .b false, .u8 0]), some ([.i .i64 0, .i .i64 0, .b false, .u8 0]), some ([.str ⟨#[]⟩]), some ([.str ⟨#[]⟩]), some ([.str ⟨#[]⟩]), some ([.u64 0]), some ([.str ⟨#[]⟩, .u64 0]), some ([.str ⟨#[]⟩, .u64 0]), some ([.pn]), some ([.pn]), some ([.pn]), some ([.pn]), some ([.pn]), some ([.inil]), some ([.i .i32 0]), some ([.sn]), some ([.sn]), some ([.fnil]), some ([.pn]), some ([.sn]), some ([.sn]), some ([.sn]), some ([.sn]), some ([.sn]), some ([.sn]), some ([.sn]), some ([.sn]), some ([.sn]), some ([.sn]), some ([.sn]), some ([.sn]), some ([.sn]), some ([.sn]), some ([.sn]), some ([.sn]), some ([.sn]), some ([.i .i64 0, .i .i64 0] ++ List.replicate 51 (.sn)), some ([.i .i64 0, .i .i64 0] ++ List.replicate 51 (.sn)), some ([.fnil]), none, some ([.fnil]), some ([.u64 0]), some ([.i .i64 0, .u64 0, .u64 0]), some ([.i .i64 0, .u64 0, .u64 0]), some ([.i .i64 0, .u64 0, .u64 0, .i .i64 0, .u64 0, .u64 0, .sn]), some ([.i .i64 0, .u64 0, .u64 0, .i .i64 0, .u64 0, .u64 0, .sn]), some ([.i .i64 0]), none, some ([.fnil]), some ([.i .i64 0, .i .i64 0, .i .i64 0, .u64 0]), some ([.i .i64 0, .i .i64 0, .i .i64 0, .u64 0]), none, some ([.fnil]), some ([.i .i64 0, .i .i64 0, .i .i64 0, .u64 0, .sn]), some ([.i .i64 0, .i .i64 0, .i .i64 0, .u64 0, .sn]), some ([.fnil]), some ([.fnil]), some ([.fnil]), none, some ([.fnil]), some ([.fnil]), some ([.fnil]), some ([.fnil]), some ([.fnil]), some ([.fnil]), some ([.fnil]), none, some ([.fnil]), some ([.fnil]), some ([.fnil]), some ([.pn]), some ([.fnil]), some ([.fnil]), some ([.fnil]), none, some ([.fnil]), some ([.fnil]), some ([.fnil]), some ([.fnil]), some ([.fnil]), some ([.fnil]), some ([.fnil]), some ([.i .i64 0, .i .i64 0, .i .i64 0, .u64 0, .sn, .sn]), some ([.i .i64 0, .i .i64 0, .i .i64 0, .u64 0, .sn, .sn]), none, some ([.fnil]), none, some ([.fnil]), some ([.fnil]), some ([.fnil]), some ([.fnil]), some ([.u32 0]), some ([.u64 0]), none, some ([.fnil]), some ([.fnil]), some ([.fnil]), some ([.sn, .i .i64 0, .i .i64 0]), some ([.sn, .i .i64 0, .i .i64 0]), some ([.fnil]), some ([.fnil]), some ([.fnil]), some ([.pn]), none, some ([.fnil]), some ([.fnil]), some (List.replicate 16 (.u8 0)), some ([.fnil]), some ([.fnil]), some ([.fnil]), none, some ([.fnil]), some ([.fnil]), some (List.replicate 256 (.u8 0)), some (List.replicate 16 (.u8 0)), some (List.replicate 240 (.u8 0)), some (List.replicate 496 (.u8 0)), some (List.replicate 496 (.u8 0)), some ([.fnil]), some ([.u8 0, .u8 0, .u8 0, .u8 0]), some ([.u8 0, .u8 0, .u8 0, .u8 0]), some (List.replicate 240 (.u8 0)), some ([.fnil]), some ([.fnil]), some ([.fnil]), some ([.fnil]), some ([.fnil]), some ([.fnil]), some ([.fnil]), some ([.fnil]), some ([.fnil]), some ([.fnil]), some ([.sn]), some ([.fnil]), some ([.sn]), some ([.sn]), some ([.sn]), some ([.i .i64 0, .i .i64 0]), some ([.i .i64 0, .i .i64 0]), some ([.i .i64 0, .i .i64 0, .i .i64 0]), some ([.i .i64 0, .i .i64 0, .i .i64 0]), some ([.fnil]), some ([.fnil]), some ([.sn]), some ([.fnil]), some ([.sn]), some ([.fnil]), some ([.sn]), some ([.fnil]), some ([.sn]), some ([.fnil]), some ([.sn]), some ([.fnil]), some ([.sn]), some ([.fnil]), some ([.sn]), some ([.fnil]), some ([.sn]), some ([.fnil]), some ([.sn]), some ([.fnil]), some ([.sn]), some ([.fnil]), some ([.sn]), some ([.fnil]), some ([.fnil]), some ([.fnil]), some ([.i .i64 0, .u64 0, .u64 0, .i .i64 0]), some ([.i .i64 0, .u64 0, .u64 0, .i .i64 0]), some ([.fnil]), some ([.fnil]), some ([.i .i64 0, .sn, .sn]), some ([.i .i64 0, .sn, .sn]), some ([.fnil]), some ([.sn, .i .i64 0, .i .i64 0, .i .i64 0, .u64 0, .u64 0, .i .i64 0, .i .i64 0]), some ([.sn, .i .i64 0, .i .i64 0, .i .i64 0, .u64 0, .u64 0, .i .i64 0, .i .i64 0]), some ([.fnil]), some ([.sn, .sn]), some ([.sn, .sn]), some ([.fnil]), some ([.sn, .sn, .b false]), some ([.sn, .sn, .b false]), some ([.fnil]), some ([.i .i64 0, .sn]), some ([.i .i64 0, .sn]), some ([.fnil]), some ([.i .i64 0, .i .i64 0, .i .i64 0, .sn, .i .i64 0, .u64 0, .u64 0, .i .i64 0]), some ([.i .i64 0, .i .i64 0, .i .i64 0, .sn, .i .i64 0, .u64 0, .u64 0, .i .i64 0]), some ([.fnil]), some ([.i .i64 0, .i .i64 0]), some ([.i .i64 0, .i .i64 0]), some ([.fnil]), some ([.i .i64 0, .i .i64 0, .sn]), some ([.i .i64 0, .i .i64 0, .sn]), some ([.fnil]), some ([.i .i64 0, .i .i64 0]), some ([.i .i64 0, .i .i64 0]), some ([.i .i64 0, .i .i64 0, .i .i64 0, .i .i64 0, .i .i64 0, .i .i64 0, .sn, .i .i64 0, .i .i64 0, .i .i64 0, .i .i64 0, .sn, .sn, .sn]), some ([.i .i64 0, .i .i64 0, .i .i64 0, .i .i64 0, .i .i64 0, .i .i64 0, .sn, .i .i64 0, .i .i64 0, .i .i64 0, .i .i64 0, .sn, .sn, .sn]), some ([.fnil]), some ([.i .i64 0, .i .i64 0, .i .i64 0, .i .i64 0, .i .i64 0, .i .i64 0, .sn, .i .i64 0, .sn, .sn, .sn, .i .i64 0, .i .i64 0, .i .i64 0, .u64 0, .u64 0, .i .i64 0, .i .i64 0, .i .i64 0, .i .i64 0, .sn]), some ([.i .i64 0, .i .i64 0, .i .i64 0, .i .i64 0, .i .i64 0, .i .i64 0, .sn, .i .i64 0, .sn, .sn, .sn, .i .i64 0, .i .i64 0, .i .i64 0, .u64 0, .u64 0, .i .i64 0, .i .i64 0, .i .i64 0, .i .i64 0, .sn]), some ([.fnil]), some ([.fnil]), some ([.fnil]), some ([.fnil]), some ([.fnil]), some ([.fnil]), some ([.fnil]), some ([.fnil]), some ([.fnil]), some ([.fnil]), some ([.fnil]), some ([.fnil]), some ([.fnil]), some ([.fnil]), some ([.fnil]), some ([.fnil]), some ([.fnil]), some ([.fnil]), some ([.i .i64 0, .i .i64 0, .i .i64 0, .i .i64 0, .i .i64 0]), some ([.fnil]), some ([.u8 0, .u8 0, .u8 0, .u8 0]), some ([.fnil]), some ([.fnil]), some ([.fnil]), some ([.fnil]), some ([.fnil]), some ([.fnil]), some ([.fnil]), some ([.fnil]), some ([.fnil]), some ([.fnil]), some ([.fnil]), some ([.fnil]), some ([.fnil]), some (List.replicate 24 (.u8 0)), some ([.fnil]), some ([.fnil]), none, some ([.fnil]), some ([.fnil]), some (List.replicate 20 (.u64 0)), some (List.replicate 65 (.u8 0)), some ([.fnil]), some ([.fnil]), some ([.fnil]), some (List.replicate 32 (.u8 0)), some (List.replicate 64 (.u8 0)), some ([.fnil]), some ([.pn, .pn, .pn, .str ⟨#[]⟩]), some ([.pn, .pn, .pn, .str ⟨#[]⟩]), some ([]), some ([]), some ([]), some ([.u8 0]), some ([.u8 0]), some ([.fnil]), some ([.pn]), some ([.i .i32 0]), some ([.i .i32 0]), some ([.u64 0, .u64 0, .u32 0, .u8 0, .u8 0, .u8 0, .u8 0, .fnil, .pn, .i .i32 0, .i .i32 0]), some ([.u64 0, .u64 0, .u32 0, .u8 0, .u8 0, .u8 0, .u8 0, .fnil, .pn, .i .i32 0, .i .i32 0]), none]
  fo := [[], [], [], [], [], [], [], [(0, 1, 2), (1, 1, 3), (2, 1, 4), (3, 1, 6)], [(0, 1, 2), (1, 1, 3), (2, 1, 4), (3, 1, 6)], [], [], [], [], [(0, 1, 9), (1, 1, 12)], [(0, 1, 9), (1, 1, 12)], [], [], [], [(0, 1, 17)], [(0, 1, 17)], [], [], [], [], [], [], [], [], [], [], [], [], [], [], [], [], [], [], [], [], [], [], [], [(0, 1, 3), (1, 1, 3), (2, 1, 26), (3, 1, 26), (4, 1, 26), (5, 1, 27), (6, 1, 27), (7, 1, 27), (8, 1, 28), (9, 1, 28), (10, 1, 28), (11, 1, 29), (12, 1, 29), (13, 1, 29), (14, 1, 30), (15, 1, 30), (16, 1, 30), (17, 1, 31), (18, 1, 31), (19, 1, 31), (20, 1, 32), (21, 1, 32), (22, 1, 32), (23, 1, 33), (24, 1, 33), (25, 1, 33), (26, 1, 34), (27, 1, 34), (28, 1, 34), (29, 1, 35), (30, 1, 35), (31, 1, 35), (32, 1, 36), (33, 1, 36), (34, 1, 36), (35, 1, 37), (36, 1, 37), (37, 1, 37), (38, 1, 38), (39, 1, 38), (40, 1, 38), (41, 1, 39), (42, 1, 39), (43, 1, 39), (44, 1, 40), (45, 1, 40), (46, 1, 40), (47, 1, 41), (48, 1, 41), (49, 1, 41), (50, 1, 42), (51, 1, 42), (52, 1, 42)], [(0, 1, 3), (1, 1, 3), (2, 1, 26), (3, 1, 26), (4, 1, 26), (5, 1, 27), (6, 1, 27), (7, 1, 27), (8, 1, 28), (9, 1, 28), (10, 1, 28), (11, 1, 29), (12, 1, 29), (13, 1, 29), (14, 1, 30), (15, 1, 30), (16, 1, 30), (17, 1, 31), (18, 1, 31), (19, 1, 31), (20, 1, 32), (21, 1, 32), (22, 1, 32), (23, 1, 33), (24, 1, 33), (25, 1, 33), (26, 1, 34), (27, 1, 34), (28, 1, 34), (29, 1, 35), (30, 1, 35), (31, 1, 35), (32, 1, 36), (33, 1, 36), (34, 1, 36), (35, 1, 37), (36, 1, 37), (37, 1, 37), (38, 1, 38), (39, 1, 38), (40, 1, 38), (41, 1, 39), (42, 1, 39), (43, 1, 39), (44, 1, 40), (45, 1, 40), (46, 1, 40), (47, 1, 41), (48, 1, 41), (49, 1, 41), (50, 1, 42), (51, 1, 42), (52, 1, 42)], [], [], [], [], [(0, 1, 3), (1, 1, 48), (2, 1, 48)], [(0, 1, 3), (1, 1, 48), (2, 1, 48)], [(0, 3, 50), (3, 3, 50), (6, 1, 22)], [(0, 3, 50), (3, 3, 50), (6, 1, 22)], [], [], [], [(0, 1, 3), (1, 1, 3), (2, 1, 3), (3, 1, 48)], [(0, 1, 3), (1, 1, 3), (2, 1, 3), (3, 1, 48)], [], [], [(0, 4, 57), (4, 1, 22)], [(0, 4, 57), (4, 1, 22)], [], [], [], [], [], [], [], [], [], [], [], [], [], [], [], [], [], [], [], [], [], [], [], [], [], [], [], [(0, 4, 57), (4, 1, 22), (5, 1, 22)], [(0, 4, 57), (4, 1, 22), (5, 1, 22)], [], [], [], [], [], [], [], [], [], [], [], [], [], [(0, 1, 22), (1, 1, 3), (2, 1, 53)], [(0, 1, 22), (1, 1, 3), (2, 1, 53)], [], [], [], [], [], [], [], [], [], [], [], [], [], [], [], [], [], [(0, 256, 120), (256, 240, 122)], [(0, 256, 120), (256, 240, 122)], [], [], [], [], [], [], [], [], [], [], [], [], [], [], [], [], [], [], [], [(0, 1, 3), (1, 1, 3)], [(0, 1, 3), (1, 1, 3)], [(0, 1, 3), (1, 2, 145)], [(0, 1, 3), (1, 2, 145)], [], [], [], [], [], [], [], [], [], [], [], [], [], [], [], [], [], [], [], [], [], [], [], [], [], [], [(0, 3, 50), (3, 1, 3)], [(0, 3, 50), (3, 1, 3)], [], [], [(0, 1, 3), (1, 1, 22), (2, 1, 150)], [(0, 1, 3), (1, 1, 22), (2, 1, 150)], [], [(0, 1, 22), (1, 1, 3), (2, 1, 3), (3, 1, 3), (4, 1, 48), (5, 1, 48), (6, 2, 145)], [(0, 1, 22), (1, 1, 3), (2, 1, 3), (3, 1, 3), (4, 1, 48), (5, 1, 48), (6, 2, 145)], [], [(0, 1, 22), (1, 1, 22)], [(0, 1, 22), (1, 1, 22)], [], [(0, 1, 22), (1, 1, 22), (2, 1, 4)], [(0, 1, 22), (1, 1, 22), (2, 1, 4)], [], [(0, 1, 3), (1, 1, 22)], [(0, 1, 3), (1, 1, 22)], [], [(0, 1, 3), (1, 1, 3), (2, 1, 3), (3, 1, 22), (4, 4, 175)], [(0, 1, 3), (1, 1, 3), (2, 1, 3), (3, 1, 22), (4, 4, 175)], [], [(0, 1, 3), (1, 1, 3)], [(0, 1, 3), (1, 1, 3)], [], [(0, 1, 3), (1, 1, 3), (2, 1, 22)], [(0, 1, 3), (1, 1, 3), (2, 1, 22)], [], [(0, 1, 3), (1, 1, 3)], [(0, 1, 3), (1, 1, 3)], [(0, 1, 3), (1, 1, 3), (2, 1, 3), (3, 1, 3), (4, 1, 3), (5, 1, 3), (6, 1, 22), (7, 2, 145), (9, 2, 203), (11, 1, 160), (12, 1, 164), (13, 1, 139)], [(0, 1, 3), (1, 1, 3), (2, 1, 3), (3, 1, 3), (4, 1, 3), (5, 1, 3), (6, 1, 22), (7, 2, 145), (9, 2, 203), (11, 1, 160), (12, 1, 164), (13, 1, 139)], [], [(0, 1, 3), (1, 1, 3), (2, 1, 3), (3, 1, 3), (4, 1, 3), (5, 1, 53), (6, 1, 22), (7, 3, 179), (10, 8, 182), (18, 3, 200)], [(0, 1, 3), (1, 1, 3), (2, 1, 3), (3, 1, 3), (4, 1, 3), (5, 1, 53), (6, 1, 22), (7, 3, 179), (10, 8, 182), (18, 3, 200)], [], [], [], [], [], [], [], [], [], [], [], [], [], [], [], [], [], [], [], [], [], [], [], [], [], [], [], [], [], [], [], [], [], [], [], [], [], [], [], [], [], [], [], [], [], [], [], [], [(0, 1, 17), (1, 1, 17), (2, 1, 17), (3, 1, 9)], [(0, 1, 17), (1, 1, 17), (2, 1, 17), (3, 1, 9)], [], [], [], [], [], [], [], [], [], [(0, 1, 12), (1, 1, 12), (2, 1, 98), (3, 1, 262), (4, 1, 5), (5, 1, 5), (6, 1, 263), (7, 1, 264), (8, 1, 265), (9, 1, 266), (10, 1, 267)], [(0, 1, 12), (1, 1, 12), (2, 1, 98), (3, 1, 262), (4, 1, 5), (5, 1, 5), (6, 1, 263), (7, 1, 264), (8, 1, 265), (9, 1, 266), (10, 1, 267)], []]
  eqp := [false, false, false, false, false, false, false, true, true, false, false, false, false, true, true, false, false, false, true, true, false, false, false, false, false, false, false, false, false, false, false, false, false, false, false, false, false, false, false, false, false, false, false, true, true, false, false, false, false, true, true, true, true, false, false, false, true, true, false, false, true, true, false, false, false, false, false, false, false, false, false, false, false, false, false, false, false, false, false, false, false, false, false, false, false, false, false, false, false, true, true, false, false, false, false, false, false, false, false, false, false, false, false, false, true, true, false, false, false, false, false, false, false, true, false, false, false, false, false, false, true, true, true, true, true, false, true, true, true, false, false, false, false, false, false, false, false, false, false, false, false, false, false, false, true, true, true, true, false, false, false, false, false, false, false, false, false, false, false, false, false, false, false, false, false, false, false, false, false, false, false, false, false, false, true, true, false, false, true, true, false, true, true, false, true, true, false, true, true, false, true, true, false, true, true, false, true, true, false, true, true, false, true, true, true, true, false, true, true, false, false, false, false, false, false, false, false, false, false, false, false, false, false, false, false, false, false, true, false, true, false, false, false, false, false, false, false, false, false, false, false, false, false, true, false, false, false, false, false, true, true, false, false, false, true, true, false, true, true, true, true, true, false, false, false, false, false, false, true, true, false]
  eqk := [none, none, none, none, none, none, none, none, none, none, none, none, none, none, none, none, none, none, none, none, none, none, none, none, none, none, none, none, none, none, none, none, none, none, none, none, none, none, none, none, none, none, none, none, none, none, none, none, none, some ([.i64, .u64, .u64]), some ([.i64, .u64, .u64]), none, none, none, none, none, some ([.i64, .i64, .i64, .u64]), some ([.i64, .i64, .i64, .u64]), none, none, none, none, none, none, none, none, none, none, none, none, none, none, none, none, none, none, none, none, none, none, none, none, none, none, none, none, none, none, none, none, none, none, none, none, none, none, none, none, none, none, none, none, none, none, none, none, none, none, none, none, none, none, none, none, none, none, none, none, none, none, none, none, none, none, none, none, none, none, none, none, none, none, none, none, none, none, none, none, none, none, none, none, none, none, some ([.i64, .i64]), some ([.i64, .i64]), some ([.i64, .i64, .i64]), some ([.i64, .i64, .i64]), none, none, none, none, none, none, none, none, none, none, none, none, none, none, none, none, none, none, none, none, none, none, none, none, none, none, some ([.i64, .u64, .u64, .i64]), some ([.i64, .u64, .u64, .i64]), none, none, none, none, none, none, none, none, none, none, none, none, none, none, none, none, none, none, none, none, some ([.i64, .i64]), some ([.i64, .i64]), none, none, none, none, some ([.i64, .i64]), some ([.i64, .i64]), none, none, none, none, none, none, none, none, none, none, none, none, none, none, none, none, none, none, none, none, none, none, none, none, none, none, none, none, none, none, none, none, none, none, none, none, none, none, none, none, none, none, none, none, none, none, none, none, none, none, none, none, none, none, none, none, none, none, none, none, none, none, none, none, none, none, none]
attribute [go_sem_proc] Nat.reduceBEq Nat.reduceAdd Nat.reduceSub Nat.reduceMul Nat.reduceLT Nat.reduceLeDiff Nat.reduceEqDiff Int.reduceLT Int.reduceLE Int.reduceAdd Int.reduceSub Int.reduceMul Int.reduceNeg Int.reduceToNat Int.reduceEq Int.reduceNe reduceIte reduceCtorEq BitVec.reduceOfInt BitVec.reduceToNat
def zR (n : Nat) (l : List SV) : Prop := zeroOf Tryz.prog n = some l ∧ l.all SV.one = true ∧ (Tryz.prog.info? n).map (·.size) = some l.length
theorem z1 : zR 1 ([.fnil]) := ⟨by kernel_rfl, by kernel_rfl, by kernel_rfl⟩
theorem z2 : zR 2 ([.i .i64 0]) := ⟨by kernel_rfl, by kernel_rfl, by kernel_rfl⟩
theorem z3 : zR 3 ([.i .i64 0]) := ⟨by kernel_rfl, by kernel_rfl, by kernel_rfl⟩
theorem z4 : zR 4 ([.b false]) := ⟨by kernel_rfl, by kernel_rfl, by kernel_rfl⟩
theorem z5 : zR 5 ([.u8 0]) := ⟨by kernel_rfl, by kernel_rfl, by kernel_rfl⟩
theorem z6 : zR 6 ([.u8 0]) := ⟨by kernel_rfl, by kernel_rfl, by kernel_rfl⟩
theorem z7 : zR 7 ([.i .i64 0, .i .i64 0, .b false, .u8 0]) := ⟨by kernel_rfl, by kernel_rfl, by kernel_rfl⟩
theorem z8 : zR 8 ([.i .i64 0, .i .i64 0, .b false, .u8 0]) := ⟨by kernel_rfl, by kernel_rfl, by kernel_rfl⟩
theorem z9 : zR 9 ([.str ⟨#[]⟩]) := ⟨by kernel_rfl, by kernel_rfl, by kernel_rfl⟩
theorem z10 : zR 10 ([.str ⟨#[]⟩]) := ⟨by kernel_rfl, by kernel_rfl, by kernel_rfl⟩
theorem z11 : zR 11 ([.str ⟨#[]⟩]) := ⟨by kernel_rfl, by kernel_rfl, by kernel_rfl⟩
theorem z12 : zR 12 ([.u64 0]) := ⟨by kernel_rfl, by kernel_rfl, by kernel_rfl⟩
theorem z13 : zR 13 ([.str ⟨#[]⟩, .u64 0]) := ⟨by kernel_rfl, by kernel_rfl, by kernel_rfl⟩
theorem z14 : zR 14 ([.str ⟨#[]⟩, .u64 0]) := ⟨by kernel_rfl, by kernel_rfl, by kernel_rfl⟩
theorem z15 : zR 15 ([.pn]) := ⟨by kernel_rfl, by kernel_rfl, by kernel_rfl⟩
theorem z16 : zR 16 ([.pn]) := ⟨by kernel_rfl, by kernel_rfl, by kernel_rfl⟩
theorem z17 : zR 17 ([.pn]) := ⟨by kernel_rfl, by kernel_rfl, by kernel_rfl⟩
theorem z18 : zR 18 ([.pn]) := ⟨by kernel_rfl, by kernel_rfl, by kernel_rfl⟩
theorem z19 : zR 19 ([.pn]) := ⟨by kernel_rfl, by kernel_rfl, by kernel_rfl⟩
theorem z20 : zR 20 ([.inil]) := ⟨by kernel_rfl, by kernel_rfl, by kernel_rfl⟩
theorem z21 : zR 21 ([.i .i32 0]) := ⟨by kernel_rfl, by kernel_rfl, by kernel_rfl⟩
theorem z22 : zR 22 ([.sn]) := ⟨by kernel_rfl, by kernel_rfl, by kernel_rfl⟩
theorem z23 : zR 23 ([.sn]) := ⟨by kernel_rfl, by kernel_rfl, by kernel_rfl⟩
theorem z24 : zR 24 ([.fnil]) := ⟨by kernel_rfl, by kernel_rfl, by kernel_rfl⟩
theorem z25 : zR 25 ([.pn]) := ⟨by kernel_rfl, by kernel_rfl, by kernel_rfl⟩
theorem z26 : zR 26 ([.sn]) := ⟨by kernel_rfl, by kernel_rfl, by kernel_rfl⟩
theorem z27 : zR 27 ([.sn]) := ⟨by kernel_rfl, by kernel_rfl, by kernel_rfl⟩
theorem z28 : zR 28 ([.sn]) := ⟨by kernel_rfl, by kernel_rfl, by kernel_rfl⟩
theorem z29 : zR 29 ([.sn]) := ⟨by kernel_rfl, by kernel_rfl, by kernel_rfl⟩
theorem z30 : zR 30 ([.sn]) := ⟨by kernel_rfl, by kernel_rfl, by kernel_rfl⟩
theorem z31 : zR 31 ([.sn]) := ⟨by kernel_rfl, by kernel_rfl, by kernel_rfl⟩
theorem z32 : zR 32 ([.sn]) := ⟨by kernel_rfl, by kernel_rfl, by kernel_rfl⟩
theorem z33 : zR 33 ([.sn]) := ⟨by kernel_rfl, by kernel_rfl, by kernel_rfl⟩
theorem z34 : zR 34 ([.sn]) := ⟨by kernel_rfl, by kernel_rfl, by kernel_rfl⟩
theorem z35 : zR 35 ([.sn]) := ⟨by kernel_rfl, by kernel_rfl, by kernel_rfl⟩
theorem z36 : zR 36 ([.sn]) := ⟨by kernel_rfl, by kernel_rfl, by kernel_rfl⟩
theorem z37 : zR 37 ([.sn]) := ⟨by kernel_rfl, by kernel_rfl, by kernel_rfl⟩
theorem z38 : zR 38 ([.sn]) := ⟨by kernel_rfl, by kernel_rfl, by kernel_rfl⟩
theorem z39 : zR 39 ([.sn]) := ⟨by kernel_rfl, by kernel_rfl, by kernel_rfl⟩
theorem z40 : zR 40 ([.sn]) := ⟨by kernel_rfl, by kernel_rfl, by kernel_rfl⟩
theorem z41 : zR 41 ([.sn]) := ⟨by kernel_rfl, by kernel_rfl, by kernel_rfl⟩
theorem z42 : zR 42 ([.sn]) := ⟨by kernel_rfl, by kernel_rfl, by kernel_rfl⟩
theorem z43 : zR 43 ([.i .i64 0, .i .i64 0] ++ List.replicate 51 (.sn)) := ⟨by kernel_rfl, by kernel_rfl, by kernel_rfl⟩
theorem z44 : zR 44 ([.i .i64 0, .i .i64 0] ++ List.replicate 51 (.sn)) := ⟨by kernel_rfl, by kernel_rfl, by kernel_rfl⟩
theorem z45 : zR 45 ([.fnil]) := ⟨by kernel_rfl, by kernel_rfl, by kernel_rfl⟩
theorem z47 : zR 47 ([.fnil]) := ⟨by kernel_rfl, by kernel_rfl, by kernel_rfl⟩
theorem z48 : zR 48 ([.u64 0]) := ⟨by kernel_rfl, by kernel_rfl, by kernel_rfl⟩
theorem z49 : zR 49 ([.i .i64 0, .u64 0, .u64 0]) := ⟨by kernel_rfl, by kernel_rfl, by kernel_rfl⟩
theorem z50 : zR 50 ([.i .i64 0, .u64 0, .u64 0]) := ⟨by kernel_rfl, by kernel_rfl, by kernel_rfl⟩
theorem z51 : zR 51 ([.i .i64 0, .u64 0, .u64 0, .i .i64 0, .u64 0, .u64 0, .sn]) := ⟨by kernel_rfl, by kernel_rfl, by kernel_rfl⟩
theorem z52 : zR 52 ([.i .i64 0, .u64 0, .u64 0, .i .i64 0, .u64 0, .u64 0, .sn]) := ⟨by kernel_rfl, by kernel_rfl, by kernel_rfl⟩
theorem z53 : zR 53 ([.i .i64 0]) := ⟨by kernel_rfl, by kernel_rfl, by kernel_rfl⟩
theorem z55 : zR 55 ([.fnil]) := ⟨by kernel_rfl, by kernel_rfl, by kernel_rfl⟩
theorem z56 : zR 56 ([.i .i64 0, .i .i64 0, .i .i64 0, .u64 0]) := ⟨by kernel_rfl, by kernel_rfl, by kernel_rfl⟩
theorem z57 : zR 57 ([.i .i64 0, .i .i64 0, .i .i64 0, .u64 0]) := ⟨by kernel_rfl, by kernel_rfl, by kernel_rfl⟩
theorem z59 : zR 59 ([.fnil]) := ⟨by kernel_rfl, by kernel_rfl, by kernel_rfl⟩
theorem z60 : zR 60 ([.i .i64 0, .i .i64 0, .i .i64 0, .u64 0, .sn]) := ⟨by kernel_rfl, by kernel_rfl, by kernel_rfl⟩
theorem z61 : zR 61 ([.i .i64 0, .i .i64 0, .i .i64 0, .u64 0, .sn]) := ⟨by kernel_rfl, by kernel_rfl, by kernel_rfl⟩
theorem z62 : zR 62 ([.fnil]) := ⟨by kernel_rfl, by kernel_rfl, by kernel_rfl⟩
theorem z63 : zR 63 ([.fnil]) := ⟨by kernel_rfl, by kernel_rfl, by kernel_rfl⟩
theorem z64 : zR 64 ([.fnil]) := ⟨by kernel_rfl, by kernel_rfl, by kernel_rfl⟩
theorem z66 : zR 66 ([.fnil]) := ⟨by kernel_rfl, by kernel_rfl, by kernel_rfl⟩
theorem z67 : zR 67 ([.fnil]) := ⟨by kernel_rfl, by kernel_rfl, by kernel_rfl⟩
theorem z68 : zR 68 ([.fnil]) := ⟨by kernel_rfl, by kernel_rfl, by kernel_rfl⟩
theorem z69 : zR 69 ([.fnil]) := ⟨by kernel_rfl, by kernel_rfl, by kernel_rfl⟩
theorem z70 : zR 70 ([.fnil]) := ⟨by kernel_rfl, by kernel_rfl, by kernel_rfl⟩
theorem z71 : zR 71 ([.fnil]) := ⟨by kernel_rfl, by kernel_rfl, by kernel_rfl⟩
theorem z72 : zR 72 ([.fnil]) := ⟨by kernel_rfl, by kernel_rfl, by kernel_rfl⟩
theorem z74 : zR 74 ([.fnil]) := ⟨by kernel_rfl, by kernel_rfl, by kernel_rfl⟩
theorem z75 : zR 75 ([.fnil]) := ⟨by kernel_rfl, by kernel_rfl, by kernel_rfl⟩
theorem z76 : zR 76 ([.fnil]) := ⟨by kernel_rfl, by kernel_rfl, by kernel_rfl⟩
theorem z77 : zR 77 ([.pn]) := ⟨by kernel_rfl, by kernel_rfl, by kernel_rfl⟩
theorem z78 : zR 78 ([.fnil]) := ⟨by kernel_rfl, by kernel_rfl, by kernel_rfl⟩
theorem z79 : zR 79 ([.fnil]) := ⟨by kernel_rfl, by kernel_rfl, by kernel_rfl⟩
theorem z80 : zR 80 ([.fnil]) := ⟨by kernel_rfl, by kernel_rfl, by kernel_rfl⟩
theorem z82 : zR 82 ([.fnil]) := ⟨by kernel_rfl, by kernel_rfl, by kernel_rfl⟩
theorem z83 : zR 83 ([.fnil]) := ⟨by kernel_rfl, by kernel_rfl, by kernel_rfl⟩
theorem z84 : zR 84 ([.fnil]) := ⟨by kernel_rfl, by kernel_rfl, by kernel_rfl⟩
theorem z85 : zR 85 ([.fnil]) := ⟨by kernel_rfl, by kernel_rfl, by kernel_rfl⟩
theorem z86 : zR 86 ([.fnil]) := ⟨by kernel_rfl, by kernel_rfl, by kernel_rfl⟩
theorem z87 : zR 87 ([.fnil]) := ⟨by kernel_rfl, by kernel_rfl, by kernel_rfl⟩
theorem z88 : zR 88 ([.fnil]) := ⟨by kernel_rfl, by kernel_rfl, by kernel_rfl⟩
theorem z89 : zR 89 ([.i .i64 0, .i .i64 0, .i .i64 0, .u64 0, .sn, .sn]) := ⟨by kernel_rfl, by kernel_rfl, by kernel_rfl⟩
theorem z90 : zR 90 ([.i .i64 0, .i .i64 0, .i .i64 0, .u64 0, .sn, .sn]) := ⟨by kernel_rfl, by kernel_rfl, by kernel_rfl⟩
theorem z92 : zR 92 ([.fnil]) := ⟨by kernel_rfl, by kernel_rfl, by kernel_rfl⟩
theorem z94 : zR 94 ([.fnil]) := ⟨by kernel_rfl, by kernel_rfl, by kernel_rfl⟩
theorem z95 : zR 95 ([.fnil]) := ⟨by kernel_rfl, by kernel_rfl, by kernel_rfl⟩
theorem z96 : zR 96 ([.fnil]) := ⟨by kernel_rfl, by kernel_rfl, by kernel_rfl⟩
theorem z97 : zR 97 ([.fnil]) := ⟨by kernel_rfl, by kernel_rfl, by kernel_rfl⟩
theorem z98 : zR 98 ([.u32 0]) := ⟨by kernel_rfl, by kernel_rfl, by kernel_rfl⟩
theorem z99 : zR 99 ([.u64 0]) := ⟨by kernel_rfl, by kernel_rfl, by kernel_rfl⟩
theorem z101 : zR 101 ([.fnil]) := ⟨by kernel_rfl, by kernel_rfl, by kernel_rfl⟩
theorem z102 : zR 102 ([.fnil]) := ⟨by kernel_rfl, by kernel_rfl, by kernel_rfl⟩
theorem z103 : zR 103 ([.fnil]) := ⟨by kernel_rfl, by kernel_rfl, by kernel_rfl⟩
theorem z104 : zR 104 ([.sn, .i .i64 0, .i .i64 0]) := ⟨by kernel_rfl, by kernel_rfl, by kernel_rfl⟩
theorem z105 : zR 105 ([.sn, .i .i64 0, .i .i64 0]) := ⟨by kernel_rfl, by kernel_rfl, by kernel_rfl⟩
theorem z106 : zR 106 ([.fnil]) := ⟨by kernel_rfl, by kernel_rfl, by kernel_rfl⟩
theorem z107 : zR 107 ([.fnil]) := ⟨by kernel_rfl, by kernel_rfl, by kernel_rfl⟩
theorem z108 : zR 108 ([.fnil]) := ⟨by kernel_rfl, by kernel_rfl, by kernel_rfl⟩
theorem z109 : zR 109 ([.pn]) := ⟨by kernel_rfl, by kernel_rfl, by kernel_rfl⟩
theorem z111 : zR 111 ([.fnil]) := ⟨by kernel_rfl, by kernel_rfl, by kernel_rfl⟩
theorem z112 : zR 112 ([.fnil]) := ⟨by kernel_rfl, by kernel_rfl, by kernel_rfl⟩
theorem z113 : zR 113 (List.replicate 16 (.u8 0)) := ⟨by kernel_rfl, by kernel_rfl, by kernel_rfl⟩
theorem z114 : zR 114 ([.fnil]) := ⟨by kernel_rfl, by kernel_rfl, by kernel_rfl⟩
theorem z115 : zR 115 ([.fnil]) := ⟨by kernel_rfl, by kernel_rfl, by kernel_rfl⟩
theorem z116 : zR 116 ([.fnil]) := ⟨by kernel_rfl, by kernel_rfl, by kernel_rfl⟩
theorem z118 : zR 118 ([.fnil]) := ⟨by kernel_rfl, by kernel_rfl, by kernel_rfl⟩
theorem z119 : zR 119 ([.fnil]) := ⟨by kernel_rfl, by kernel_rfl, by kernel_rfl⟩
theorem z120 : zR 120 (List.replicate 256 (.u8 0)) := ⟨by kernel_rfl, by kernel_rfl, by kernel_rfl⟩
theorem z121 : zR 121 (List.replicate 16 (.u8 0)) := ⟨by kernel_rfl, by kernel_rfl, by kernel_rfl⟩
theorem z122 : zR 122 (List.replicate 240 (.u8 0)) := ⟨by kernel_rfl, by kernel_rfl, by kernel_rfl⟩
theorem z123 : zR 123 (List.replicate 496 (.u8 0)) := ⟨by kernel_rfl, by kernel_rfl, by kernel_rfl⟩
theorem z124 : zR 124 (List.replicate 496 (.u8 0)) := ⟨by kernel_rfl, by kernel_rfl, by kernel_rfl⟩
theorem z125 : zR 125 ([.fnil]) := ⟨by kernel_rfl, by kernel_rfl, by kernel_rfl⟩
theorem z126 : zR 126 ([.u8 0, .u8 0, .u8 0, .u8 0]) := ⟨by kernel_rfl, by kernel_rfl, by kernel_rfl⟩
theorem z127 : zR 127 ([.u8 0, .u8 0, .u8 0, .u8 0]) := ⟨by kernel_rfl, by kernel_rfl, by kernel_rfl⟩
theorem z128 : zR 128 (List.replicate 240 (.u8 0)) := ⟨by kernel_rfl, by kernel_rfl, by kernel_rfl⟩
theorem z129 : zR 129 ([.fnil]) := ⟨by kernel_rfl, by kernel_rfl, by kernel_rfl⟩
theorem z130 : zR 130 ([.fnil]) := ⟨by kernel_rfl, by kernel_rfl, by kernel_rfl⟩
theorem z131 : zR 131 ([.fnil]) := ⟨by kernel_rfl, by kernel_rfl, by kernel_rfl⟩
theorem z132 : zR 132 ([.fnil]) := ⟨by kernel_rfl, by kernel_rfl, by kernel_rfl⟩
theorem z133 : zR 133 ([.fnil]) := ⟨by kernel_rfl, by kernel_rfl, by kernel_rfl⟩
theorem z134 : zR 134 ([.fnil]) := ⟨by kernel_rfl, by kernel_rfl, by kernel_rfl⟩
theorem z135 : zR 135 ([.fnil]) := ⟨by kernel_rfl, by kernel_rfl, by kernel_rfl⟩
theorem z136 : zR 136 ([.fnil]) := ⟨by kernel_rfl, by kernel_rfl, by kernel_rfl⟩
theorem z137 : zR 137 ([.fnil]) := ⟨by kernel_rfl, by kernel_rfl, by kernel_rfl⟩
theorem z138 : zR 138 ([.fnil]) := ⟨by kernel_rfl, by kernel_rfl, by kernel_rfl⟩
theorem z139 : zR 139 ([.sn]) := ⟨by kernel_rfl, by kernel_rfl, by kernel_rfl⟩
theorem z140 : zR 140 ([.fnil]) := ⟨by kernel_rfl, by kernel_rfl, by kernel_rfl⟩
theorem z141 : zR 141 ([.sn]) := ⟨by kernel_rfl, by kernel_rfl, by kernel_rfl⟩
theorem z142 : zR 142 ([.sn]) := ⟨by kernel_rfl, by kernel_rfl, by kernel_rfl⟩
theorem z143 : zR 143 ([.sn]) := ⟨by kernel_rfl, by kernel_rfl, by kernel_rfl⟩
theorem z144 : zR 144 ([.i .i64 0, .i .i64 0]) := ⟨by kernel_rfl, by kernel_rfl, by kernel_rfl⟩
theorem z145 : zR 145 ([.i .i64 0, .i .i64 0]) := ⟨by kernel_rfl, by kernel_rfl, by kernel_rfl⟩
theorem z146 : zR 146 ([.i .i64 0, .i .i64 0, .i .i64 0]) := ⟨by kernel_rfl, by kernel_rfl, by kernel_rfl⟩
theorem z147 : zR 147 ([.i .i64 0, .i .i64 0, .i .i64 0]) := ⟨by kernel_rfl, by kernel_rfl, by kernel_rfl⟩
theorem z148 : zR 148 ([.fnil]) := ⟨by kernel_rfl, by kernel_rfl, by kernel_rfl⟩
theorem z149 : zR 149 ([.fnil]) := ⟨by kernel_rfl, by kernel_rfl, by kernel_rfl⟩
theorem z150 : zR 150 ([.sn]) := ⟨by kernel_rfl, by kernel_rfl, by kernel_rfl⟩
theorem z151 : zR 151 ([.fnil]) := ⟨by kernel_rfl, by kernel_rfl, by kernel_rfl⟩
theorem z152 : zR 152 ([.sn]) := ⟨by kernel_rfl, by kernel_rfl, by kernel_rfl⟩
theorem z153 : zR 153 ([.fnil]) := ⟨by kernel_rfl, by kernel_rfl, by kernel_rfl⟩
theorem z154 : zR 154 ([.sn]) := ⟨by kernel_rfl, by kernel_rfl, by kernel_rfl⟩
theorem z155 : zR 155 ([.fnil]) := ⟨by kernel_rfl, by kernel_rfl, by kernel_rfl⟩
theorem z156 : zR 156 ([.sn]) := ⟨by kernel_rfl, by kernel_rfl, by kernel_rfl⟩
theorem z157 : zR 157 ([.fnil]) := ⟨by kernel_rfl, by kernel_rfl, by kernel_rfl⟩
theorem z158 : zR 158 ([.sn]) := ⟨by kernel_rfl, by kernel_rfl, by kernel_rfl⟩
theorem z159 : zR 159 ([.fnil]) := ⟨by kernel_rfl, by kernel_rfl, by kernel_rfl⟩
theorem z160 : zR 160 ([.sn]) := ⟨by kernel_rfl, by kernel_rfl, by kernel_rfl⟩
theorem z161 : zR 161 ([.fnil]) := ⟨by kernel_rfl, by kernel_rfl, by kernel_rfl⟩
theorem z162 : zR 162 ([.sn]) := ⟨by kernel_rfl, by kernel_rfl, by kernel_rfl⟩
theorem z163 : zR 163 ([.fnil]) := ⟨by kernel_rfl, by kernel_rfl, by kernel_rfl⟩
theorem z164 : zR 164 ([.sn]) := ⟨by kernel_rfl, by kernel_rfl, by kernel_rfl⟩
theorem z165 : zR 165 ([.fnil]) := ⟨by kernel_rfl, by kernel_rfl, by kernel_rfl⟩
theorem z166 : zR 166 ([.sn]) := ⟨by kernel_rfl, by kernel_rfl, by kernel_rfl⟩
theorem z167 : zR 167 ([.fnil]) := ⟨by kernel_rfl, by kernel_rfl, by kernel_rfl⟩
theorem z168 : zR 168 ([.sn]) := ⟨by kernel_rfl, by kernel_rfl, by kernel_rfl⟩
theorem z169 : zR 169 ([.fnil]) := ⟨by kernel_rfl, by kernel_rfl, by kernel_rfl⟩
theorem z170 : zR 170 ([.sn]) := ⟨by kernel_rfl, by kernel_rfl, by kernel_rfl⟩
theorem z171 : zR 171 ([.fnil]) := ⟨by kernel_rfl, by kernel_rfl, by kernel_rfl⟩
theorem z172 : zR 172 ([.fnil]) := ⟨by kernel_rfl, by kernel_rfl, by kernel_rfl⟩
theorem z173 : zR 173 ([.fnil]) := ⟨by kernel_rfl, by kernel_rfl, by kernel_rfl⟩
theorem z174 : zR 174 ([.i .i64 0, .u64 0, .u64 0, .i .i64 0]) := ⟨by kernel_rfl, by kernel_rfl, by kernel_rfl⟩
theorem z175 : zR 175 ([.i .i64 0, .u64 0, .u64 0, .i .i64 0]) := ⟨by kernel_rfl, by kernel_rfl, by kernel_rfl⟩
theorem z176 : zR 176 ([.fnil]) := ⟨by kernel_rfl, by kernel_rfl, by kernel_rfl⟩
theorem z177 : zR 177 ([.fnil]) := ⟨by kernel_rfl, by kernel_rfl, by kernel_rfl⟩
theorem z178 : zR 178 ([.i .i64 0, .sn, .sn]) := ⟨by kernel_rfl, by kernel_rfl, by kernel_rfl⟩
theorem z179 : zR 179 ([.i .i64 0, .sn, .sn]) := ⟨by kernel_rfl, by kernel_rfl, by kernel_rfl⟩
theorem z180 : zR 180 ([.fnil]) := ⟨by kernel_rfl, by kernel_rfl, by kernel_rfl⟩
theorem z181 : zR 181 ([.sn, .i .i64 0, .i .i64 0, .i .i64 0, .u64 0, .u64 0, .i .i64 0, .i .i64 0]) := ⟨by kernel_rfl, by kernel_rfl, by kernel_rfl⟩
theorem z182 : zR 182 ([.sn, .i .i64 0, .i .i64 0, .i .i64 0, .u64 0, .u64 0, .i .i64 0, .i .i64 0]) := ⟨by kernel_rfl, by kernel_rfl, by kernel_rfl⟩
theorem z183 : zR 183 ([.fnil]) := ⟨by kernel_rfl, by kernel_rfl, by kernel_rfl⟩
theorem z184 : zR 184 ([.sn, .sn]) := ⟨by kernel_rfl, by kernel_rfl, by kernel_rfl⟩
theorem z185 : zR 185 ([.sn, .sn]) := ⟨by kernel_rfl, by kernel_rfl, by kernel_rfl⟩
theorem z186 : zR 186 ([.fnil]) := ⟨by kernel_rfl, by kernel_rfl, by kernel_rfl⟩
theorem z187 : zR 187 ([.sn, .sn, .b false]) := ⟨by kernel_rfl, by kernel_rfl, by kernel_rfl⟩
theorem z188 : zR 188 ([.sn, .sn, .b false]) := ⟨by kernel_rfl, by kernel_rfl, by kernel_rfl⟩
theorem z189 : zR 189 ([.fnil]) := ⟨by kernel_rfl, by kernel_rfl, by kernel_rfl⟩
theorem z190 : zR 190 ([.i .i64 0, .sn]) := ⟨by kernel_rfl, by kernel_rfl, by kernel_rfl⟩
theorem z191 : zR 191 ([.i .i64 0, .sn]) := ⟨by kernel_rfl, by kernel_rfl, by kernel_rfl⟩
theorem z192 : zR 192 ([.fnil]) := ⟨by kernel_rfl, by kernel_rfl, by kernel_rfl⟩
theorem z193 : zR 193 ([.i .i64 0, .i .i64 0, .i .i64 0, .sn, .i .i64 0, .u64 0, .u64 0, .i .i64 0]) := ⟨by kernel_rfl, by kernel_rfl, by kernel_rfl⟩
theorem z194 : zR 194 ([.i .i64 0, .i .i64 0, .i .i64 0, .sn, .i .i64 0, .u64 0, .u64 0, .i .i64 0]) := ⟨by kernel_rfl, by kernel_rfl, by kernel_rfl⟩
theorem z195 : zR 195 ([.fnil]) := ⟨by kernel_rfl, by kernel_rfl, by kernel_rfl⟩
theorem z196 : zR 196 ([.i .i64 0, .i .i64 0]) := ⟨by kernel_rfl, by kernel_rfl, by kernel_rfl⟩
theorem z197 : zR 197 ([.i .i64 0, .i .i64 0]) := ⟨by kernel_rfl, by kernel_rfl, by kernel_rfl⟩
theorem z198 : zR 198 ([.fnil]) := ⟨by kernel_rfl, by kernel_rfl, by kernel_rfl⟩
theorem z199 : zR 199 ([.i .i64 0, .i .i64 0, .sn]) := ⟨by kernel_rfl, by kernel_rfl, by kernel_rfl⟩
theorem z200 : zR 200 ([.i .i64 0, .i .i64 0, .sn]) := ⟨by kernel_rfl, by kernel_rfl, by kernel_rfl⟩
theorem z201 : zR 201 ([.fnil]) := ⟨by kernel_rfl, by kernel_rfl, by kernel_rfl⟩
theorem z202 : zR 202 ([.i .i64 0, .i .i64 0]) := ⟨by kernel_rfl, by kernel_rfl, by kernel_rfl⟩
theorem z203 : zR 203 ([.i .i64 0, .i .i64 0]) := ⟨by kernel_rfl, by kernel_rfl, by kernel_rfl⟩
theorem z204 : zR 204 ([.i .i64 0, .i .i64 0, .i .i64 0, .i .i64 0, .i .i64 0, .i .i64 0, .sn, .i .i64 0, .i .i64 0, .i .i64 0, .i .i64 0, .sn, .sn, .sn]) := ⟨by kernel_rfl, by kernel_rfl, by kernel_rfl⟩
theorem z205 : zR 205 ([.i .i64 0, .i .i64 0, .i .i64 0, .i .i64 0, .i .i64 0, .i .i64 0, .sn, .i .i64 0, .i .i64 0, .i .i64 0, .i .i64 0, .sn, .sn, .sn]) := ⟨by kernel_rfl, by kernel_rfl, by kernel_rfl⟩
theorem z206 : zR 206 ([.fnil]) := ⟨by kernel_rfl, by kernel_rfl, by kernel_rfl⟩
theorem z207 : zR 207 ([.i .i64 0, .i .i64 0, .i .i64 0, .i .i64 0, .i .i64 0, .i .i64 0, .sn, .i .i64 0, .sn, .sn, .sn, .i .i64 0, .i .i64 0, .i .i64 0, .u64 0, .u64 0, .i .i64 0, .i .i64 0, .i .i64 0, .i .i64 0, .sn]) := ⟨by kernel_rfl, by kernel_rfl, by kernel_rfl⟩
theorem z208 : zR 208 ([.i .i64 0, .i .i64 0, .i .i64 0, .i .i64 0, .i .i64 0, .i .i64 0, .sn, .i .i64 0, .sn, .sn, .sn, .i .i64 0, .i .i64 0, .i .i64 0, .u64 0, .u64 0, .i .i64 0, .i .i64 0, .i .i64 0, .i .i64 0, .sn]) := ⟨by kernel_rfl, by kernel_rfl, by kernel_rfl⟩
theorem z209 : zR 209 ([.fnil]) := ⟨by kernel_rfl, by kernel_rfl, by kernel_rfl⟩
theorem z210 : zR 210 ([.fnil]) := ⟨by kernel_rfl, by kernel_rfl, by kernel_rfl⟩
theorem z211 : zR 211 ([.fnil]) := ⟨by kernel_rfl, by kernel_rfl, by kernel_rfl⟩
theorem z212 : zR 212 ([.fnil]) := ⟨by kernel_rfl, by kernel_rfl, by kernel_rfl⟩
theorem z213 : zR 213 ([.fnil]) := ⟨by kernel_rfl, by kernel_rfl, by kernel_rfl⟩
theorem z214 : zR 214 ([.fnil]) := ⟨by kernel_rfl, by kernel_rfl, by kernel_rfl⟩
theorem z215 : zR 215 ([.fnil]) := ⟨by kernel_rfl, by kernel_rfl, by kernel_rfl⟩
theorem z216 : zR 216 ([.fnil]) := ⟨by kernel_rfl, by kernel_rfl, by kernel_rfl⟩
theorem z217 : zR 217 ([.fnil]) := ⟨by kernel_rfl, by kernel_rfl, by kernel_rfl⟩
theorem z218 : zR 218 ([.fnil]) := ⟨by kernel_rfl, by kernel_rfl, by kernel_rfl⟩
theorem z219 : zR 219 ([.fnil]) := ⟨by kernel_rfl, by kernel_rfl, by kernel_rfl⟩
theorem z220 : zR 220 ([.fnil]) := ⟨by kernel_rfl, by kernel_rfl, by kernel_rfl⟩
theorem z221 : zR 221 ([.fnil]) := ⟨by kernel_rfl, by kernel_rfl, by kernel_rfl⟩
theorem z222 : zR 222 ([.fnil]) := ⟨by kernel_rfl, by kernel_rfl, by kernel_rfl⟩
theorem z223 : zR 223 ([.fnil]) := ⟨by kernel_rfl, by kernel_rfl, by kernel_rfl⟩
theorem z224 : zR 224 ([.fnil]) := ⟨by kernel_rfl, by kernel_rfl, by kernel_rfl⟩
theorem z225 : zR 225 ([.fnil]) := ⟨by kernel_rfl, by kernel_rfl, by kernel_rfl⟩
theorem z226 : zR 226 ([.fnil]) := ⟨by kernel_rfl, by kernel_rfl, by kernel_rfl⟩
theorem z227 : zR 227 ([.i .i64 0, .i .i64 0, .i .i64 0, .i .i64 0, .i .i64 0]) := ⟨by kernel_rfl, by kernel_rfl, by kernel_rfl⟩
theorem z228 : zR 228 ([.fnil]) := ⟨by kernel_rfl, by kernel_rfl, by kernel_rfl⟩
theorem z229 : zR 229 ([.u8 0, .u8 0, .u8 0, .u8 0]) := ⟨by kernel_rfl, by kernel_rfl, by kernel_rfl⟩
theorem z230 : zR 230 ([.fnil]) := ⟨by kernel_rfl, by kernel_rfl, by kernel_rfl⟩
theorem z231 : zR 231 ([.fnil]) := ⟨by kernel_rfl, by kernel_rfl, by kernel_rfl⟩
theorem z232 : zR 232 ([.fnil]) := ⟨by kernel_rfl, by kernel_rfl, by kernel_rfl⟩
theorem z233 : zR 233 ([.fnil]) := ⟨by kernel_rfl, by kernel_rfl, by kernel_rfl⟩
theorem z234 : zR 234 ([.fnil]) := ⟨by kernel_rfl, by kernel_rfl, by kernel_rfl⟩
theorem z235 : zR 235 ([.fnil]) := ⟨by kernel_rfl, by kernel_rfl, by kernel_rfl⟩
theorem z236 : zR 236 ([.fnil]) := ⟨by kernel_rfl, by kernel_rfl, by kernel_rfl⟩
theorem z237 : zR 237 ([.fnil]) := ⟨by kernel_rfl, by kernel_rfl, by kernel_rfl⟩
theorem z238 : zR 238 ([.fnil]) := ⟨by kernel_rfl, by kernel_rfl, by kernel_rfl⟩
theorem z239 : zR 239 ([.fnil]) := ⟨by kernel_rfl, by kernel_rfl, by kernel_rfl⟩
theorem z240 : zR 240 ([.fnil]) := ⟨by kernel_rfl, by kernel_rfl, by kernel_rfl⟩
theorem z241 : zR 241 ([.fnil]) := ⟨by kernel_rfl, by kernel_rfl, by kernel_rfl⟩
theorem z242 : zR 242 ([.fnil]) := ⟨by kernel_rfl, by kernel_rfl, by kernel_rfl⟩
theorem z243 : zR 243 (List.replicate 24 (.u8 0)) := ⟨by kernel_rfl, by kernel_rfl, by kernel_rfl⟩
theorem z244 : zR 244 ([.fnil]) := ⟨by kernel_rfl, by kernel_rfl, by kernel_rfl⟩
theorem z245 : zR 245 ([.fnil]) := ⟨by kernel_rfl, by kernel_rfl, by kernel_rfl⟩
theorem z247 : zR 247 ([.fnil]) := ⟨by kernel_rfl, by kernel_rfl, by kernel_rfl⟩
theorem z248 : zR 248 ([.fnil]) := ⟨by kernel_rfl, by kernel_rfl, by kernel_rfl⟩
theorem z249 : zR 249 (List.replicate 20 (.u64 0)) := ⟨by kernel_rfl, by kernel_rfl, by kernel_rfl⟩
theorem z250 : zR 250 (List.replicate 65 (.u8 0)) := ⟨by kernel_rfl, by kernel_rfl, by kernel_rfl⟩
theorem z251 : zR 251 ([.fnil]) := ⟨by kernel_rfl, by kernel_rfl, by kernel_rfl⟩
theorem z252 : zR 252 ([.fnil]) := ⟨by kernel_rfl, by kernel_rfl, by kernel_rfl⟩
theorem z253 : zR 253 ([.fnil]) := ⟨by kernel_rfl, by kernel_rfl, by kernel_rfl⟩
theorem z254 : zR 254 (List.replicate 32 (.u8 0)) := ⟨by kernel_rfl, by kernel_rfl, by kernel_rfl⟩
theorem z255 : zR 255 (List.replicate 64 (.u8 0)) := ⟨by kernel_rfl, by kernel_rfl, by kernel_rfl⟩
theorem z256 : zR 256 ([.fnil]) := ⟨by kernel_rfl, by kernel_rfl, by kernel_rfl⟩
theorem z257 : zR 257 ([.pn, .pn, .pn, .str ⟨#[]⟩]) := ⟨by kernel_rfl, by kernel_rfl, by kernel_rfl⟩
theorem z258 : zR 258 ([.pn, .pn, .pn, .str ⟨#[]⟩]) := ⟨by kernel_rfl, by kernel_rfl, by kernel_rfl⟩
theorem z259 : zR 259 ([]) := ⟨by kernel_rfl, by kernel_rfl, by kernel_rfl⟩
theorem z260 : zR 260 ([]) := ⟨by kernel_rfl, by kernel_rfl, by kernel_rfl⟩
theorem z261 : zR 261 ([]) := ⟨by kernel_rfl, by kernel_rfl, by kernel_rfl⟩
theorem z262 : zR 262 ([.u8 0]) := ⟨by kernel_rfl, by kernel_rfl, by kernel_rfl⟩
theorem z263 : zR 263 ([.u8 0]) := ⟨by kernel_rfl, by kernel_rfl, by kernel_rfl⟩
theorem z264 : zR 264 ([.fnil]) := ⟨by kernel_rfl, by kernel_rfl, by kernel_rfl⟩
theorem z265 : zR 265 ([.pn]) := ⟨by kernel_rfl, by kernel_rfl, by kernel_rfl⟩
theorem z266 : zR 266 ([.i .i32 0]) := ⟨by kernel_rfl, by kernel_rfl, by kernel_rfl⟩
theorem z267 : zR 267 ([.i .i32 0]) := ⟨by kernel_rfl, by kernel_rfl, by kernel_rfl⟩
theorem z268 : zR 268 ([.u64 0, .u64 0, .u32 0, .u8 0, .u8 0, .u8 0, .u8 0, .fnil, .pn, .i .i32 0, .i .i32 0]) := ⟨by kernel_rfl, by kernel_rfl, by kernel_rfl⟩
theorem z269 : zR 269 ([.u64 0, .u64 0, .u32 0, .u8 0, .u8 0, .u8 0, .u8 0, .fnil, .pn, .i .i32 0, .i .i32 0]) := ⟨by kernel_rfl, by kernel_rfl, by kernel_rfl⟩
@[go_sem] theorem tk3 : tab.k 3 = .int .i64 := rfl
@[go_sem] theorem tk5 : tab.k 5 = .int .u8 := rfl
@[go_sem] theorem tz5 : tab.z 5 = some (([.u8 0] : List SV)) := rfl
@[go_sem] theorem tk22 : tab.k 22 = .slice 5 1 1 := rfl
@[go_sem] theorem tz22 : tab.z 22 = some (([.sn] : List SV)) := rfl
@[go_sem] theorem tk23 : tab.k 23 = .slice 52 7 72 := rfl
@[go_sem] theorem tk26 : tab.k 26 = .slice 22 1 24 := rfl
@[go_sem] theorem tk27 : tab.k 27 = .slice 139 1 24 := rfl
@[go_sem] theorem tk28 : tab.k 28 = .slice 141 1 24 := rfl
@[go_sem] theorem tk29 : tab.k 29 = .slice 142 1 24 := rfl
@[go_sem] theorem tk30 : tab.k 30 = .slice 26 1 24 := rfl
@[go_sem] theorem tk31 : tab.k 31 = .slice 150 1 24 := rfl
@[go_sem] theorem tk32 : tab.k 32 = .slice 143 1 24 := rfl
@[go_sem] theorem tk33 : tab.k 33 = .slice 152 1 24 := rfl
@[go_sem] theorem tk34 : tab.k 34 = .slice 154 1 24 := rfl
@[go_sem] theorem tk35 : tab.k 35 = .slice 156 1 24 := rfl
@[go_sem] theorem tk36 : tab.k 36 = .slice 158 1 24 := rfl
@[go_sem] theorem tk37 : tab.k 37 = .slice 162 1 24 := rfl
@[go_sem] theorem tk38 : tab.k 38 = .slice 160 1 24 := rfl
@[go_sem] theorem tk39 : tab.k 39 = .slice 164 1 24 := rfl
@[go_sem] theorem tk40 : tab.k 40 = .slice 166 1 24 := rfl
@[go_sem] theorem tk41 : tab.k 41 = .slice 168 1 24 := rfl
@[go_sem] theorem tk42 : tab.k 42 = .slice 170 1 24 := rfl
@[go_sem] theorem tk44 : tab.k 44 = .struct 53 := rfl
@[go_sem] theorem tz44 : tab.z 44 = some (([.i .i64 0, .i .i64 0] ++ List.replicate 51 (.sn) : List SV)) := rfl
@[go_sem] theorem tf44_0 : tab.f 44 0 = some (0, 1, 3) := rfl
@[go_sem] theorem tf44_1 : tab.f 44 1 = some (1, 1, 3) := rfl
@[go_sem] theorem tf44_2 : tab.f 44 2 = some (2, 1, 26) := rfl
@[go_sem] theorem tf44_3 : tab.f 44 3 = some (3, 1, 26) := rfl
@[go_sem] theorem tf44_4 : tab.f 44 4 = some (4, 1, 26) := rfl
@[go_sem] theorem tf44_5 : tab.f 44 5 = some (5, 1, 27) := rfl
@[go_sem] theorem tf44_8 : tab.f 44 8 = some (8, 1, 28) := rfl
@[go_sem] theorem tf44_11 : tab.f 44 11 = some (11, 1, 29) := rfl
@[go_sem] theorem tf44_14 : tab.f 44 14 = some (14, 1, 30) := rfl
@[go_sem] theorem tf44_17 : tab.f 44 17 = some (17, 1, 31) := rfl
@[go_sem] theorem tf44_20 : tab.f 44 20 = some (20, 1, 32) := rfl
@[go_sem] theorem tf44_23 : tab.f 44 23 = some (23, 1, 33) := rfl
@[go_sem] theorem tf44_26 : tab.f 44 26 = some (26, 1, 34) := rfl
@[go_sem] theorem tf44_29 : tab.f 44 29 = some (29, 1, 35) := rfl
@[go_sem] theorem tf44_32 : tab.f 44 32 = some (32, 1, 36) := rfl
@[go_sem] theorem tf44_35 : tab.f 44 35 = some (35, 1, 37) := rfl
@[go_sem] theorem tf44_38 : tab.f 44 38 = some (38, 1, 38) := rfl
@[go_sem] theorem tf44_41 : tab.f 44 41 = some (41, 1, 39) := rfl
@[go_sem] theorem tf44_44 : tab.f 44 44 = some (44, 1, 40) := rfl
@[go_sem] theorem tf44_47 : tab.f 44 47 = some (47, 1, 41) := rfl
@[go_sem] theorem tf44_50 : tab.f 44 50 = some (50, 1, 42) := rfl
@[go_sem] theorem tk48 : tab.k 48 = .int .u64 := rfl
@[go_sem] theorem tk50 : tab.k 50 = .struct 3 := rfl
@[go_sem] theorem tz50 : tab.z 50 = some (([.i .i64 0, .u64 0, .u64 0] : List SV)) := rfl
@[go_sem] theorem tf50_0 : tab.f 50 0 = some (0, 1, 3) := rfl
@[go_sem] theorem tf50_1 : tab.f 50 1 = some (1, 1, 48) := rfl
@[go_sem] theorem tf50_2 : tab.f 50 2 = some (2, 1, 48) := rfl
@[go_sem] theorem tk52 : tab.k 52 = .struct 7 := rfl
@[go_sem] theorem tz52 : tab.z 52 = some (([.i .i64 0, .u64 0, .u64 0, .i .i64 0, .u64 0, .u64 0, .sn] : List SV)) := rfl
@[go_sem] theorem tf52_0 : tab.f 52 0 = some (0, 3, 50) := rfl
@[go_sem] theorem tf52_1 : tab.f 52 1 = some (3, 3, 50) := rfl
@[go_sem] theorem tf52_2 : tab.f 52 2 = some (6, 1, 22) := rfl
@[go_sem] theorem tk53 : tab.k 53 = .int .i64 := rfl
@[go_sem] theorem tk57 : tab.k 57 = .struct 4 := rfl
@[go_sem] theorem tz57 : tab.z 57 = some (([.i .i64 0, .i .i64 0, .i .i64 0, .u64 0] : List SV)) := rfl
@[go_sem] theorem tf57_0 : tab.f 57 0 = some (0, 1, 3) := rfl
@[go_sem] theorem tf57_1 : tab.f 57 1 = some (1, 1, 3) := rfl
@[go_sem] theorem tf57_2 : tab.f 57 2 = some (2, 1, 3) := rfl
@[go_sem] theorem tf57_3 : tab.f 57 3 = some (3, 1, 48) := rfl
@[go_sem] theorem tk61 : tab.k 61 = .struct 5 := rfl
@[go_sem] theorem tz61 : tab.z 61 = some (([.i .i64 0, .i .i64 0, .i .i64 0, .u64 0, .sn] : List SV)) := rfl
@[go_sem] theorem tf61_0 : tab.f 61 0 = some (0, 4, 57) := rfl
@[go_sem] theorem tf61_1 : tab.f 61 1 = some (4, 1, 22) := rfl
@[go_sem] theorem tk90 : tab.k 90 = .struct 6 := rfl
@[go_sem] theorem tz90 : tab.z 90 = some (([.i .i64 0, .i .i64 0, .i .i64 0, .u64 0, .sn, .sn] : List SV)) := rfl
@[go_sem] theorem tf90_0 : tab.f 90 0 = some (0, 4, 57) := rfl
@[go_sem] theorem tf90_1 : tab.f 90 1 = some (4, 1, 22) := rfl
@[go_sem] theorem tf90_2 : tab.f 90 2 = some (5, 1, 22) := rfl
@[go_sem] theorem tk98 : tab.k 98 = .int .u32 := rfl
@[go_sem] theorem tz98 : tab.z 98 = some (([.u32 0] : List SV)) := rfl
@[go_sem] theorem tk105 : tab.k 105 = .struct 3 := rfl
@[go_sem] theorem tz105 : tab.z 105 = some (([.sn, .i .i64 0, .i .i64 0] : List SV)) := rfl
@[go_sem] theorem tf105_0 : tab.f 105 0 = some (0, 1, 22) := rfl
@[go_sem] theorem tf105_1 : tab.f 105 1 = some (1, 1, 3) := rfl
@[go_sem] theorem tf105_2 : tab.f 105 2 = some (2, 1, 53) := rfl
@[go_sem] theorem tk109 : tab.k 109 = .ptr := rfl
@[go_sem] theorem tk113 : tab.k 113 = .arr 16 5 1 16 := rfl
@[go_sem] theorem tz113 : tab.z 113 = some (bS (List.replicate 16 0#8)) := rfl
@[go_sem] theorem te113 : tab.eqp.getD 113 false = true := rfl
@[go_sem] theorem tk120 : tab.k 120 = .arr 256 5 1 256 := rfl
@[go_sem] theorem tk121 : tab.k 121 = .arr 16 5 1 16 := rfl
@[go_sem] theorem tz121 : tab.z 121 = some (bS (List.replicate 16 0#8)) := rfl
@[go_sem] theorem tk122 : tab.k 122 = .arr 15 121 16 240 := rfl
@[go_sem] theorem tk124 : tab.k 124 = .struct 496 := rfl
@[go_sem] theorem tz124 : tab.z 124 = some (bS (List.replicate 496 0#8)) := rfl
@[go_sem] theorem tf124_0 : tab.f 124 0 = some (0, 256, 120) := rfl
@[go_sem] theorem tf124_1 : tab.f 124 1 = some (256, 240, 122) := rfl
@[go_sem] theorem tk127 : tab.k 127 = .arr 4 5 1 4 := rfl
@[go_sem] theorem tz127 : tab.z 127 = some (bS (List.replicate 4 0#8)) := rfl
@[go_sem] theorem tk128 : tab.k 128 = .arr 60 127 4 240 := rfl
@[go_sem] theorem tz128 : tab.z 128 = some (bS (List.replicate 240 0#8)) := rfl
@[go_sem] theorem tk227 : tab.k 227 = .arr 5 3 1 5 := rfl
@[go_sem] theorem tz227 : tab.z 227 = some (([.i .i64 0, .i .i64 0, .i .i64 0, .i .i64 0, .i .i64 0] : List SV)) := rfl
@[go_sem] theorem tk229 : tab.k 229 = .arr 4 5 1 4 := rfl
@[go_sem] theorem tz229 : tab.z 229 = some (bS (List.replicate 4 0#8)) := rfl
theorem tabOK : TabOK Tryz.prog tab := tabOK_of (by kernel_rfl) (⟨z1, ⟨z2, ⟨z3, ⟨z4, ⟨z5, ⟨z6, ⟨z7, ⟨z8, ⟨z9, ⟨z10, ⟨z11, ⟨z12, ⟨z13, ⟨z14, ⟨z15, ⟨z16, ⟨z17, ⟨z18, ⟨z19, ⟨z20, ⟨z21, ⟨z22, ⟨z23, ⟨z24, ⟨z25, ⟨z26, ⟨z27, ⟨z28, ⟨z29, ⟨z30, ⟨z31, ⟨z32, ⟨z33, ⟨z34, ⟨z35, ⟨z36, ⟨z37, ⟨z38, ⟨z39, ⟨z40, ⟨z41, ⟨z42, ⟨z43, ⟨z44, ⟨z45, ⟨z47, ⟨z48, ⟨z49, ⟨z50, ⟨z51, ⟨z52, ⟨z53, ⟨z55, ⟨z56, ⟨z57, ⟨z59, ⟨z60, ⟨z61, ⟨z62, ⟨z63, ⟨z64, ⟨z66, ⟨z67, ⟨z68, ⟨z69, ⟨z70, ⟨z71, ⟨z72, ⟨z74, ⟨z75, ⟨z76, ⟨z77, ⟨z78, ⟨z79, ⟨z80, ⟨z82, ⟨z83, ⟨z84, ⟨z85, ⟨z86, ⟨z87, ⟨z88, ⟨z89, ⟨z90, ⟨z92, ⟨z94, ⟨z95, ⟨z96, ⟨z97, ⟨z98, ⟨z99, ⟨z101, ⟨z102, ⟨z103, ⟨z104, ⟨z105, ⟨z106, ⟨z107, ⟨z108, ⟨z109, ⟨z111, ⟨z112, ⟨z113, ⟨z114, ⟨z115, ⟨z116, ⟨z118, ⟨z119, ⟨z120, ⟨z121, ⟨z122, ⟨z123, ⟨z124, ⟨z125, ⟨z126, ⟨z127, ⟨z128, ⟨z129, ⟨z130, ⟨z131, ⟨z132, ⟨z133, ⟨z134, ⟨z135, ⟨z136, ⟨z137, ⟨z138, ⟨z139, ⟨z140, ⟨z141, ⟨z142, ⟨z143, ⟨z144, ⟨z145, ⟨z146, ⟨z147, ⟨z148, ⟨z149, ⟨z150, ⟨z151, ⟨z152, ⟨z153, ⟨z154, ⟨z155, ⟨z156, ⟨z157, ⟨z158, ⟨z159, ⟨z160, ⟨z161, ⟨z162, ⟨z163, ⟨z164, ⟨z165, ⟨z166, ⟨z167, ⟨z168, ⟨z169, ⟨z170, ⟨z171, ⟨z172, ⟨z173, ⟨z174, ⟨z175, ⟨z176, ⟨z177, ⟨z178, ⟨z179, ⟨z180, ⟨z181, ⟨z182, ⟨z183, ⟨z184, ⟨z185, ⟨z186, ⟨z187, ⟨z188, ⟨z189, ⟨z190, ⟨z191, ⟨z192, ⟨z193, ⟨z194, ⟨z195, ⟨z196, ⟨z197, ⟨z198, ⟨z199, ⟨z200, ⟨z201, ⟨z202, ⟨z203, ⟨z204, ⟨z205, ⟨z206, ⟨z207, ⟨z208, ⟨z209, ⟨z210, ⟨z211, ⟨z212, ⟨z213, ⟨z214, ⟨z215, ⟨z216, ⟨z217, ⟨z218, ⟨z219, ⟨z220, ⟨z221, ⟨z222, ⟨z223, ⟨z224, ⟨z225, ⟨z226, ⟨z227, ⟨z228, ⟨z229, ⟨z230, ⟨z231, ⟨z232, ⟨z233, ⟨z234, ⟨z235, ⟨z236, ⟨z237, ⟨z238, ⟨z239, ⟨z240, ⟨z241, ⟨z242, ⟨z243, ⟨z244, ⟨z245, ⟨z247, ⟨z248, ⟨z249, ⟨z250, ⟨z251, ⟨z252, ⟨z253, ⟨z254, ⟨z255, ⟨z256, ⟨z257, ⟨z258, ⟨z259, ⟨z260, ⟨z261, ⟨z262, ⟨z263, ⟨z264, ⟨z265, ⟨z266, ⟨z267, ⟨z268, ⟨z269, trivial⟩⟩⟩⟩⟩⟩⟩⟩⟩⟩⟩⟩⟩⟩⟩⟩⟩⟩⟩⟩⟩⟩⟩⟩⟩⟩⟩⟩⟩⟩⟩⟩⟩⟩⟩⟩⟩⟩⟩⟩⟩⟩⟩⟩⟩⟩⟩⟩⟩⟩⟩⟩⟩⟩⟩⟩⟩⟩⟩⟩⟩⟩⟩⟩⟩⟩⟩⟩⟩⟩⟩⟩⟩⟩⟩⟩⟩⟩⟩⟩⟩⟩⟩⟩⟩⟩⟩⟩⟩⟩⟩⟩⟩⟩⟩⟩⟩⟩⟩⟩⟩⟩⟩⟩⟩⟩⟩⟩⟩⟩⟩⟩⟩⟩⟩⟩⟩⟩⟩⟩⟩⟩⟩⟩⟩⟩⟩⟩⟩⟩⟩⟩⟩⟩⟩⟩⟩⟩⟩⟩⟩⟩⟩⟩⟩⟩⟩⟩⟩⟩⟩⟩⟩⟩⟩⟩⟩⟩⟩⟩⟩⟩⟩⟩⟩⟩⟩⟩⟩⟩⟩⟩⟩⟩⟩⟩⟩⟩⟩⟩⟩⟩⟩⟩⟩⟩⟩⟩⟩⟩⟩⟩⟩⟩⟩⟩⟩⟩⟩⟩⟩⟩⟩⟩⟩⟩⟩⟩⟩⟩⟩⟩⟩⟩⟩⟩⟩⟩⟩⟩⟩⟩⟩⟩⟩⟩⟩⟩⟩⟩⟩⟩⟩⟩⟩⟩⟩⟩⟩⟩⟩⟩⟩⟩⟩⟩⟩⟩⟩⟩⟩⟩⟩⟩⟩⟩⟩) (by kernel_rfl) (by kernel_rfl) (by kernel_rfl)
end Go.Proofs.YtdkdbeamimkljaaGreatDoor.Eng
