/- The table of this seat's types, for the engine; its facts by the kernel. -/
import Derived.Test.YtdkdbeamimkljaaLs
import Derived.Test.YtdkdbeamimkljaaProg
namespace Go.Proofs.Ytdkdbeamimkljaa.Eng
open Go Go.RowKit
set_option maxRecDepth 20000
def tab : Tab where
  tk := [.other, .func, .int .i64, .int .i64, .bool, .int .u8, .int .u8, .struct 4, .struct 4, .str, .str, .str, .int .u64, .struct 2, .struct 2, .ptr, .ptr, .ptr, .struct 1, .struct 1, .iface, .int .i32, .int .u64, .struct 4, .struct 4, .slice 5 1 1, .int .i64, .other, .func, .other, .func, .func, .func, .func, .func, .func, .func, .other, .func, .other, .func, .func, .func, .func, .struct 3, .struct 3, .struct 7, .struct 7, .func, .func, .func, .other, .func, .other, .func, .func, .struct 5, .struct 5, .other, .func, .func, .func, .func, .func, .func, .func, .func, .int .u32, .func, .func, .int .u64, .struct 6, .struct 6, .other, .func, .func, .func, .func, .func, .ptr, .func, .func, .func, .other, .func, .func, .func, .func, .func, .other, .func, .func, .func, .func, .func, .func, .func, .func, .struct 3, .struct 3, .func, .ptr, .other, .func, .arr 16 5 1 16, .func, .func, .ptr, .other, .func, .func, .func, .arr 256 5 1 256, .arr 16 5 1 16, .arr 15 113 16 240, .struct 496, .struct 496, .func, .arr 4 5 1 4, .arr 4 5 1 4, .arr 60 119 4 240, .func, .func, .func, .func, .func, .func, .func, .func, .func, .arr 240 5 1 240, .struct 752, .struct 752, .func, .func, .arr 5 3 1 5, .func, .arr 4 5 1 4, .func, .func, .func, .func, .func, .struct 4, .struct 4, .arr 0 16 1 0, .struct 0, .struct 0, .int .u8, .int .u8, .func, .ptr, .int .i32, .int .i32, .struct 11, .struct 11, .other]
  zero := [none, some ([.fnil]), some ([.i .i64 0]), some ([.i .i64 0]), some ([.b false]), some ([.u8 0]), some ([.u8 0]), some ([.i .i64 0, .i .i64 0, .b false, .u8 0]), some ([.i .i64 0, .i .i64 0, .b false, .u8 0]), some ([.str ⟨#[]⟩]), some ([.str ⟨#[]⟩]), some ([.str ⟨#[]⟩]), some ([.u64 0]), some ([.str ⟨#[]⟩, .u64 0]), some ([.str ⟨#[]⟩, .u64 0]), some ([.pn]), some ([.pn]), some ([.pn]), some ([.pn]), some ([.pn]), some ([.inil]), some ([.i .i32 0]), some ([.u64 0]), some ([.i .i64 0, .i .i64 0, .i .i64 0, .u64 0]), some ([.i .i64 0, .i .i64 0, .i .i64 0, .u64 0]), some ([.sn]), some ([.i .i64 0]), none, some ([.fnil]), none, some ([.fnil]), some ([.fnil]), some ([.fnil]), some ([.fnil]), some ([.fnil]), some ([.fnil]), some ([.fnil]), none, some ([.fnil]), none, some ([.fnil]), some ([.fnil]), some ([.fnil]), some ([.fnil]), some ([.i .i64 0, .u64 0, .u64 0]), some ([.i .i64 0, .u64 0, .u64 0]), some ([.i .i64 0, .u64 0, .u64 0, .i .i64 0, .u64 0, .u64 0, .sn]), some ([.i .i64 0, .u64 0, .u64 0, .i .i64 0, .u64 0, .u64 0, .sn]), some ([.fnil]), some ([.fnil]), some ([.fnil]), none, some ([.fnil]), none, some ([.fnil]), some ([.fnil]), some ([.i .i64 0, .i .i64 0, .i .i64 0, .u64 0, .sn]), some ([.i .i64 0, .i .i64 0, .i .i64 0, .u64 0, .sn]), none, some ([.fnil]), some ([.fnil]), some ([.fnil]), some ([.fnil]), some ([.fnil]), some ([.fnil]), some ([.fnil]), some ([.fnil]), some ([.u32 0]), some ([.fnil]), some ([.fnil]), some ([.u64 0]), some ([.i .i64 0, .i .i64 0, .i .i64 0, .u64 0, .sn, .sn]), some ([.i .i64 0, .i .i64 0, .i .i64 0, .u64 0, .sn, .sn]), none, some ([.fnil]), some ([.fnil]), some ([.fnil]), some ([.fnil]), some ([.fnil]), some ([.pn]), some ([.fnil]), some ([.fnil]), some ([.fnil]), none, some ([.fnil]), some ([.fnil]), some ([.fnil]), some ([.fnil]), some ([.fnil]), none, some ([.fnil]), some ([.fnil]), some ([.fnil]), some ([.fnil]), some ([.fnil]), some ([.fnil]), some ([.fnil]), some ([.fnil]), some ([.sn, .i .i64 0, .i .i64 0]), some ([.sn, .i .i64 0, .i .i64 0]), some ([.fnil]), some ([.pn]), none, some ([.fnil]), some (List.replicate 16 (.u8 0)), some ([.fnil]), some ([.fnil]), some ([.pn]), none, some ([.fnil]), some ([.fnil]), some ([.fnil]), some (List.replicate 256 (.u8 0)), some (List.replicate 16 (.u8 0)), some (List.replicate 240 (.u8 0)), some (List.replicate 496 (.u8 0)), some (List.replicate 496 (.u8 0)), some ([.fnil]), some ([.u8 0, .u8 0, .u8 0, .u8 0]), some ([.u8 0, .u8 0, .u8 0, .u8 0]), some (List.replicate 240 (.u8 0)), some ([.fnil]), some ([.fnil]), some ([.fnil]), some ([.fnil]), some ([.fnil]), some ([.fnil]), some ([.fnil]), some ([.fnil]), some ([.fnil]), some (List.replicate 240 (.u8 0)), some (List.replicate 752 (.u8 0)), some (List.replicate 752 (.u8 0)), some ([.fnil]), some ([.fnil]), some ([.i .i64 0, .i .i64 0, .i .i64 0, .i .i64 0, .i .i64 0]), some ([.fnil]), some ([.u8 0, .u8 0, .u8 0, .u8 0]), some ([.fnil]), some ([.fnil]), some ([.fnil]), some ([.fnil]), some ([.fnil]), some ([.pn, .pn, .pn, .str ⟨#[]⟩]), some ([.pn, .pn, .pn, .str ⟨#[]⟩]), some ([]), some ([]), some ([]), some ([.u8 0]), some ([.u8 0]), some ([.fnil]), some ([.pn]), some ([.i .i32 0]), some ([.i .i32 0]), some ([.u64 0, .u64 0, .u32 0, .u8 0, .u8 0, .u8 0, .u8 0, .fnil, .pn, .i .i32 0, .i .i32 0]), some ([.u64 0, .u64 0, .u32 0, .u8 0, .u8 0, .u8 0, .u8 0, .fnil, .pn, .i .i32 0, .i .i32 0]), none]
  fo := [[], [], [], [], [], [], [], [(0, 1, 2), (1, 1, 3), (2, 1, 4), (3, 1, 6)], [(0, 1, 2), (1, 1, 3), (2, 1, 4), (3, 1, 6)], [], [], [], [], [(0, 1, 9), (1, 1, 12)], [(0, 1, 9), (1, 1, 12)], [], [], [], [(0, 1, 17)], [(0, 1, 17)], [], [], [], [(0, 1, 3), (1, 1, 3), (2, 1, 3), (3, 1, 22)], [(0, 1, 3), (1, 1, 3), (2, 1, 3), (3, 1, 22)], [], [], [], [], [], [], [], [], [], [], [], [], [], [], [], [], [], [], [], [(0, 1, 3), (1, 1, 22), (2, 1, 22)], [(0, 1, 3), (1, 1, 22), (2, 1, 22)], [(0, 3, 45), (3, 3, 45), (6, 1, 25)], [(0, 3, 45), (3, 3, 45), (6, 1, 25)], [], [], [], [], [], [], [], [], [(0, 4, 24), (4, 1, 25)], [(0, 4, 24), (4, 1, 25)], [], [], [], [], [], [], [], [], [], [], [], [], [], [(0, 4, 24), (4, 1, 25), (5, 1, 25)], [(0, 4, 24), (4, 1, 25), (5, 1, 25)], [], [], [], [], [], [], [], [], [], [], [], [], [], [], [], [], [], [], [], [], [], [], [], [], [], [(0, 1, 25), (1, 1, 3), (2, 1, 26)], [(0, 1, 25), (1, 1, 3), (2, 1, 26)], [], [], [], [], [], [], [], [], [], [], [], [], [], [], [], [(0, 256, 112), (256, 240, 114)], [(0, 256, 112), (256, 240, 114)], [], [], [], [], [], [], [], [], [], [], [], [], [], [], [(0, 256, 112), (256, 256, 112), (512, 240, 130)], [(0, 256, 112), (256, 256, 112), (512, 240, 130)], [], [], [], [], [], [], [], [], [], [], [(0, 1, 17), (1, 1, 17), (2, 1, 17), (3, 1, 9)], [(0, 1, 17), (1, 1, 17), (2, 1, 17), (3, 1, 9)], [], [], [], [], [], [], [], [], [], [(0, 1, 12), (1, 1, 12), (2, 1, 67), (3, 1, 148), (4, 1, 5), (5, 1, 5), (6, 1, 149), (7, 1, 150), (8, 1, 151), (9, 1, 152), (10, 1, 153)], [(0, 1, 12), (1, 1, 12), (2, 1, 67), (3, 1, 148), (4, 1, 5), (5, 1, 5), (6, 1, 149), (7, 1, 150), (8, 1, 151), (9, 1, 152), (10, 1, 153)], []]
  eqp := [false, false, false, false, false, false, false, true, true, false, false, false, false, true, true, false, false, false, true, true, false, false, false, true, true, false, false, false, false, false, false, false, false, false, false, false, false, false, false, false, false, false, false, false, true, true, true, true, false, false, false, false, false, false, false, false, true, true, false, false, false, false, false, false, false, false, false, false, false, false, false, true, true, false, false, false, false, false, false, false, false, false, false, false, false, false, false, false, false, false, false, false, false, false, false, false, false, false, true, true, false, false, false, false, true, false, false, false, false, false, false, false, true, true, true, true, true, false, true, true, true, false, false, false, false, false, false, false, false, false, true, true, true, false, false, true, false, true, false, false, false, false, false, true, true, true, true, true, false, false, false, false, false, false, true, true, false]
theorem z1 : zeroOf Try.prog 1 = some ([.fnil]) ∧ ([.fnil] : List SV).all SV.one = true ∧ (Try.prog.info? 1).map (·.size) = some ([.fnil] : List SV).length := ⟨by kernel_rfl, by kernel_rfl, by kernel_rfl⟩
theorem z2 : zeroOf Try.prog 2 = some ([.i .i64 0]) ∧ ([.i .i64 0] : List SV).all SV.one = true ∧ (Try.prog.info? 2).map (·.size) = some ([.i .i64 0] : List SV).length := ⟨by kernel_rfl, by kernel_rfl, by kernel_rfl⟩
theorem z3 : zeroOf Try.prog 3 = some ([.i .i64 0]) ∧ ([.i .i64 0] : List SV).all SV.one = true ∧ (Try.prog.info? 3).map (·.size) = some ([.i .i64 0] : List SV).length := ⟨by kernel_rfl, by kernel_rfl, by kernel_rfl⟩
theorem z4 : zeroOf Try.prog 4 = some ([.b false]) ∧ ([.b false] : List SV).all SV.one = true ∧ (Try.prog.info? 4).map (·.size) = some ([.b false] : List SV).length := ⟨by kernel_rfl, by kernel_rfl, by kernel_rfl⟩
theorem z5 : zeroOf Try.prog 5 = some ([.u8 0]) ∧ ([.u8 0] : List SV).all SV.one = true ∧ (Try.prog.info? 5).map (·.size) = some ([.u8 0] : List SV).length := ⟨by kernel_rfl, by kernel_rfl, by kernel_rfl⟩
theorem z6 : zeroOf Try.prog 6 = some ([.u8 0]) ∧ ([.u8 0] : List SV).all SV.one = true ∧ (Try.prog.info? 6).map (·.size) = some ([.u8 0] : List SV).length := ⟨by kernel_rfl, by kernel_rfl, by kernel_rfl⟩
theorem z7 : zeroOf Try.prog 7 = some ([.i .i64 0, .i .i64 0, .b false, .u8 0]) ∧ ([.i .i64 0, .i .i64 0, .b false, .u8 0] : List SV).all SV.one = true ∧ (Try.prog.info? 7).map (·.size) = some ([.i .i64 0, .i .i64 0, .b false, .u8 0] : List SV).length := ⟨by kernel_rfl, by kernel_rfl, by kernel_rfl⟩
theorem z8 : zeroOf Try.prog 8 = some ([.i .i64 0, .i .i64 0, .b false, .u8 0]) ∧ ([.i .i64 0, .i .i64 0, .b false, .u8 0] : List SV).all SV.one = true ∧ (Try.prog.info? 8).map (·.size) = some ([.i .i64 0, .i .i64 0, .b false, .u8 0] : List SV).length := ⟨by kernel_rfl, by kernel_rfl, by kernel_rfl⟩
theorem z9 : zeroOf Try.prog 9 = some ([.str ⟨#[]⟩]) ∧ ([.str ⟨#[]⟩] : List SV).all SV.one = true ∧ (Try.prog.info? 9).map (·.size) = some ([.str ⟨#[]⟩] : List SV).length := ⟨by kernel_rfl, by kernel_rfl, by kernel_rfl⟩
theorem z10 : zeroOf Try.prog 10 = some ([.str ⟨#[]⟩]) ∧ ([.str ⟨#[]⟩] : List SV).all SV.one = true ∧ (Try.prog.info? 10).map (·.size) = some ([.str ⟨#[]⟩] : List SV).length := ⟨by kernel_rfl, by kernel_rfl, by kernel_rfl⟩
theorem z11 : zeroOf Try.prog 11 = some ([.str ⟨#[]⟩]) ∧ ([.str ⟨#[]⟩] : List SV).all SV.one = true ∧ (Try.prog.info? 11).map (·.size) = some ([.str ⟨#[]⟩] : List SV).length := ⟨by kernel_rfl, by kernel_rfl, by kernel_rfl⟩
theorem z12 : zeroOf Try.prog 12 = some ([.u64 0]) ∧ ([.u64 0] : List SV).all SV.one = true ∧ (Try.prog.info? 12).map (·.size) = some ([.u64 0] : List SV).length := ⟨by kernel_rfl, by kernel_rfl, by kernel_rfl⟩
theorem z13 : zeroOf Try.prog 13 = some ([.str ⟨#[]⟩, .u64 0]) ∧ ([.str ⟨#[]⟩, .u64 0] : List SV).all SV.one = true ∧ (Try.prog.info? 13).map (·.size) = some ([.str ⟨#[]⟩, .u64 0] : List SV).length := ⟨by kernel_rfl, by kernel_rfl, by kernel_rfl⟩
theorem z14 : zeroOf Try.prog 14 = some ([.str ⟨#[]⟩, .u64 0]) ∧ ([.str ⟨#[]⟩, .u64 0] : List SV).all SV.one = true ∧ (Try.prog.info? 14).map (·.size) = some ([.str ⟨#[]⟩, .u64 0] : List SV).length := ⟨by kernel_rfl, by kernel_rfl, by kernel_rfl⟩
theorem z15 : zeroOf Try.prog 15 = some ([.pn]) ∧ ([.pn] : List SV).all SV.one = true ∧ (Try.prog.info? 15).map (·.size) = some ([.pn] : List SV).length := ⟨by kernel_rfl, by kernel_rfl, by kernel_rfl⟩
theorem z16 : zeroOf Try.prog 16 = some ([.pn]) ∧ ([.pn] : List SV).all SV.one = true ∧ (Try.prog.info? 16).map (·.size) = some ([.pn] : List SV).length := ⟨by kernel_rfl, by kernel_rfl, by kernel_rfl⟩
theorem z17 : zeroOf Try.prog 17 = some ([.pn]) ∧ ([.pn] : List SV).all SV.one = true ∧ (Try.prog.info? 17).map (·.size) = some ([.pn] : List SV).length := ⟨by kernel_rfl, by kernel_rfl, by kernel_rfl⟩
theorem z18 : zeroOf Try.prog 18 = some ([.pn]) ∧ ([.pn] : List SV).all SV.one = true ∧ (Try.prog.info? 18).map (·.size) = some ([.pn] : List SV).length := ⟨by kernel_rfl, by kernel_rfl, by kernel_rfl⟩
theorem z19 : zeroOf Try.prog 19 = some ([.pn]) ∧ ([.pn] : List SV).all SV.one = true ∧ (Try.prog.info? 19).map (·.size) = some ([.pn] : List SV).length := ⟨by kernel_rfl, by kernel_rfl, by kernel_rfl⟩
theorem z20 : zeroOf Try.prog 20 = some ([.inil]) ∧ ([.inil] : List SV).all SV.one = true ∧ (Try.prog.info? 20).map (·.size) = some ([.inil] : List SV).length := ⟨by kernel_rfl, by kernel_rfl, by kernel_rfl⟩
theorem z21 : zeroOf Try.prog 21 = some ([.i .i32 0]) ∧ ([.i .i32 0] : List SV).all SV.one = true ∧ (Try.prog.info? 21).map (·.size) = some ([.i .i32 0] : List SV).length := ⟨by kernel_rfl, by kernel_rfl, by kernel_rfl⟩
theorem z22 : zeroOf Try.prog 22 = some ([.u64 0]) ∧ ([.u64 0] : List SV).all SV.one = true ∧ (Try.prog.info? 22).map (·.size) = some ([.u64 0] : List SV).length := ⟨by kernel_rfl, by kernel_rfl, by kernel_rfl⟩
theorem z23 : zeroOf Try.prog 23 = some ([.i .i64 0, .i .i64 0, .i .i64 0, .u64 0]) ∧ ([.i .i64 0, .i .i64 0, .i .i64 0, .u64 0] : List SV).all SV.one = true ∧ (Try.prog.info? 23).map (·.size) = some ([.i .i64 0, .i .i64 0, .i .i64 0, .u64 0] : List SV).length := ⟨by kernel_rfl, by kernel_rfl, by kernel_rfl⟩
theorem z24 : zeroOf Try.prog 24 = some ([.i .i64 0, .i .i64 0, .i .i64 0, .u64 0]) ∧ ([.i .i64 0, .i .i64 0, .i .i64 0, .u64 0] : List SV).all SV.one = true ∧ (Try.prog.info? 24).map (·.size) = some ([.i .i64 0, .i .i64 0, .i .i64 0, .u64 0] : List SV).length := ⟨by kernel_rfl, by kernel_rfl, by kernel_rfl⟩
theorem z25 : zeroOf Try.prog 25 = some ([.sn]) ∧ ([.sn] : List SV).all SV.one = true ∧ (Try.prog.info? 25).map (·.size) = some ([.sn] : List SV).length := ⟨by kernel_rfl, by kernel_rfl, by kernel_rfl⟩
theorem z26 : zeroOf Try.prog 26 = some ([.i .i64 0]) ∧ ([.i .i64 0] : List SV).all SV.one = true ∧ (Try.prog.info? 26).map (·.size) = some ([.i .i64 0] : List SV).length := ⟨by kernel_rfl, by kernel_rfl, by kernel_rfl⟩
theorem z28 : zeroOf Try.prog 28 = some ([.fnil]) ∧ ([.fnil] : List SV).all SV.one = true ∧ (Try.prog.info? 28).map (·.size) = some ([.fnil] : List SV).length := ⟨by kernel_rfl, by kernel_rfl, by kernel_rfl⟩
theorem z30 : zeroOf Try.prog 30 = some ([.fnil]) ∧ ([.fnil] : List SV).all SV.one = true ∧ (Try.prog.info? 30).map (·.size) = some ([.fnil] : List SV).length := ⟨by kernel_rfl, by kernel_rfl, by kernel_rfl⟩
theorem z31 : zeroOf Try.prog 31 = some ([.fnil]) ∧ ([.fnil] : List SV).all SV.one = true ∧ (Try.prog.info? 31).map (·.size) = some ([.fnil] : List SV).length := ⟨by kernel_rfl, by kernel_rfl, by kernel_rfl⟩
theorem z32 : zeroOf Try.prog 32 = some ([.fnil]) ∧ ([.fnil] : List SV).all SV.one = true ∧ (Try.prog.info? 32).map (·.size) = some ([.fnil] : List SV).length := ⟨by kernel_rfl, by kernel_rfl, by kernel_rfl⟩
theorem z33 : zeroOf Try.prog 33 = some ([.fnil]) ∧ ([.fnil] : List SV).all SV.one = true ∧ (Try.prog.info? 33).map (·.size) = some ([.fnil] : List SV).length := ⟨by kernel_rfl, by kernel_rfl, by kernel_rfl⟩
theorem z34 : zeroOf Try.prog 34 = some ([.fnil]) ∧ ([.fnil] : List SV).all SV.one = true ∧ (Try.prog.info? 34).map (·.size) = some ([.fnil] : List SV).length := ⟨by kernel_rfl, by kernel_rfl, by kernel_rfl⟩
theorem z35 : zeroOf Try.prog 35 = some ([.fnil]) ∧ ([.fnil] : List SV).all SV.one = true ∧ (Try.prog.info? 35).map (·.size) = some ([.fnil] : List SV).length := ⟨by kernel_rfl, by kernel_rfl, by kernel_rfl⟩
theorem z36 : zeroOf Try.prog 36 = some ([.fnil]) ∧ ([.fnil] : List SV).all SV.one = true ∧ (Try.prog.info? 36).map (·.size) = some ([.fnil] : List SV).length := ⟨by kernel_rfl, by kernel_rfl, by kernel_rfl⟩
theorem z38 : zeroOf Try.prog 38 = some ([.fnil]) ∧ ([.fnil] : List SV).all SV.one = true ∧ (Try.prog.info? 38).map (·.size) = some ([.fnil] : List SV).length := ⟨by kernel_rfl, by kernel_rfl, by kernel_rfl⟩
theorem z40 : zeroOf Try.prog 40 = some ([.fnil]) ∧ ([.fnil] : List SV).all SV.one = true ∧ (Try.prog.info? 40).map (·.size) = some ([.fnil] : List SV).length := ⟨by kernel_rfl, by kernel_rfl, by kernel_rfl⟩
theorem z41 : zeroOf Try.prog 41 = some ([.fnil]) ∧ ([.fnil] : List SV).all SV.one = true ∧ (Try.prog.info? 41).map (·.size) = some ([.fnil] : List SV).length := ⟨by kernel_rfl, by kernel_rfl, by kernel_rfl⟩
theorem z42 : zeroOf Try.prog 42 = some ([.fnil]) ∧ ([.fnil] : List SV).all SV.one = true ∧ (Try.prog.info? 42).map (·.size) = some ([.fnil] : List SV).length := ⟨by kernel_rfl, by kernel_rfl, by kernel_rfl⟩
theorem z43 : zeroOf Try.prog 43 = some ([.fnil]) ∧ ([.fnil] : List SV).all SV.one = true ∧ (Try.prog.info? 43).map (·.size) = some ([.fnil] : List SV).length := ⟨by kernel_rfl, by kernel_rfl, by kernel_rfl⟩
theorem z44 : zeroOf Try.prog 44 = some ([.i .i64 0, .u64 0, .u64 0]) ∧ ([.i .i64 0, .u64 0, .u64 0] : List SV).all SV.one = true ∧ (Try.prog.info? 44).map (·.size) = some ([.i .i64 0, .u64 0, .u64 0] : List SV).length := ⟨by kernel_rfl, by kernel_rfl, by kernel_rfl⟩
theorem z45 : zeroOf Try.prog 45 = some ([.i .i64 0, .u64 0, .u64 0]) ∧ ([.i .i64 0, .u64 0, .u64 0] : List SV).all SV.one = true ∧ (Try.prog.info? 45).map (·.size) = some ([.i .i64 0, .u64 0, .u64 0] : List SV).length := ⟨by kernel_rfl, by kernel_rfl, by kernel_rfl⟩
theorem z46 : zeroOf Try.prog 46 = some ([.i .i64 0, .u64 0, .u64 0, .i .i64 0, .u64 0, .u64 0, .sn]) ∧ ([.i .i64 0, .u64 0, .u64 0, .i .i64 0, .u64 0, .u64 0, .sn] : List SV).all SV.one = true ∧ (Try.prog.info? 46).map (·.size) = some ([.i .i64 0, .u64 0, .u64 0, .i .i64 0, .u64 0, .u64 0, .sn] : List SV).length := ⟨by kernel_rfl, by kernel_rfl, by kernel_rfl⟩
theorem z47 : zeroOf Try.prog 47 = some ([.i .i64 0, .u64 0, .u64 0, .i .i64 0, .u64 0, .u64 0, .sn]) ∧ ([.i .i64 0, .u64 0, .u64 0, .i .i64 0, .u64 0, .u64 0, .sn] : List SV).all SV.one = true ∧ (Try.prog.info? 47).map (·.size) = some ([.i .i64 0, .u64 0, .u64 0, .i .i64 0, .u64 0, .u64 0, .sn] : List SV).length := ⟨by kernel_rfl, by kernel_rfl, by kernel_rfl⟩
theorem z48 : zeroOf Try.prog 48 = some ([.fnil]) ∧ ([.fnil] : List SV).all SV.one = true ∧ (Try.prog.info? 48).map (·.size) = some ([.fnil] : List SV).length := ⟨by kernel_rfl, by kernel_rfl, by kernel_rfl⟩
theorem z49 : zeroOf Try.prog 49 = some ([.fnil]) ∧ ([.fnil] : List SV).all SV.one = true ∧ (Try.prog.info? 49).map (·.size) = some ([.fnil] : List SV).length := ⟨by kernel_rfl, by kernel_rfl, by kernel_rfl⟩
theorem z50 : zeroOf Try.prog 50 = some ([.fnil]) ∧ ([.fnil] : List SV).all SV.one = true ∧ (Try.prog.info? 50).map (·.size) = some ([.fnil] : List SV).length := ⟨by kernel_rfl, by kernel_rfl, by kernel_rfl⟩
theorem z52 : zeroOf Try.prog 52 = some ([.fnil]) ∧ ([.fnil] : List SV).all SV.one = true ∧ (Try.prog.info? 52).map (·.size) = some ([.fnil] : List SV).length := ⟨by kernel_rfl, by kernel_rfl, by kernel_rfl⟩
theorem z54 : zeroOf Try.prog 54 = some ([.fnil]) ∧ ([.fnil] : List SV).all SV.one = true ∧ (Try.prog.info? 54).map (·.size) = some ([.fnil] : List SV).length := ⟨by kernel_rfl, by kernel_rfl, by kernel_rfl⟩
theorem z55 : zeroOf Try.prog 55 = some ([.fnil]) ∧ ([.fnil] : List SV).all SV.one = true ∧ (Try.prog.info? 55).map (·.size) = some ([.fnil] : List SV).length := ⟨by kernel_rfl, by kernel_rfl, by kernel_rfl⟩
theorem z56 : zeroOf Try.prog 56 = some ([.i .i64 0, .i .i64 0, .i .i64 0, .u64 0, .sn]) ∧ ([.i .i64 0, .i .i64 0, .i .i64 0, .u64 0, .sn] : List SV).all SV.one = true ∧ (Try.prog.info? 56).map (·.size) = some ([.i .i64 0, .i .i64 0, .i .i64 0, .u64 0, .sn] : List SV).length := ⟨by kernel_rfl, by kernel_rfl, by kernel_rfl⟩
theorem z57 : zeroOf Try.prog 57 = some ([.i .i64 0, .i .i64 0, .i .i64 0, .u64 0, .sn]) ∧ ([.i .i64 0, .i .i64 0, .i .i64 0, .u64 0, .sn] : List SV).all SV.one = true ∧ (Try.prog.info? 57).map (·.size) = some ([.i .i64 0, .i .i64 0, .i .i64 0, .u64 0, .sn] : List SV).length := ⟨by kernel_rfl, by kernel_rfl, by kernel_rfl⟩
theorem z59 : zeroOf Try.prog 59 = some ([.fnil]) ∧ ([.fnil] : List SV).all SV.one = true ∧ (Try.prog.info? 59).map (·.size) = some ([.fnil] : List SV).length := ⟨by kernel_rfl, by kernel_rfl, by kernel_rfl⟩
theorem z60 : zeroOf Try.prog 60 = some ([.fnil]) ∧ ([.fnil] : List SV).all SV.one = true ∧ (Try.prog.info? 60).map (·.size) = some ([.fnil] : List SV).length := ⟨by kernel_rfl, by kernel_rfl, by kernel_rfl⟩
theorem z61 : zeroOf Try.prog 61 = some ([.fnil]) ∧ ([.fnil] : List SV).all SV.one = true ∧ (Try.prog.info? 61).map (·.size) = some ([.fnil] : List SV).length := ⟨by kernel_rfl, by kernel_rfl, by kernel_rfl⟩
theorem z62 : zeroOf Try.prog 62 = some ([.fnil]) ∧ ([.fnil] : List SV).all SV.one = true ∧ (Try.prog.info? 62).map (·.size) = some ([.fnil] : List SV).length := ⟨by kernel_rfl, by kernel_rfl, by kernel_rfl⟩
theorem z63 : zeroOf Try.prog 63 = some ([.fnil]) ∧ ([.fnil] : List SV).all SV.one = true ∧ (Try.prog.info? 63).map (·.size) = some ([.fnil] : List SV).length := ⟨by kernel_rfl, by kernel_rfl, by kernel_rfl⟩
theorem z64 : zeroOf Try.prog 64 = some ([.fnil]) ∧ ([.fnil] : List SV).all SV.one = true ∧ (Try.prog.info? 64).map (·.size) = some ([.fnil] : List SV).length := ⟨by kernel_rfl, by kernel_rfl, by kernel_rfl⟩
theorem z65 : zeroOf Try.prog 65 = some ([.fnil]) ∧ ([.fnil] : List SV).all SV.one = true ∧ (Try.prog.info? 65).map (·.size) = some ([.fnil] : List SV).length := ⟨by kernel_rfl, by kernel_rfl, by kernel_rfl⟩
theorem z66 : zeroOf Try.prog 66 = some ([.fnil]) ∧ ([.fnil] : List SV).all SV.one = true ∧ (Try.prog.info? 66).map (·.size) = some ([.fnil] : List SV).length := ⟨by kernel_rfl, by kernel_rfl, by kernel_rfl⟩
theorem z67 : zeroOf Try.prog 67 = some ([.u32 0]) ∧ ([.u32 0] : List SV).all SV.one = true ∧ (Try.prog.info? 67).map (·.size) = some ([.u32 0] : List SV).length := ⟨by kernel_rfl, by kernel_rfl, by kernel_rfl⟩
theorem z68 : zeroOf Try.prog 68 = some ([.fnil]) ∧ ([.fnil] : List SV).all SV.one = true ∧ (Try.prog.info? 68).map (·.size) = some ([.fnil] : List SV).length := ⟨by kernel_rfl, by kernel_rfl, by kernel_rfl⟩
theorem z69 : zeroOf Try.prog 69 = some ([.fnil]) ∧ ([.fnil] : List SV).all SV.one = true ∧ (Try.prog.info? 69).map (·.size) = some ([.fnil] : List SV).length := ⟨by kernel_rfl, by kernel_rfl, by kernel_rfl⟩
theorem z70 : zeroOf Try.prog 70 = some ([.u64 0]) ∧ ([.u64 0] : List SV).all SV.one = true ∧ (Try.prog.info? 70).map (·.size) = some ([.u64 0] : List SV).length := ⟨by kernel_rfl, by kernel_rfl, by kernel_rfl⟩
theorem z71 : zeroOf Try.prog 71 = some ([.i .i64 0, .i .i64 0, .i .i64 0, .u64 0, .sn, .sn]) ∧ ([.i .i64 0, .i .i64 0, .i .i64 0, .u64 0, .sn, .sn] : List SV).all SV.one = true ∧ (Try.prog.info? 71).map (·.size) = some ([.i .i64 0, .i .i64 0, .i .i64 0, .u64 0, .sn, .sn] : List SV).length := ⟨by kernel_rfl, by kernel_rfl, by kernel_rfl⟩
theorem z72 : zeroOf Try.prog 72 = some ([.i .i64 0, .i .i64 0, .i .i64 0, .u64 0, .sn, .sn]) ∧ ([.i .i64 0, .i .i64 0, .i .i64 0, .u64 0, .sn, .sn] : List SV).all SV.one = true ∧ (Try.prog.info? 72).map (·.size) = some ([.i .i64 0, .i .i64 0, .i .i64 0, .u64 0, .sn, .sn] : List SV).length := ⟨by kernel_rfl, by kernel_rfl, by kernel_rfl⟩
theorem z74 : zeroOf Try.prog 74 = some ([.fnil]) ∧ ([.fnil] : List SV).all SV.one = true ∧ (Try.prog.info? 74).map (·.size) = some ([.fnil] : List SV).length := ⟨by kernel_rfl, by kernel_rfl, by kernel_rfl⟩
theorem z75 : zeroOf Try.prog 75 = some ([.fnil]) ∧ ([.fnil] : List SV).all SV.one = true ∧ (Try.prog.info? 75).map (·.size) = some ([.fnil] : List SV).length := ⟨by kernel_rfl, by kernel_rfl, by kernel_rfl⟩
theorem z76 : zeroOf Try.prog 76 = some ([.fnil]) ∧ ([.fnil] : List SV).all SV.one = true ∧ (Try.prog.info? 76).map (·.size) = some ([.fnil] : List SV).length := ⟨by kernel_rfl, by kernel_rfl, by kernel_rfl⟩
theorem z77 : zeroOf Try.prog 77 = some ([.fnil]) ∧ ([.fnil] : List SV).all SV.one = true ∧ (Try.prog.info? 77).map (·.size) = some ([.fnil] : List SV).length := ⟨by kernel_rfl, by kernel_rfl, by kernel_rfl⟩
theorem z78 : zeroOf Try.prog 78 = some ([.fnil]) ∧ ([.fnil] : List SV).all SV.one = true ∧ (Try.prog.info? 78).map (·.size) = some ([.fnil] : List SV).length := ⟨by kernel_rfl, by kernel_rfl, by kernel_rfl⟩
theorem z79 : zeroOf Try.prog 79 = some ([.pn]) ∧ ([.pn] : List SV).all SV.one = true ∧ (Try.prog.info? 79).map (·.size) = some ([.pn] : List SV).length := ⟨by kernel_rfl, by kernel_rfl, by kernel_rfl⟩
theorem z80 : zeroOf Try.prog 80 = some ([.fnil]) ∧ ([.fnil] : List SV).all SV.one = true ∧ (Try.prog.info? 80).map (·.size) = some ([.fnil] : List SV).length := ⟨by kernel_rfl, by kernel_rfl, by kernel_rfl⟩
theorem z81 : zeroOf Try.prog 81 = some ([.fnil]) ∧ ([.fnil] : List SV).all SV.one = true ∧ (Try.prog.info? 81).map (·.size) = some ([.fnil] : List SV).length := ⟨by kernel_rfl, by kernel_rfl, by kernel_rfl⟩
theorem z82 : zeroOf Try.prog 82 = some ([.fnil]) ∧ ([.fnil] : List SV).all SV.one = true ∧ (Try.prog.info? 82).map (·.size) = some ([.fnil] : List SV).length := ⟨by kernel_rfl, by kernel_rfl, by kernel_rfl⟩
theorem z84 : zeroOf Try.prog 84 = some ([.fnil]) ∧ ([.fnil] : List SV).all SV.one = true ∧ (Try.prog.info? 84).map (·.size) = some ([.fnil] : List SV).length := ⟨by kernel_rfl, by kernel_rfl, by kernel_rfl⟩
theorem z85 : zeroOf Try.prog 85 = some ([.fnil]) ∧ ([.fnil] : List SV).all SV.one = true ∧ (Try.prog.info? 85).map (·.size) = some ([.fnil] : List SV).length := ⟨by kernel_rfl, by kernel_rfl, by kernel_rfl⟩
theorem z86 : zeroOf Try.prog 86 = some ([.fnil]) ∧ ([.fnil] : List SV).all SV.one = true ∧ (Try.prog.info? 86).map (·.size) = some ([.fnil] : List SV).length := ⟨by kernel_rfl, by kernel_rfl, by kernel_rfl⟩
theorem z87 : zeroOf Try.prog 87 = some ([.fnil]) ∧ ([.fnil] : List SV).all SV.one = true ∧ (Try.prog.info? 87).map (·.size) = some ([.fnil] : List SV).length := ⟨by kernel_rfl, by kernel_rfl, by kernel_rfl⟩
theorem z88 : zeroOf Try.prog 88 = some ([.fnil]) ∧ ([.fnil] : List SV).all SV.one = true ∧ (Try.prog.info? 88).map (·.size) = some ([.fnil] : List SV).length := ⟨by kernel_rfl, by kernel_rfl, by kernel_rfl⟩
theorem z90 : zeroOf Try.prog 90 = some ([.fnil]) ∧ ([.fnil] : List SV).all SV.one = true ∧ (Try.prog.info? 90).map (·.size) = some ([.fnil] : List SV).length := ⟨by kernel_rfl, by kernel_rfl, by kernel_rfl⟩
theorem z91 : zeroOf Try.prog 91 = some ([.fnil]) ∧ ([.fnil] : List SV).all SV.one = true ∧ (Try.prog.info? 91).map (·.size) = some ([.fnil] : List SV).length := ⟨by kernel_rfl, by kernel_rfl, by kernel_rfl⟩
theorem z92 : zeroOf Try.prog 92 = some ([.fnil]) ∧ ([.fnil] : List SV).all SV.one = true ∧ (Try.prog.info? 92).map (·.size) = some ([.fnil] : List SV).length := ⟨by kernel_rfl, by kernel_rfl, by kernel_rfl⟩
theorem z93 : zeroOf Try.prog 93 = some ([.fnil]) ∧ ([.fnil] : List SV).all SV.one = true ∧ (Try.prog.info? 93).map (·.size) = some ([.fnil] : List SV).length := ⟨by kernel_rfl, by kernel_rfl, by kernel_rfl⟩
theorem z94 : zeroOf Try.prog 94 = some ([.fnil]) ∧ ([.fnil] : List SV).all SV.one = true ∧ (Try.prog.info? 94).map (·.size) = some ([.fnil] : List SV).length := ⟨by kernel_rfl, by kernel_rfl, by kernel_rfl⟩
theorem z95 : zeroOf Try.prog 95 = some ([.fnil]) ∧ ([.fnil] : List SV).all SV.one = true ∧ (Try.prog.info? 95).map (·.size) = some ([.fnil] : List SV).length := ⟨by kernel_rfl, by kernel_rfl, by kernel_rfl⟩
theorem z96 : zeroOf Try.prog 96 = some ([.fnil]) ∧ ([.fnil] : List SV).all SV.one = true ∧ (Try.prog.info? 96).map (·.size) = some ([.fnil] : List SV).length := ⟨by kernel_rfl, by kernel_rfl, by kernel_rfl⟩
theorem z97 : zeroOf Try.prog 97 = some ([.fnil]) ∧ ([.fnil] : List SV).all SV.one = true ∧ (Try.prog.info? 97).map (·.size) = some ([.fnil] : List SV).length := ⟨by kernel_rfl, by kernel_rfl, by kernel_rfl⟩
theorem z98 : zeroOf Try.prog 98 = some ([.sn, .i .i64 0, .i .i64 0]) ∧ ([.sn, .i .i64 0, .i .i64 0] : List SV).all SV.one = true ∧ (Try.prog.info? 98).map (·.size) = some ([.sn, .i .i64 0, .i .i64 0] : List SV).length := ⟨by kernel_rfl, by kernel_rfl, by kernel_rfl⟩
theorem z99 : zeroOf Try.prog 99 = some ([.sn, .i .i64 0, .i .i64 0]) ∧ ([.sn, .i .i64 0, .i .i64 0] : List SV).all SV.one = true ∧ (Try.prog.info? 99).map (·.size) = some ([.sn, .i .i64 0, .i .i64 0] : List SV).length := ⟨by kernel_rfl, by kernel_rfl, by kernel_rfl⟩
theorem z100 : zeroOf Try.prog 100 = some ([.fnil]) ∧ ([.fnil] : List SV).all SV.one = true ∧ (Try.prog.info? 100).map (·.size) = some ([.fnil] : List SV).length := ⟨by kernel_rfl, by kernel_rfl, by kernel_rfl⟩
theorem z101 : zeroOf Try.prog 101 = some ([.pn]) ∧ ([.pn] : List SV).all SV.one = true ∧ (Try.prog.info? 101).map (·.size) = some ([.pn] : List SV).length := ⟨by kernel_rfl, by kernel_rfl, by kernel_rfl⟩
theorem z103 : zeroOf Try.prog 103 = some ([.fnil]) ∧ ([.fnil] : List SV).all SV.one = true ∧ (Try.prog.info? 103).map (·.size) = some ([.fnil] : List SV).length := ⟨by kernel_rfl, by kernel_rfl, by kernel_rfl⟩
theorem z104 : zeroOf Try.prog 104 = some (List.replicate 16 (.u8 0)) ∧ (List.replicate 16 (.u8 0) : List SV).all SV.one = true ∧ (Try.prog.info? 104).map (·.size) = some (List.replicate 16 (.u8 0) : List SV).length := ⟨by kernel_rfl, by kernel_rfl, by kernel_rfl⟩
theorem z105 : zeroOf Try.prog 105 = some ([.fnil]) ∧ ([.fnil] : List SV).all SV.one = true ∧ (Try.prog.info? 105).map (·.size) = some ([.fnil] : List SV).length := ⟨by kernel_rfl, by kernel_rfl, by kernel_rfl⟩
theorem z106 : zeroOf Try.prog 106 = some ([.fnil]) ∧ ([.fnil] : List SV).all SV.one = true ∧ (Try.prog.info? 106).map (·.size) = some ([.fnil] : List SV).length := ⟨by kernel_rfl, by kernel_rfl, by kernel_rfl⟩
theorem z107 : zeroOf Try.prog 107 = some ([.pn]) ∧ ([.pn] : List SV).all SV.one = true ∧ (Try.prog.info? 107).map (·.size) = some ([.pn] : List SV).length := ⟨by kernel_rfl, by kernel_rfl, by kernel_rfl⟩
theorem z109 : zeroOf Try.prog 109 = some ([.fnil]) ∧ ([.fnil] : List SV).all SV.one = true ∧ (Try.prog.info? 109).map (·.size) = some ([.fnil] : List SV).length := ⟨by kernel_rfl, by kernel_rfl, by kernel_rfl⟩
theorem z110 : zeroOf Try.prog 110 = some ([.fnil]) ∧ ([.fnil] : List SV).all SV.one = true ∧ (Try.prog.info? 110).map (·.size) = some ([.fnil] : List SV).length := ⟨by kernel_rfl, by kernel_rfl, by kernel_rfl⟩
theorem z111 : zeroOf Try.prog 111 = some ([.fnil]) ∧ ([.fnil] : List SV).all SV.one = true ∧ (Try.prog.info? 111).map (·.size) = some ([.fnil] : List SV).length := ⟨by kernel_rfl, by kernel_rfl, by kernel_rfl⟩
theorem z112 : zeroOf Try.prog 112 = some (List.replicate 256 (.u8 0)) ∧ (List.replicate 256 (.u8 0) : List SV).all SV.one = true ∧ (Try.prog.info? 112).map (·.size) = some (List.replicate 256 (.u8 0) : List SV).length := ⟨by kernel_rfl, by kernel_rfl, by kernel_rfl⟩
theorem z113 : zeroOf Try.prog 113 = some (List.replicate 16 (.u8 0)) ∧ (List.replicate 16 (.u8 0) : List SV).all SV.one = true ∧ (Try.prog.info? 113).map (·.size) = some (List.replicate 16 (.u8 0) : List SV).length := ⟨by kernel_rfl, by kernel_rfl, by kernel_rfl⟩
theorem z114 : zeroOf Try.prog 114 = some (List.replicate 240 (.u8 0)) ∧ (List.replicate 240 (.u8 0) : List SV).all SV.one = true ∧ (Try.prog.info? 114).map (·.size) = some (List.replicate 240 (.u8 0) : List SV).length := ⟨by kernel_rfl, by kernel_rfl, by kernel_rfl⟩
theorem z115 : zeroOf Try.prog 115 = some (List.replicate 496 (.u8 0)) ∧ (List.replicate 496 (.u8 0) : List SV).all SV.one = true ∧ (Try.prog.info? 115).map (·.size) = some (List.replicate 496 (.u8 0) : List SV).length := ⟨by kernel_rfl, by kernel_rfl, by kernel_rfl⟩
theorem z116 : zeroOf Try.prog 116 = some (List.replicate 496 (.u8 0)) ∧ (List.replicate 496 (.u8 0) : List SV).all SV.one = true ∧ (Try.prog.info? 116).map (·.size) = some (List.replicate 496 (.u8 0) : List SV).length := ⟨by kernel_rfl, by kernel_rfl, by kernel_rfl⟩
theorem z117 : zeroOf Try.prog 117 = some ([.fnil]) ∧ ([.fnil] : List SV).all SV.one = true ∧ (Try.prog.info? 117).map (·.size) = some ([.fnil] : List SV).length := ⟨by kernel_rfl, by kernel_rfl, by kernel_rfl⟩
theorem z118 : zeroOf Try.prog 118 = some ([.u8 0, .u8 0, .u8 0, .u8 0]) ∧ ([.u8 0, .u8 0, .u8 0, .u8 0] : List SV).all SV.one = true ∧ (Try.prog.info? 118).map (·.size) = some ([.u8 0, .u8 0, .u8 0, .u8 0] : List SV).length := ⟨by kernel_rfl, by kernel_rfl, by kernel_rfl⟩
theorem z119 : zeroOf Try.prog 119 = some ([.u8 0, .u8 0, .u8 0, .u8 0]) ∧ ([.u8 0, .u8 0, .u8 0, .u8 0] : List SV).all SV.one = true ∧ (Try.prog.info? 119).map (·.size) = some ([.u8 0, .u8 0, .u8 0, .u8 0] : List SV).length := ⟨by kernel_rfl, by kernel_rfl, by kernel_rfl⟩
theorem z120 : zeroOf Try.prog 120 = some (List.replicate 240 (.u8 0)) ∧ (List.replicate 240 (.u8 0) : List SV).all SV.one = true ∧ (Try.prog.info? 120).map (·.size) = some (List.replicate 240 (.u8 0) : List SV).length := ⟨by kernel_rfl, by kernel_rfl, by kernel_rfl⟩
theorem z121 : zeroOf Try.prog 121 = some ([.fnil]) ∧ ([.fnil] : List SV).all SV.one = true ∧ (Try.prog.info? 121).map (·.size) = some ([.fnil] : List SV).length := ⟨by kernel_rfl, by kernel_rfl, by kernel_rfl⟩
theorem z122 : zeroOf Try.prog 122 = some ([.fnil]) ∧ ([.fnil] : List SV).all SV.one = true ∧ (Try.prog.info? 122).map (·.size) = some ([.fnil] : List SV).length := ⟨by kernel_rfl, by kernel_rfl, by kernel_rfl⟩
theorem z123 : zeroOf Try.prog 123 = some ([.fnil]) ∧ ([.fnil] : List SV).all SV.one = true ∧ (Try.prog.info? 123).map (·.size) = some ([.fnil] : List SV).length := ⟨by kernel_rfl, by kernel_rfl, by kernel_rfl⟩
theorem z124 : zeroOf Try.prog 124 = some ([.fnil]) ∧ ([.fnil] : List SV).all SV.one = true ∧ (Try.prog.info? 124).map (·.size) = some ([.fnil] : List SV).length := ⟨by kernel_rfl, by kernel_rfl, by kernel_rfl⟩
theorem z125 : zeroOf Try.prog 125 = some ([.fnil]) ∧ ([.fnil] : List SV).all SV.one = true ∧ (Try.prog.info? 125).map (·.size) = some ([.fnil] : List SV).length := ⟨by kernel_rfl, by kernel_rfl, by kernel_rfl⟩
theorem z126 : zeroOf Try.prog 126 = some ([.fnil]) ∧ ([.fnil] : List SV).all SV.one = true ∧ (Try.prog.info? 126).map (·.size) = some ([.fnil] : List SV).length := ⟨by kernel_rfl, by kernel_rfl, by kernel_rfl⟩
theorem z127 : zeroOf Try.prog 127 = some ([.fnil]) ∧ ([.fnil] : List SV).all SV.one = true ∧ (Try.prog.info? 127).map (·.size) = some ([.fnil] : List SV).length := ⟨by kernel_rfl, by kernel_rfl, by kernel_rfl⟩
theorem z128 : zeroOf Try.prog 128 = some ([.fnil]) ∧ ([.fnil] : List SV).all SV.one = true ∧ (Try.prog.info? 128).map (·.size) = some ([.fnil] : List SV).length := ⟨by kernel_rfl, by kernel_rfl, by kernel_rfl⟩
theorem z129 : zeroOf Try.prog 129 = some ([.fnil]) ∧ ([.fnil] : List SV).all SV.one = true ∧ (Try.prog.info? 129).map (·.size) = some ([.fnil] : List SV).length := ⟨by kernel_rfl, by kernel_rfl, by kernel_rfl⟩
theorem z130 : zeroOf Try.prog 130 = some (List.replicate 240 (.u8 0)) ∧ (List.replicate 240 (.u8 0) : List SV).all SV.one = true ∧ (Try.prog.info? 130).map (·.size) = some (List.replicate 240 (.u8 0) : List SV).length := ⟨by kernel_rfl, by kernel_rfl, by kernel_rfl⟩
theorem z131 : zeroOf Try.prog 131 = some (List.replicate 752 (.u8 0)) ∧ (List.replicate 752 (.u8 0) : List SV).all SV.one = true ∧ (Try.prog.info? 131).map (·.size) = some (List.replicate 752 (.u8 0) : List SV).length := ⟨by kernel_rfl, by kernel_rfl, by kernel_rfl⟩
theorem z132 : zeroOf Try.prog 132 = some (List.replicate 752 (.u8 0)) ∧ (List.replicate 752 (.u8 0) : List SV).all SV.one = true ∧ (Try.prog.info? 132).map (·.size) = some (List.replicate 752 (.u8 0) : List SV).length := ⟨by kernel_rfl, by kernel_rfl, by kernel_rfl⟩
theorem z133 : zeroOf Try.prog 133 = some ([.fnil]) ∧ ([.fnil] : List SV).all SV.one = true ∧ (Try.prog.info? 133).map (·.size) = some ([.fnil] : List SV).length := ⟨by kernel_rfl, by kernel_rfl, by kernel_rfl⟩
theorem z134 : zeroOf Try.prog 134 = some ([.fnil]) ∧ ([.fnil] : List SV).all SV.one = true ∧ (Try.prog.info? 134).map (·.size) = some ([.fnil] : List SV).length := ⟨by kernel_rfl, by kernel_rfl, by kernel_rfl⟩
theorem z135 : zeroOf Try.prog 135 = some ([.i .i64 0, .i .i64 0, .i .i64 0, .i .i64 0, .i .i64 0]) ∧ ([.i .i64 0, .i .i64 0, .i .i64 0, .i .i64 0, .i .i64 0] : List SV).all SV.one = true ∧ (Try.prog.info? 135).map (·.size) = some ([.i .i64 0, .i .i64 0, .i .i64 0, .i .i64 0, .i .i64 0] : List SV).length := ⟨by kernel_rfl, by kernel_rfl, by kernel_rfl⟩
theorem z136 : zeroOf Try.prog 136 = some ([.fnil]) ∧ ([.fnil] : List SV).all SV.one = true ∧ (Try.prog.info? 136).map (·.size) = some ([.fnil] : List SV).length := ⟨by kernel_rfl, by kernel_rfl, by kernel_rfl⟩
theorem z137 : zeroOf Try.prog 137 = some ([.u8 0, .u8 0, .u8 0, .u8 0]) ∧ ([.u8 0, .u8 0, .u8 0, .u8 0] : List SV).all SV.one = true ∧ (Try.prog.info? 137).map (·.size) = some ([.u8 0, .u8 0, .u8 0, .u8 0] : List SV).length := ⟨by kernel_rfl, by kernel_rfl, by kernel_rfl⟩
theorem z138 : zeroOf Try.prog 138 = some ([.fnil]) ∧ ([.fnil] : List SV).all SV.one = true ∧ (Try.prog.info? 138).map (·.size) = some ([.fnil] : List SV).length := ⟨by kernel_rfl, by kernel_rfl, by kernel_rfl⟩
theorem z139 : zeroOf Try.prog 139 = some ([.fnil]) ∧ ([.fnil] : List SV).all SV.one = true ∧ (Try.prog.info? 139).map (·.size) = some ([.fnil] : List SV).length := ⟨by kernel_rfl, by kernel_rfl, by kernel_rfl⟩
theorem z140 : zeroOf Try.prog 140 = some ([.fnil]) ∧ ([.fnil] : List SV).all SV.one = true ∧ (Try.prog.info? 140).map (·.size) = some ([.fnil] : List SV).length := ⟨by kernel_rfl, by kernel_rfl, by kernel_rfl⟩
theorem z141 : zeroOf Try.prog 141 = some ([.fnil]) ∧ ([.fnil] : List SV).all SV.one = true ∧ (Try.prog.info? 141).map (·.size) = some ([.fnil] : List SV).length := ⟨by kernel_rfl, by kernel_rfl, by kernel_rfl⟩
theorem z142 : zeroOf Try.prog 142 = some ([.fnil]) ∧ ([.fnil] : List SV).all SV.one = true ∧ (Try.prog.info? 142).map (·.size) = some ([.fnil] : List SV).length := ⟨by kernel_rfl, by kernel_rfl, by kernel_rfl⟩
theorem z143 : zeroOf Try.prog 143 = some ([.pn, .pn, .pn, .str ⟨#[]⟩]) ∧ ([.pn, .pn, .pn, .str ⟨#[]⟩] : List SV).all SV.one = true ∧ (Try.prog.info? 143).map (·.size) = some ([.pn, .pn, .pn, .str ⟨#[]⟩] : List SV).length := ⟨by kernel_rfl, by kernel_rfl, by kernel_rfl⟩
theorem z144 : zeroOf Try.prog 144 = some ([.pn, .pn, .pn, .str ⟨#[]⟩]) ∧ ([.pn, .pn, .pn, .str ⟨#[]⟩] : List SV).all SV.one = true ∧ (Try.prog.info? 144).map (·.size) = some ([.pn, .pn, .pn, .str ⟨#[]⟩] : List SV).length := ⟨by kernel_rfl, by kernel_rfl, by kernel_rfl⟩
theorem z145 : zeroOf Try.prog 145 = some ([]) ∧ ([] : List SV).all SV.one = true ∧ (Try.prog.info? 145).map (·.size) = some ([] : List SV).length := ⟨by kernel_rfl, by kernel_rfl, by kernel_rfl⟩
theorem z146 : zeroOf Try.prog 146 = some ([]) ∧ ([] : List SV).all SV.one = true ∧ (Try.prog.info? 146).map (·.size) = some ([] : List SV).length := ⟨by kernel_rfl, by kernel_rfl, by kernel_rfl⟩
theorem z147 : zeroOf Try.prog 147 = some ([]) ∧ ([] : List SV).all SV.one = true ∧ (Try.prog.info? 147).map (·.size) = some ([] : List SV).length := ⟨by kernel_rfl, by kernel_rfl, by kernel_rfl⟩
theorem z148 : zeroOf Try.prog 148 = some ([.u8 0]) ∧ ([.u8 0] : List SV).all SV.one = true ∧ (Try.prog.info? 148).map (·.size) = some ([.u8 0] : List SV).length := ⟨by kernel_rfl, by kernel_rfl, by kernel_rfl⟩
theorem z149 : zeroOf Try.prog 149 = some ([.u8 0]) ∧ ([.u8 0] : List SV).all SV.one = true ∧ (Try.prog.info? 149).map (·.size) = some ([.u8 0] : List SV).length := ⟨by kernel_rfl, by kernel_rfl, by kernel_rfl⟩
theorem z150 : zeroOf Try.prog 150 = some ([.fnil]) ∧ ([.fnil] : List SV).all SV.one = true ∧ (Try.prog.info? 150).map (·.size) = some ([.fnil] : List SV).length := ⟨by kernel_rfl, by kernel_rfl, by kernel_rfl⟩
theorem z151 : zeroOf Try.prog 151 = some ([.pn]) ∧ ([.pn] : List SV).all SV.one = true ∧ (Try.prog.info? 151).map (·.size) = some ([.pn] : List SV).length := ⟨by kernel_rfl, by kernel_rfl, by kernel_rfl⟩
theorem z152 : zeroOf Try.prog 152 = some ([.i .i32 0]) ∧ ([.i .i32 0] : List SV).all SV.one = true ∧ (Try.prog.info? 152).map (·.size) = some ([.i .i32 0] : List SV).length := ⟨by kernel_rfl, by kernel_rfl, by kernel_rfl⟩
theorem z153 : zeroOf Try.prog 153 = some ([.i .i32 0]) ∧ ([.i .i32 0] : List SV).all SV.one = true ∧ (Try.prog.info? 153).map (·.size) = some ([.i .i32 0] : List SV).length := ⟨by kernel_rfl, by kernel_rfl, by kernel_rfl⟩
theorem z154 : zeroOf Try.prog 154 = some ([.u64 0, .u64 0, .u32 0, .u8 0, .u8 0, .u8 0, .u8 0, .fnil, .pn, .i .i32 0, .i .i32 0]) ∧ ([.u64 0, .u64 0, .u32 0, .u8 0, .u8 0, .u8 0, .u8 0, .fnil, .pn, .i .i32 0, .i .i32 0] : List SV).all SV.one = true ∧ (Try.prog.info? 154).map (·.size) = some ([.u64 0, .u64 0, .u32 0, .u8 0, .u8 0, .u8 0, .u8 0, .fnil, .pn, .i .i32 0, .i .i32 0] : List SV).length := ⟨by kernel_rfl, by kernel_rfl, by kernel_rfl⟩
theorem z155 : zeroOf Try.prog 155 = some ([.u64 0, .u64 0, .u32 0, .u8 0, .u8 0, .u8 0, .u8 0, .fnil, .pn, .i .i32 0, .i .i32 0]) ∧ ([.u64 0, .u64 0, .u32 0, .u8 0, .u8 0, .u8 0, .u8 0, .fnil, .pn, .i .i32 0, .i .i32 0] : List SV).all SV.one = true ∧ (Try.prog.info? 155).map (·.size) = some ([.u64 0, .u64 0, .u32 0, .u8 0, .u8 0, .u8 0, .u8 0, .fnil, .pn, .i .i32 0, .i .i32 0] : List SV).length := ⟨by kernel_rfl, by kernel_rfl, by kernel_rfl⟩
@[go_sem] theorem tk1 : tab.k 1 = .func := rfl
@[go_sem] theorem tz1 : tab.z 1 = some (([.fnil] : List SV)) := rfl
@[go_sem] theorem tk2 : tab.k 2 = .int .i64 := rfl
@[go_sem] theorem tz2 : tab.z 2 = some (([.i .i64 0] : List SV)) := rfl
@[go_sem] theorem tk3 : tab.k 3 = .int .i64 := rfl
@[go_sem] theorem tz3 : tab.z 3 = some (([.i .i64 0] : List SV)) := rfl
@[go_sem] theorem tk4 : tab.k 4 = .bool := rfl
@[go_sem] theorem tz4 : tab.z 4 = some (([.b false] : List SV)) := rfl
@[go_sem] theorem tk5 : tab.k 5 = .int .u8 := rfl
@[go_sem] theorem tz5 : tab.z 5 = some (([.u8 0] : List SV)) := rfl
@[go_sem] theorem tk6 : tab.k 6 = .int .u8 := rfl
@[go_sem] theorem tz6 : tab.z 6 = some (([.u8 0] : List SV)) := rfl
@[go_sem] theorem tk7 : tab.k 7 = .struct 4 := rfl
@[go_sem] theorem tz7 : tab.z 7 = some (([.i .i64 0, .i .i64 0, .b false, .u8 0] : List SV)) := rfl
@[go_sem] theorem te7 : tab.eqp.getD 7 false = true := rfl
@[go_sem] theorem tf7_0 : tab.f 7 0 = some (0, 1, 2) := rfl
@[go_sem] theorem tf7_1 : tab.f 7 1 = some (1, 1, 3) := rfl
@[go_sem] theorem tf7_2 : tab.f 7 2 = some (2, 1, 4) := rfl
@[go_sem] theorem tf7_3 : tab.f 7 3 = some (3, 1, 6) := rfl
@[go_sem] theorem tk8 : tab.k 8 = .struct 4 := rfl
@[go_sem] theorem tz8 : tab.z 8 = some (([.i .i64 0, .i .i64 0, .b false, .u8 0] : List SV)) := rfl
@[go_sem] theorem te8 : tab.eqp.getD 8 false = true := rfl
@[go_sem] theorem tf8_0 : tab.f 8 0 = some (0, 1, 2) := rfl
@[go_sem] theorem tf8_1 : tab.f 8 1 = some (1, 1, 3) := rfl
@[go_sem] theorem tf8_2 : tab.f 8 2 = some (2, 1, 4) := rfl
@[go_sem] theorem tf8_3 : tab.f 8 3 = some (3, 1, 6) := rfl
@[go_sem] theorem tk9 : tab.k 9 = .str := rfl
@[go_sem] theorem tz9 : tab.z 9 = some (([.str ⟨#[]⟩] : List SV)) := rfl
@[go_sem] theorem tk10 : tab.k 10 = .str := rfl
@[go_sem] theorem tz10 : tab.z 10 = some (([.str ⟨#[]⟩] : List SV)) := rfl
@[go_sem] theorem tk11 : tab.k 11 = .str := rfl
@[go_sem] theorem tz11 : tab.z 11 = some (([.str ⟨#[]⟩] : List SV)) := rfl
@[go_sem] theorem tk12 : tab.k 12 = .int .u64 := rfl
@[go_sem] theorem tz12 : tab.z 12 = some (([.u64 0] : List SV)) := rfl
@[go_sem] theorem tk13 : tab.k 13 = .struct 2 := rfl
@[go_sem] theorem tz13 : tab.z 13 = some (([.str ⟨#[]⟩, .u64 0] : List SV)) := rfl
@[go_sem] theorem te13 : tab.eqp.getD 13 false = true := rfl
@[go_sem] theorem tf13_0 : tab.f 13 0 = some (0, 1, 9) := rfl
@[go_sem] theorem tf13_1 : tab.f 13 1 = some (1, 1, 12) := rfl
@[go_sem] theorem tk14 : tab.k 14 = .struct 2 := rfl
@[go_sem] theorem tz14 : tab.z 14 = some (([.str ⟨#[]⟩, .u64 0] : List SV)) := rfl
@[go_sem] theorem te14 : tab.eqp.getD 14 false = true := rfl
@[go_sem] theorem tf14_0 : tab.f 14 0 = some (0, 1, 9) := rfl
@[go_sem] theorem tf14_1 : tab.f 14 1 = some (1, 1, 12) := rfl
@[go_sem] theorem tk15 : tab.k 15 = .ptr := rfl
@[go_sem] theorem tz15 : tab.z 15 = some (([.pn] : List SV)) := rfl
@[go_sem] theorem tk16 : tab.k 16 = .ptr := rfl
@[go_sem] theorem tz16 : tab.z 16 = some (([.pn] : List SV)) := rfl
@[go_sem] theorem tk17 : tab.k 17 = .ptr := rfl
@[go_sem] theorem tz17 : tab.z 17 = some (([.pn] : List SV)) := rfl
@[go_sem] theorem tk18 : tab.k 18 = .struct 1 := rfl
@[go_sem] theorem tz18 : tab.z 18 = some (([.pn] : List SV)) := rfl
@[go_sem] theorem te18 : tab.eqp.getD 18 false = true := rfl
@[go_sem] theorem tf18_0 : tab.f 18 0 = some (0, 1, 17) := rfl
@[go_sem] theorem tk19 : tab.k 19 = .struct 1 := rfl
@[go_sem] theorem tz19 : tab.z 19 = some (([.pn] : List SV)) := rfl
@[go_sem] theorem te19 : tab.eqp.getD 19 false = true := rfl
@[go_sem] theorem tf19_0 : tab.f 19 0 = some (0, 1, 17) := rfl
@[go_sem] theorem tk20 : tab.k 20 = .iface := rfl
@[go_sem] theorem tz20 : tab.z 20 = some (([.inil] : List SV)) := rfl
@[go_sem] theorem tk21 : tab.k 21 = .int .i32 := rfl
@[go_sem] theorem tz21 : tab.z 21 = some (([.i .i32 0] : List SV)) := rfl
@[go_sem] theorem tk22 : tab.k 22 = .int .u64 := rfl
@[go_sem] theorem tz22 : tab.z 22 = some (([.u64 0] : List SV)) := rfl
@[go_sem] theorem tk23 : tab.k 23 = .struct 4 := rfl
@[go_sem] theorem tz23 : tab.z 23 = some (([.i .i64 0, .i .i64 0, .i .i64 0, .u64 0] : List SV)) := rfl
@[go_sem] theorem te23 : tab.eqp.getD 23 false = true := rfl
@[go_sem] theorem tf23_0 : tab.f 23 0 = some (0, 1, 3) := rfl
@[go_sem] theorem tf23_1 : tab.f 23 1 = some (1, 1, 3) := rfl
@[go_sem] theorem tf23_2 : tab.f 23 2 = some (2, 1, 3) := rfl
@[go_sem] theorem tf23_3 : tab.f 23 3 = some (3, 1, 22) := rfl
@[go_sem] theorem tk24 : tab.k 24 = .struct 4 := rfl
@[go_sem] theorem tz24 : tab.z 24 = some (([.i .i64 0, .i .i64 0, .i .i64 0, .u64 0] : List SV)) := rfl
@[go_sem] theorem te24 : tab.eqp.getD 24 false = true := rfl
@[go_sem] theorem tf24_0 : tab.f 24 0 = some (0, 1, 3) := rfl
@[go_sem] theorem tf24_1 : tab.f 24 1 = some (1, 1, 3) := rfl
@[go_sem] theorem tf24_2 : tab.f 24 2 = some (2, 1, 3) := rfl
@[go_sem] theorem tf24_3 : tab.f 24 3 = some (3, 1, 22) := rfl
@[go_sem] theorem tk25 : tab.k 25 = .slice 5 1 1 := rfl
@[go_sem] theorem tz25 : tab.z 25 = some (([.sn] : List SV)) := rfl
@[go_sem] theorem tk26 : tab.k 26 = .int .i64 := rfl
@[go_sem] theorem tz26 : tab.z 26 = some (([.i .i64 0] : List SV)) := rfl
@[go_sem] theorem tk28 : tab.k 28 = .func := rfl
@[go_sem] theorem tz28 : tab.z 28 = some (([.fnil] : List SV)) := rfl
@[go_sem] theorem tk30 : tab.k 30 = .func := rfl
@[go_sem] theorem tz30 : tab.z 30 = some (([.fnil] : List SV)) := rfl
@[go_sem] theorem tk31 : tab.k 31 = .func := rfl
@[go_sem] theorem tz31 : tab.z 31 = some (([.fnil] : List SV)) := rfl
@[go_sem] theorem tk32 : tab.k 32 = .func := rfl
@[go_sem] theorem tz32 : tab.z 32 = some (([.fnil] : List SV)) := rfl
@[go_sem] theorem tk33 : tab.k 33 = .func := rfl
@[go_sem] theorem tz33 : tab.z 33 = some (([.fnil] : List SV)) := rfl
@[go_sem] theorem tk34 : tab.k 34 = .func := rfl
@[go_sem] theorem tz34 : tab.z 34 = some (([.fnil] : List SV)) := rfl
@[go_sem] theorem tk35 : tab.k 35 = .func := rfl
@[go_sem] theorem tz35 : tab.z 35 = some (([.fnil] : List SV)) := rfl
@[go_sem] theorem tk36 : tab.k 36 = .func := rfl
@[go_sem] theorem tz36 : tab.z 36 = some (([.fnil] : List SV)) := rfl
@[go_sem] theorem tk38 : tab.k 38 = .func := rfl
@[go_sem] theorem tz38 : tab.z 38 = some (([.fnil] : List SV)) := rfl
@[go_sem] theorem tk40 : tab.k 40 = .func := rfl
@[go_sem] theorem tz40 : tab.z 40 = some (([.fnil] : List SV)) := rfl
@[go_sem] theorem tk41 : tab.k 41 = .func := rfl
@[go_sem] theorem tz41 : tab.z 41 = some (([.fnil] : List SV)) := rfl
@[go_sem] theorem tk42 : tab.k 42 = .func := rfl
@[go_sem] theorem tz42 : tab.z 42 = some (([.fnil] : List SV)) := rfl
@[go_sem] theorem tk43 : tab.k 43 = .func := rfl
@[go_sem] theorem tz43 : tab.z 43 = some (([.fnil] : List SV)) := rfl
@[go_sem] theorem tk44 : tab.k 44 = .struct 3 := rfl
@[go_sem] theorem tz44 : tab.z 44 = some (([.i .i64 0, .u64 0, .u64 0] : List SV)) := rfl
@[go_sem] theorem te44 : tab.eqp.getD 44 false = true := rfl
@[go_sem] theorem tf44_0 : tab.f 44 0 = some (0, 1, 3) := rfl
@[go_sem] theorem tf44_1 : tab.f 44 1 = some (1, 1, 22) := rfl
@[go_sem] theorem tf44_2 : tab.f 44 2 = some (2, 1, 22) := rfl
@[go_sem] theorem tk45 : tab.k 45 = .struct 3 := rfl
@[go_sem] theorem tz45 : tab.z 45 = some (([.i .i64 0, .u64 0, .u64 0] : List SV)) := rfl
@[go_sem] theorem te45 : tab.eqp.getD 45 false = true := rfl
@[go_sem] theorem tf45_0 : tab.f 45 0 = some (0, 1, 3) := rfl
@[go_sem] theorem tf45_1 : tab.f 45 1 = some (1, 1, 22) := rfl
@[go_sem] theorem tf45_2 : tab.f 45 2 = some (2, 1, 22) := rfl
@[go_sem] theorem tk46 : tab.k 46 = .struct 7 := rfl
@[go_sem] theorem tz46 : tab.z 46 = some (([.i .i64 0, .u64 0, .u64 0, .i .i64 0, .u64 0, .u64 0, .sn] : List SV)) := rfl
@[go_sem] theorem te46 : tab.eqp.getD 46 false = true := rfl
@[go_sem] theorem tf46_0 : tab.f 46 0 = some (0, 3, 45) := rfl
@[go_sem] theorem tf46_1 : tab.f 46 1 = some (3, 3, 45) := rfl
@[go_sem] theorem tf46_2 : tab.f 46 2 = some (6, 1, 25) := rfl
@[go_sem] theorem tk47 : tab.k 47 = .struct 7 := rfl
@[go_sem] theorem tz47 : tab.z 47 = some (([.i .i64 0, .u64 0, .u64 0, .i .i64 0, .u64 0, .u64 0, .sn] : List SV)) := rfl
@[go_sem] theorem te47 : tab.eqp.getD 47 false = true := rfl
@[go_sem] theorem tf47_0 : tab.f 47 0 = some (0, 3, 45) := rfl
@[go_sem] theorem tf47_1 : tab.f 47 1 = some (3, 3, 45) := rfl
@[go_sem] theorem tf47_2 : tab.f 47 2 = some (6, 1, 25) := rfl
@[go_sem] theorem tk48 : tab.k 48 = .func := rfl
@[go_sem] theorem tz48 : tab.z 48 = some (([.fnil] : List SV)) := rfl
@[go_sem] theorem tk49 : tab.k 49 = .func := rfl
@[go_sem] theorem tz49 : tab.z 49 = some (([.fnil] : List SV)) := rfl
@[go_sem] theorem tk50 : tab.k 50 = .func := rfl
@[go_sem] theorem tz50 : tab.z 50 = some (([.fnil] : List SV)) := rfl
@[go_sem] theorem tk52 : tab.k 52 = .func := rfl
@[go_sem] theorem tz52 : tab.z 52 = some (([.fnil] : List SV)) := rfl
@[go_sem] theorem tk54 : tab.k 54 = .func := rfl
@[go_sem] theorem tz54 : tab.z 54 = some (([.fnil] : List SV)) := rfl
@[go_sem] theorem tk55 : tab.k 55 = .func := rfl
@[go_sem] theorem tz55 : tab.z 55 = some (([.fnil] : List SV)) := rfl
@[go_sem] theorem tk56 : tab.k 56 = .struct 5 := rfl
@[go_sem] theorem tz56 : tab.z 56 = some (([.i .i64 0, .i .i64 0, .i .i64 0, .u64 0, .sn] : List SV)) := rfl
@[go_sem] theorem te56 : tab.eqp.getD 56 false = true := rfl
@[go_sem] theorem tf56_0 : tab.f 56 0 = some (0, 4, 24) := rfl
@[go_sem] theorem tf56_1 : tab.f 56 1 = some (4, 1, 25) := rfl
@[go_sem] theorem tk57 : tab.k 57 = .struct 5 := rfl
@[go_sem] theorem tz57 : tab.z 57 = some (([.i .i64 0, .i .i64 0, .i .i64 0, .u64 0, .sn] : List SV)) := rfl
@[go_sem] theorem te57 : tab.eqp.getD 57 false = true := rfl
@[go_sem] theorem tf57_0 : tab.f 57 0 = some (0, 4, 24) := rfl
@[go_sem] theorem tf57_1 : tab.f 57 1 = some (4, 1, 25) := rfl
@[go_sem] theorem tk59 : tab.k 59 = .func := rfl
@[go_sem] theorem tz59 : tab.z 59 = some (([.fnil] : List SV)) := rfl
@[go_sem] theorem tk60 : tab.k 60 = .func := rfl
@[go_sem] theorem tz60 : tab.z 60 = some (([.fnil] : List SV)) := rfl
@[go_sem] theorem tk61 : tab.k 61 = .func := rfl
@[go_sem] theorem tz61 : tab.z 61 = some (([.fnil] : List SV)) := rfl
@[go_sem] theorem tk62 : tab.k 62 = .func := rfl
@[go_sem] theorem tz62 : tab.z 62 = some (([.fnil] : List SV)) := rfl
@[go_sem] theorem tk63 : tab.k 63 = .func := rfl
@[go_sem] theorem tz63 : tab.z 63 = some (([.fnil] : List SV)) := rfl
@[go_sem] theorem tk64 : tab.k 64 = .func := rfl
@[go_sem] theorem tz64 : tab.z 64 = some (([.fnil] : List SV)) := rfl
@[go_sem] theorem tk65 : tab.k 65 = .func := rfl
@[go_sem] theorem tz65 : tab.z 65 = some (([.fnil] : List SV)) := rfl
@[go_sem] theorem tk66 : tab.k 66 = .func := rfl
@[go_sem] theorem tz66 : tab.z 66 = some (([.fnil] : List SV)) := rfl
@[go_sem] theorem tk67 : tab.k 67 = .int .u32 := rfl
@[go_sem] theorem tz67 : tab.z 67 = some (([.u32 0] : List SV)) := rfl
@[go_sem] theorem tk68 : tab.k 68 = .func := rfl
@[go_sem] theorem tz68 : tab.z 68 = some (([.fnil] : List SV)) := rfl
@[go_sem] theorem tk69 : tab.k 69 = .func := rfl
@[go_sem] theorem tz69 : tab.z 69 = some (([.fnil] : List SV)) := rfl
@[go_sem] theorem tk70 : tab.k 70 = .int .u64 := rfl
@[go_sem] theorem tz70 : tab.z 70 = some (([.u64 0] : List SV)) := rfl
@[go_sem] theorem tk71 : tab.k 71 = .struct 6 := rfl
@[go_sem] theorem tz71 : tab.z 71 = some (([.i .i64 0, .i .i64 0, .i .i64 0, .u64 0, .sn, .sn] : List SV)) := rfl
@[go_sem] theorem te71 : tab.eqp.getD 71 false = true := rfl
@[go_sem] theorem tf71_0 : tab.f 71 0 = some (0, 4, 24) := rfl
@[go_sem] theorem tf71_1 : tab.f 71 1 = some (4, 1, 25) := rfl
@[go_sem] theorem tf71_2 : tab.f 71 2 = some (5, 1, 25) := rfl
@[go_sem] theorem tk72 : tab.k 72 = .struct 6 := rfl
@[go_sem] theorem tz72 : tab.z 72 = some (([.i .i64 0, .i .i64 0, .i .i64 0, .u64 0, .sn, .sn] : List SV)) := rfl
@[go_sem] theorem te72 : tab.eqp.getD 72 false = true := rfl
@[go_sem] theorem tf72_0 : tab.f 72 0 = some (0, 4, 24) := rfl
@[go_sem] theorem tf72_1 : tab.f 72 1 = some (4, 1, 25) := rfl
@[go_sem] theorem tf72_2 : tab.f 72 2 = some (5, 1, 25) := rfl
@[go_sem] theorem tk74 : tab.k 74 = .func := rfl
@[go_sem] theorem tz74 : tab.z 74 = some (([.fnil] : List SV)) := rfl
@[go_sem] theorem tk75 : tab.k 75 = .func := rfl
@[go_sem] theorem tz75 : tab.z 75 = some (([.fnil] : List SV)) := rfl
@[go_sem] theorem tk76 : tab.k 76 = .func := rfl
@[go_sem] theorem tz76 : tab.z 76 = some (([.fnil] : List SV)) := rfl
@[go_sem] theorem tk77 : tab.k 77 = .func := rfl
@[go_sem] theorem tz77 : tab.z 77 = some (([.fnil] : List SV)) := rfl
@[go_sem] theorem tk78 : tab.k 78 = .func := rfl
@[go_sem] theorem tz78 : tab.z 78 = some (([.fnil] : List SV)) := rfl
@[go_sem] theorem tk79 : tab.k 79 = .ptr := rfl
@[go_sem] theorem tz79 : tab.z 79 = some (([.pn] : List SV)) := rfl
@[go_sem] theorem tk80 : tab.k 80 = .func := rfl
@[go_sem] theorem tz80 : tab.z 80 = some (([.fnil] : List SV)) := rfl
@[go_sem] theorem tk81 : tab.k 81 = .func := rfl
@[go_sem] theorem tz81 : tab.z 81 = some (([.fnil] : List SV)) := rfl
@[go_sem] theorem tk82 : tab.k 82 = .func := rfl
@[go_sem] theorem tz82 : tab.z 82 = some (([.fnil] : List SV)) := rfl
@[go_sem] theorem tk84 : tab.k 84 = .func := rfl
@[go_sem] theorem tz84 : tab.z 84 = some (([.fnil] : List SV)) := rfl
@[go_sem] theorem tk85 : tab.k 85 = .func := rfl
@[go_sem] theorem tz85 : tab.z 85 = some (([.fnil] : List SV)) := rfl
@[go_sem] theorem tk86 : tab.k 86 = .func := rfl
@[go_sem] theorem tz86 : tab.z 86 = some (([.fnil] : List SV)) := rfl
@[go_sem] theorem tk87 : tab.k 87 = .func := rfl
@[go_sem] theorem tz87 : tab.z 87 = some (([.fnil] : List SV)) := rfl
@[go_sem] theorem tk88 : tab.k 88 = .func := rfl
@[go_sem] theorem tz88 : tab.z 88 = some (([.fnil] : List SV)) := rfl
@[go_sem] theorem tk90 : tab.k 90 = .func := rfl
@[go_sem] theorem tz90 : tab.z 90 = some (([.fnil] : List SV)) := rfl
@[go_sem] theorem tk91 : tab.k 91 = .func := rfl
@[go_sem] theorem tz91 : tab.z 91 = some (([.fnil] : List SV)) := rfl
@[go_sem] theorem tk92 : tab.k 92 = .func := rfl
@[go_sem] theorem tz92 : tab.z 92 = some (([.fnil] : List SV)) := rfl
@[go_sem] theorem tk93 : tab.k 93 = .func := rfl
@[go_sem] theorem tz93 : tab.z 93 = some (([.fnil] : List SV)) := rfl
@[go_sem] theorem tk94 : tab.k 94 = .func := rfl
@[go_sem] theorem tz94 : tab.z 94 = some (([.fnil] : List SV)) := rfl
@[go_sem] theorem tk95 : tab.k 95 = .func := rfl
@[go_sem] theorem tz95 : tab.z 95 = some (([.fnil] : List SV)) := rfl
@[go_sem] theorem tk96 : tab.k 96 = .func := rfl
@[go_sem] theorem tz96 : tab.z 96 = some (([.fnil] : List SV)) := rfl
@[go_sem] theorem tk97 : tab.k 97 = .func := rfl
@[go_sem] theorem tz97 : tab.z 97 = some (([.fnil] : List SV)) := rfl
@[go_sem] theorem tk98 : tab.k 98 = .struct 3 := rfl
@[go_sem] theorem tz98 : tab.z 98 = some (([.sn, .i .i64 0, .i .i64 0] : List SV)) := rfl
@[go_sem] theorem te98 : tab.eqp.getD 98 false = true := rfl
@[go_sem] theorem tf98_0 : tab.f 98 0 = some (0, 1, 25) := rfl
@[go_sem] theorem tf98_1 : tab.f 98 1 = some (1, 1, 3) := rfl
@[go_sem] theorem tf98_2 : tab.f 98 2 = some (2, 1, 26) := rfl
@[go_sem] theorem tk99 : tab.k 99 = .struct 3 := rfl
@[go_sem] theorem tz99 : tab.z 99 = some (([.sn, .i .i64 0, .i .i64 0] : List SV)) := rfl
@[go_sem] theorem te99 : tab.eqp.getD 99 false = true := rfl
@[go_sem] theorem tf99_0 : tab.f 99 0 = some (0, 1, 25) := rfl
@[go_sem] theorem tf99_1 : tab.f 99 1 = some (1, 1, 3) := rfl
@[go_sem] theorem tf99_2 : tab.f 99 2 = some (2, 1, 26) := rfl
@[go_sem] theorem tk100 : tab.k 100 = .func := rfl
@[go_sem] theorem tz100 : tab.z 100 = some (([.fnil] : List SV)) := rfl
@[go_sem] theorem tk101 : tab.k 101 = .ptr := rfl
@[go_sem] theorem tz101 : tab.z 101 = some (([.pn] : List SV)) := rfl
@[go_sem] theorem tk103 : tab.k 103 = .func := rfl
@[go_sem] theorem tz103 : tab.z 103 = some (([.fnil] : List SV)) := rfl
@[go_sem] theorem tk104 : tab.k 104 = .arr 16 5 1 16 := rfl
@[go_sem] theorem tz104 : tab.z 104 = some (bS (List.replicate 16 0#8)) := rfl
@[go_sem] theorem te104 : tab.eqp.getD 104 false = true := rfl
@[go_sem] theorem tk105 : tab.k 105 = .func := rfl
@[go_sem] theorem tz105 : tab.z 105 = some (([.fnil] : List SV)) := rfl
@[go_sem] theorem tk106 : tab.k 106 = .func := rfl
@[go_sem] theorem tz106 : tab.z 106 = some (([.fnil] : List SV)) := rfl
@[go_sem] theorem tk107 : tab.k 107 = .ptr := rfl
@[go_sem] theorem tz107 : tab.z 107 = some (([.pn] : List SV)) := rfl
@[go_sem] theorem tk109 : tab.k 109 = .func := rfl
@[go_sem] theorem tz109 : tab.z 109 = some (([.fnil] : List SV)) := rfl
@[go_sem] theorem tk110 : tab.k 110 = .func := rfl
@[go_sem] theorem tz110 : tab.z 110 = some (([.fnil] : List SV)) := rfl
@[go_sem] theorem tk111 : tab.k 111 = .func := rfl
@[go_sem] theorem tz111 : tab.z 111 = some (([.fnil] : List SV)) := rfl
@[go_sem] theorem tk112 : tab.k 112 = .arr 256 5 1 256 := rfl
@[go_sem] theorem tz112 : tab.z 112 = some (bS (List.replicate 256 0#8)) := rfl
@[go_sem] theorem te112 : tab.eqp.getD 112 false = true := rfl
@[go_sem] theorem tk113 : tab.k 113 = .arr 16 5 1 16 := rfl
@[go_sem] theorem tz113 : tab.z 113 = some (bS (List.replicate 16 0#8)) := rfl
@[go_sem] theorem te113 : tab.eqp.getD 113 false = true := rfl
@[go_sem] theorem tk114 : tab.k 114 = .arr 15 113 16 240 := rfl
@[go_sem] theorem tz114 : tab.z 114 = some (bS (List.replicate 240 0#8)) := rfl
@[go_sem] theorem te114 : tab.eqp.getD 114 false = true := rfl
@[go_sem] theorem tk115 : tab.k 115 = .struct 496 := rfl
@[go_sem] theorem tz115 : tab.z 115 = some (bS (List.replicate 496 0#8)) := rfl
@[go_sem] theorem te115 : tab.eqp.getD 115 false = true := rfl
@[go_sem] theorem tf115_0 : tab.f 115 0 = some (0, 256, 112) := rfl
@[go_sem] theorem tf115_1 : tab.f 115 1 = some (256, 240, 114) := rfl
@[go_sem] theorem tk116 : tab.k 116 = .struct 496 := rfl
@[go_sem] theorem tz116 : tab.z 116 = some (bS (List.replicate 496 0#8)) := rfl
@[go_sem] theorem te116 : tab.eqp.getD 116 false = true := rfl
@[go_sem] theorem tf116_0 : tab.f 116 0 = some (0, 256, 112) := rfl
@[go_sem] theorem tf116_1 : tab.f 116 1 = some (256, 240, 114) := rfl
@[go_sem] theorem tk117 : tab.k 117 = .func := rfl
@[go_sem] theorem tz117 : tab.z 117 = some (([.fnil] : List SV)) := rfl
@[go_sem] theorem tk118 : tab.k 118 = .arr 4 5 1 4 := rfl
@[go_sem] theorem tz118 : tab.z 118 = some (bS (List.replicate 4 0#8)) := rfl
@[go_sem] theorem te118 : tab.eqp.getD 118 false = true := rfl
@[go_sem] theorem tk119 : tab.k 119 = .arr 4 5 1 4 := rfl
@[go_sem] theorem tz119 : tab.z 119 = some (bS (List.replicate 4 0#8)) := rfl
@[go_sem] theorem te119 : tab.eqp.getD 119 false = true := rfl
@[go_sem] theorem tk120 : tab.k 120 = .arr 60 119 4 240 := rfl
@[go_sem] theorem tz120 : tab.z 120 = some (bS (List.replicate 240 0#8)) := rfl
@[go_sem] theorem te120 : tab.eqp.getD 120 false = true := rfl
@[go_sem] theorem tk121 : tab.k 121 = .func := rfl
@[go_sem] theorem tz121 : tab.z 121 = some (([.fnil] : List SV)) := rfl
@[go_sem] theorem tk122 : tab.k 122 = .func := rfl
@[go_sem] theorem tz122 : tab.z 122 = some (([.fnil] : List SV)) := rfl
@[go_sem] theorem tk123 : tab.k 123 = .func := rfl
@[go_sem] theorem tz123 : tab.z 123 = some (([.fnil] : List SV)) := rfl
@[go_sem] theorem tk124 : tab.k 124 = .func := rfl
@[go_sem] theorem tz124 : tab.z 124 = some (([.fnil] : List SV)) := rfl
@[go_sem] theorem tk125 : tab.k 125 = .func := rfl
@[go_sem] theorem tz125 : tab.z 125 = some (([.fnil] : List SV)) := rfl
@[go_sem] theorem tk126 : tab.k 126 = .func := rfl
@[go_sem] theorem tz126 : tab.z 126 = some (([.fnil] : List SV)) := rfl
@[go_sem] theorem tk127 : tab.k 127 = .func := rfl
@[go_sem] theorem tz127 : tab.z 127 = some (([.fnil] : List SV)) := rfl
@[go_sem] theorem tk128 : tab.k 128 = .func := rfl
@[go_sem] theorem tz128 : tab.z 128 = some (([.fnil] : List SV)) := rfl
@[go_sem] theorem tk129 : tab.k 129 = .func := rfl
@[go_sem] theorem tz129 : tab.z 129 = some (([.fnil] : List SV)) := rfl
@[go_sem] theorem tk130 : tab.k 130 = .arr 240 5 1 240 := rfl
@[go_sem] theorem tz130 : tab.z 130 = some (bS (List.replicate 240 0#8)) := rfl
@[go_sem] theorem te130 : tab.eqp.getD 130 false = true := rfl
@[go_sem] theorem tk131 : tab.k 131 = .struct 752 := rfl
@[go_sem] theorem tz131 : tab.z 131 = some (bS (List.replicate 752 0#8)) := rfl
@[go_sem] theorem te131 : tab.eqp.getD 131 false = true := rfl
@[go_sem] theorem tf131_0 : tab.f 131 0 = some (0, 256, 112) := rfl
@[go_sem] theorem tf131_1 : tab.f 131 1 = some (256, 256, 112) := rfl
@[go_sem] theorem tf131_2 : tab.f 131 2 = some (512, 240, 130) := rfl
@[go_sem] theorem tk132 : tab.k 132 = .struct 752 := rfl
@[go_sem] theorem tz132 : tab.z 132 = some (bS (List.replicate 752 0#8)) := rfl
@[go_sem] theorem te132 : tab.eqp.getD 132 false = true := rfl
@[go_sem] theorem tf132_0 : tab.f 132 0 = some (0, 256, 112) := rfl
@[go_sem] theorem tf132_1 : tab.f 132 1 = some (256, 256, 112) := rfl
@[go_sem] theorem tf132_2 : tab.f 132 2 = some (512, 240, 130) := rfl
@[go_sem] theorem tk133 : tab.k 133 = .func := rfl
@[go_sem] theorem tz133 : tab.z 133 = some (([.fnil] : List SV)) := rfl
@[go_sem] theorem tk134 : tab.k 134 = .func := rfl
@[go_sem] theorem tz134 : tab.z 134 = some (([.fnil] : List SV)) := rfl
@[go_sem] theorem tk135 : tab.k 135 = .arr 5 3 1 5 := rfl
@[go_sem] theorem tz135 : tab.z 135 = some (([.i .i64 0, .i .i64 0, .i .i64 0, .i .i64 0, .i .i64 0] : List SV)) := rfl
@[go_sem] theorem te135 : tab.eqp.getD 135 false = true := rfl
@[go_sem] theorem tk136 : tab.k 136 = .func := rfl
@[go_sem] theorem tz136 : tab.z 136 = some (([.fnil] : List SV)) := rfl
@[go_sem] theorem tk137 : tab.k 137 = .arr 4 5 1 4 := rfl
@[go_sem] theorem tz137 : tab.z 137 = some (bS (List.replicate 4 0#8)) := rfl
@[go_sem] theorem te137 : tab.eqp.getD 137 false = true := rfl
@[go_sem] theorem tk138 : tab.k 138 = .func := rfl
@[go_sem] theorem tz138 : tab.z 138 = some (([.fnil] : List SV)) := rfl
@[go_sem] theorem tk139 : tab.k 139 = .func := rfl
@[go_sem] theorem tz139 : tab.z 139 = some (([.fnil] : List SV)) := rfl
@[go_sem] theorem tk140 : tab.k 140 = .func := rfl
@[go_sem] theorem tz140 : tab.z 140 = some (([.fnil] : List SV)) := rfl
@[go_sem] theorem tk141 : tab.k 141 = .func := rfl
@[go_sem] theorem tz141 : tab.z 141 = some (([.fnil] : List SV)) := rfl
@[go_sem] theorem tk142 : tab.k 142 = .func := rfl
@[go_sem] theorem tz142 : tab.z 142 = some (([.fnil] : List SV)) := rfl
@[go_sem] theorem tk143 : tab.k 143 = .struct 4 := rfl
@[go_sem] theorem tz143 : tab.z 143 = some (([.pn, .pn, .pn, .str ⟨#[]⟩] : List SV)) := rfl
@[go_sem] theorem te143 : tab.eqp.getD 143 false = true := rfl
@[go_sem] theorem tf143_0 : tab.f 143 0 = some (0, 1, 17) := rfl
@[go_sem] theorem tf143_1 : tab.f 143 1 = some (1, 1, 17) := rfl
@[go_sem] theorem tf143_2 : tab.f 143 2 = some (2, 1, 17) := rfl
@[go_sem] theorem tf143_3 : tab.f 143 3 = some (3, 1, 9) := rfl
@[go_sem] theorem tk144 : tab.k 144 = .struct 4 := rfl
@[go_sem] theorem tz144 : tab.z 144 = some (([.pn, .pn, .pn, .str ⟨#[]⟩] : List SV)) := rfl
@[go_sem] theorem te144 : tab.eqp.getD 144 false = true := rfl
@[go_sem] theorem tf144_0 : tab.f 144 0 = some (0, 1, 17) := rfl
@[go_sem] theorem tf144_1 : tab.f 144 1 = some (1, 1, 17) := rfl
@[go_sem] theorem tf144_2 : tab.f 144 2 = some (2, 1, 17) := rfl
@[go_sem] theorem tf144_3 : tab.f 144 3 = some (3, 1, 9) := rfl
@[go_sem] theorem tk145 : tab.k 145 = .arr 0 16 1 0 := rfl
@[go_sem] theorem tz145 : tab.z 145 = some (([] : List SV)) := rfl
@[go_sem] theorem te145 : tab.eqp.getD 145 false = true := rfl
@[go_sem] theorem tk146 : tab.k 146 = .struct 0 := rfl
@[go_sem] theorem tz146 : tab.z 146 = some (([] : List SV)) := rfl
@[go_sem] theorem te146 : tab.eqp.getD 146 false = true := rfl
@[go_sem] theorem tk147 : tab.k 147 = .struct 0 := rfl
@[go_sem] theorem tz147 : tab.z 147 = some (([] : List SV)) := rfl
@[go_sem] theorem te147 : tab.eqp.getD 147 false = true := rfl
@[go_sem] theorem tk148 : tab.k 148 = .int .u8 := rfl
@[go_sem] theorem tz148 : tab.z 148 = some (([.u8 0] : List SV)) := rfl
@[go_sem] theorem tk149 : tab.k 149 = .int .u8 := rfl
@[go_sem] theorem tz149 : tab.z 149 = some (([.u8 0] : List SV)) := rfl
@[go_sem] theorem tk150 : tab.k 150 = .func := rfl
@[go_sem] theorem tz150 : tab.z 150 = some (([.fnil] : List SV)) := rfl
@[go_sem] theorem tk151 : tab.k 151 = .ptr := rfl
@[go_sem] theorem tz151 : tab.z 151 = some (([.pn] : List SV)) := rfl
@[go_sem] theorem tk152 : tab.k 152 = .int .i32 := rfl
@[go_sem] theorem tz152 : tab.z 152 = some (([.i .i32 0] : List SV)) := rfl
@[go_sem] theorem tk153 : tab.k 153 = .int .i32 := rfl
@[go_sem] theorem tz153 : tab.z 153 = some (([.i .i32 0] : List SV)) := rfl
@[go_sem] theorem tk154 : tab.k 154 = .struct 11 := rfl
@[go_sem] theorem tz154 : tab.z 154 = some (([.u64 0, .u64 0, .u32 0, .u8 0, .u8 0, .u8 0, .u8 0, .fnil, .pn, .i .i32 0, .i .i32 0] : List SV)) := rfl
@[go_sem] theorem te154 : tab.eqp.getD 154 false = true := rfl
@[go_sem] theorem tf154_0 : tab.f 154 0 = some (0, 1, 12) := rfl
@[go_sem] theorem tf154_1 : tab.f 154 1 = some (1, 1, 12) := rfl
@[go_sem] theorem tf154_2 : tab.f 154 2 = some (2, 1, 67) := rfl
@[go_sem] theorem tf154_3 : tab.f 154 3 = some (3, 1, 148) := rfl
@[go_sem] theorem tf154_4 : tab.f 154 4 = some (4, 1, 5) := rfl
@[go_sem] theorem tf154_5 : tab.f 154 5 = some (5, 1, 5) := rfl
@[go_sem] theorem tf154_6 : tab.f 154 6 = some (6, 1, 149) := rfl
@[go_sem] theorem tf154_7 : tab.f 154 7 = some (7, 1, 150) := rfl
@[go_sem] theorem tf154_8 : tab.f 154 8 = some (8, 1, 151) := rfl
@[go_sem] theorem tf154_9 : tab.f 154 9 = some (9, 1, 152) := rfl
@[go_sem] theorem tf154_10 : tab.f 154 10 = some (10, 1, 153) := rfl
@[go_sem] theorem tk155 : tab.k 155 = .struct 11 := rfl
@[go_sem] theorem tz155 : tab.z 155 = some (([.u64 0, .u64 0, .u32 0, .u8 0, .u8 0, .u8 0, .u8 0, .fnil, .pn, .i .i32 0, .i .i32 0] : List SV)) := rfl
@[go_sem] theorem te155 : tab.eqp.getD 155 false = true := rfl
@[go_sem] theorem tf155_0 : tab.f 155 0 = some (0, 1, 12) := rfl
@[go_sem] theorem tf155_1 : tab.f 155 1 = some (1, 1, 12) := rfl
@[go_sem] theorem tf155_2 : tab.f 155 2 = some (2, 1, 67) := rfl
@[go_sem] theorem tf155_3 : tab.f 155 3 = some (3, 1, 148) := rfl
@[go_sem] theorem tf155_4 : tab.f 155 4 = some (4, 1, 5) := rfl
@[go_sem] theorem tf155_5 : tab.f 155 5 = some (5, 1, 5) := rfl
@[go_sem] theorem tf155_6 : tab.f 155 6 = some (6, 1, 149) := rfl
@[go_sem] theorem tf155_7 : tab.f 155 7 = some (7, 1, 150) := rfl
@[go_sem] theorem tf155_8 : tab.f 155 8 = some (8, 1, 151) := rfl
@[go_sem] theorem tf155_9 : tab.f 155 9 = some (9, 1, 152) := rfl
@[go_sem] theorem tf155_10 : tab.f 155 10 = some (10, 1, 153) := rfl
theorem tabOK : TabOK Try.prog tab := tabOK_of (by kernel_rfl) (⟨z1, ⟨z2, ⟨z3, ⟨z4, ⟨z5, ⟨z6, ⟨z7, ⟨z8, ⟨z9, ⟨z10, ⟨z11, ⟨z12, ⟨z13, ⟨z14, ⟨z15, ⟨z16, ⟨z17, ⟨z18, ⟨z19, ⟨z20, ⟨z21, ⟨z22, ⟨z23, ⟨z24, ⟨z25, ⟨z26, ⟨z28, ⟨z30, ⟨z31, ⟨z32, ⟨z33, ⟨z34, ⟨z35, ⟨z36, ⟨z38, ⟨z40, ⟨z41, ⟨z42, ⟨z43, ⟨z44, ⟨z45, ⟨z46, ⟨z47, ⟨z48, ⟨z49, ⟨z50, ⟨z52, ⟨z54, ⟨z55, ⟨z56, ⟨z57, ⟨z59, ⟨z60, ⟨z61, ⟨z62, ⟨z63, ⟨z64, ⟨z65, ⟨z66, ⟨z67, ⟨z68, ⟨z69, ⟨z70, ⟨z71, ⟨z72, ⟨z74, ⟨z75, ⟨z76, ⟨z77, ⟨z78, ⟨z79, ⟨z80, ⟨z81, ⟨z82, ⟨z84, ⟨z85, ⟨z86, ⟨z87, ⟨z88, ⟨z90, ⟨z91, ⟨z92, ⟨z93, ⟨z94, ⟨z95, ⟨z96, ⟨z97, ⟨z98, ⟨z99, ⟨z100, ⟨z101, ⟨z103, ⟨z104, ⟨z105, ⟨z106, ⟨z107, ⟨z109, ⟨z110, ⟨z111, ⟨z112, ⟨z113, ⟨z114, ⟨z115, ⟨z116, ⟨z117, ⟨z118, ⟨z119, ⟨z120, ⟨z121, ⟨z122, ⟨z123, ⟨z124, ⟨z125, ⟨z126, ⟨z127, ⟨z128, ⟨z129, ⟨z130, ⟨z131, ⟨z132, ⟨z133, ⟨z134, ⟨z135, ⟨z136, ⟨z137, ⟨z138, ⟨z139, ⟨z140, ⟨z141, ⟨z142, ⟨z143, ⟨z144, ⟨z145, ⟨z146, ⟨z147, ⟨z148, ⟨z149, ⟨z150, ⟨z151, ⟨z152, ⟨z153, ⟨z154, ⟨z155, trivial⟩⟩⟩⟩⟩⟩⟩⟩⟩⟩⟩⟩⟩⟩⟩⟩⟩⟩⟩⟩⟩⟩⟩⟩⟩⟩⟩⟩⟩⟩⟩⟩⟩⟩⟩⟩⟩⟩⟩⟩⟩⟩⟩⟩⟩⟩⟩⟩⟩⟩⟩⟩⟩⟩⟩⟩⟩⟩⟩⟩⟩⟩⟩⟩⟩⟩⟩⟩⟩⟩⟩⟩⟩⟩⟩⟩⟩⟩⟩⟩⟩⟩⟩⟩⟩⟩⟩⟩⟩⟩⟩⟩⟩⟩⟩⟩⟩⟩⟩⟩⟩⟩⟩⟩⟩⟩⟩⟩⟩⟩⟩⟩⟩⟩⟩⟩⟩⟩⟩⟩⟩⟩⟩⟩⟩⟩⟩⟩⟩⟩⟩⟩⟩⟩⟩⟩⟩⟩⟩⟩⟩⟩⟩) (by kernel_rfl) (by kernel_rfl)
end Go.Proofs.Ytdkdbeamimkljaa.Eng
