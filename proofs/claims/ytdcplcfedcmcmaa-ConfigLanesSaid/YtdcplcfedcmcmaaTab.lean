/- The table of this seat's types, for the engine; its facts by the kernel. -/
import Derived.Test.YtdcplcfedcmcmaaLs
import Derived.Test.YtdcplcfedcmcmaaProg
namespace Go.Proofs.Ytdcplcfedcmcmaa.Eng
open Go Go.RowKit
set_option maxRecDepth 20000
def tab : Tab where
  tk := [.other, .func, .int .i64, .int .i64, .bool, .int .u8, .int .u8, .struct 4, .struct 4, .str, .str, .str, .int .u64, .struct 2, .struct 2, .ptr, .ptr, .ptr, .struct 1, .struct 1, .iface, .int .i32, .slice 55 3 56, .slice 40 8 80, .slice 51 8 80, .func, .struct 2, .struct 2, .func, .int .i64, .other, .func, .func, .func, .slice 24 1 24, .slice 5 1 1, .int .u64, .struct 2, .struct 2, .struct 8, .struct 8, .other, .func, .func, .func, .func, .struct 3, .struct 3, .struct 4, .struct 4, .struct 8, .struct 8, .func, .slice 49 4 32, .struct 3, .struct 3, .func, .func, .ptr, .func, .func, .func, .struct 2, .struct 2, .func, .func, .func, .func, .func, .func, .func, .func, .slice 75 2 16, .func, .struct 2, .struct 2, .other, .func, .func, .func, .func, .func, .func, .func, .func, .func, .func, .func, .func, .func, .slice 3 1 8, .func, .func, .func, .func, .func, .func, .func, .func, .func, .func, .ptr, .int .u64, .func, .func, .func, .func, .slice 72 1 24, .func, .func, .func, .func, .func, .func, .func, .func, .func, .func, .func, .func, .func, .func, .func, .func, .struct 4, .struct 4, .arr 0 16 1 0, .struct 0, .struct 0, .func, .int .u32, .int .u8, .int .u8, .func, .ptr, .int .i32, .int .i32, .struct 11, .struct 11, .other]
  zero := [none, some ([.fnil]), some ([.i .i64 0]), some ([.i .i64 0]), some ([.b false]), some ([.u8 0]), some ([.u8 0]), some ([.i .i64 0, .i .i64 0, .b false, .u8 0]), some ([.i .i64 0, .i .i64 0, .b false, .u8 0]), some ([.str ⟨#[]⟩]), some ([.str ⟨#[]⟩]), some ([.str ⟨#[]⟩]), some ([.u64 0]), some ([.str ⟨#[]⟩, .u64 0]), some ([.str ⟨#[]⟩, .u64 0]), some ([.pn]), some ([.pn]), some ([.pn]), some ([.pn]), some ([.pn]), some ([.inil]), some ([.i .i32 0]), some ([.sn]), some ([.sn]), some ([.sn]), some ([.fnil]), some ([.sn, .sn]), some ([.sn, .sn]), some ([.fnil]), some ([.i .i64 0]), none, some ([.fnil]), some ([.fnil]), some ([.fnil]), some ([.sn]), some ([.sn]), some ([.u64 0]), some ([.i .i64 0, .i .i64 0]), some ([.i .i64 0, .i .i64 0]), some ([.sn, .i .i64 0, .i .i64 0, .i .i64 0, .u64 0, .u64 0, .i .i64 0, .i .i64 0]), some ([.sn, .i .i64 0, .i .i64 0, .i .i64 0, .u64 0, .u64 0, .i .i64 0, .i .i64 0]), none, some ([.fnil]), some ([.fnil]), some ([.fnil]), some ([.fnil]), some ([.i .i64 0, .u64 0, .u64 0]), some ([.i .i64 0, .u64 0, .u64 0]), some ([.i .i64 0, .u64 0, .u64 0, .i .i64 0]), some ([.i .i64 0, .u64 0, .u64 0, .i .i64 0]), some ([.i .i64 0, .i .i64 0, .i .i64 0, .sn, .i .i64 0, .u64 0, .u64 0, .i .i64 0]), some ([.i .i64 0, .i .i64 0, .i .i64 0, .sn, .i .i64 0, .u64 0, .u64 0, .i .i64 0]), some ([.fnil]), some ([.sn]), some ([.i .i64 0, .sn, .sn]), some ([.i .i64 0, .sn, .sn]), some ([.fnil]), some ([.fnil]), some ([.pn]), some ([.fnil]), some ([.fnil]), some ([.fnil]), some ([.sn, .sn]), some ([.sn, .sn]), some ([.fnil]), some ([.fnil]), some ([.fnil]), some ([.fnil]), some ([.fnil]), some ([.fnil]), some ([.fnil]), some ([.fnil]), some ([.sn]), some ([.fnil]), some ([.fnil, .i .i64 0]), some ([.fnil, .i .i64 0]), none, some ([.fnil]), some ([.fnil]), some ([.fnil]), some ([.fnil]), some ([.fnil]), some ([.fnil]), some ([.fnil]), some ([.fnil]), some ([.fnil]), some ([.fnil]), some ([.fnil]), some ([.fnil]), some ([.fnil]), some ([.sn]), some ([.fnil]), some ([.fnil]), some ([.fnil]), some ([.fnil]), some ([.fnil]), some ([.fnil]), some ([.fnil]), some ([.fnil]), some ([.fnil]), some ([.fnil]), some ([.pn]), some ([.u64 0]), some ([.fnil]), some ([.fnil]), some ([.fnil]), some ([.fnil]), some ([.sn]), some ([.fnil]), some ([.fnil]), some ([.fnil]), some ([.fnil]), some ([.fnil]), some ([.fnil]), some ([.fnil]), some ([.fnil]), some ([.fnil]), some ([.fnil]), some ([.fnil]), some ([.fnil]), some ([.fnil]), some ([.fnil]), some ([.fnil]), some ([.fnil]), some ([.pn, .pn, .pn, .str ⟨#[]⟩]), some ([.pn, .pn, .pn, .str ⟨#[]⟩]), some ([]), some ([]), some ([]), some ([.fnil]), some ([.u32 0]), some ([.u8 0]), some ([.u8 0]), some ([.fnil]), some ([.pn]), some ([.i .i32 0]), some ([.i .i32 0]), some ([.u64 0, .u64 0, .u32 0, .u8 0, .u8 0, .u8 0, .u8 0, .fnil, .pn, .i .i32 0, .i .i32 0]), some ([.u64 0, .u64 0, .u32 0, .u8 0, .u8 0, .u8 0, .u8 0, .fnil, .pn, .i .i32 0, .i .i32 0]), none]
  fo := [[], [], [], [], [], [], [], [(0, 1, 2), (1, 1, 3), (2, 1, 4), (3, 1, 6)], [(0, 1, 2), (1, 1, 3), (2, 1, 4), (3, 1, 6)], [], [], [], [], [(0, 1, 9), (1, 1, 12)], [(0, 1, 9), (1, 1, 12)], [], [], [], [(0, 1, 17)], [(0, 1, 17)], [], [], [], [], [], [], [(0, 1, 22), (1, 1, 23)], [(0, 1, 22), (1, 1, 23)], [], [], [], [], [], [], [], [], [], [(0, 1, 3), (1, 1, 3)], [(0, 1, 3), (1, 1, 3)], [(0, 1, 35), (1, 1, 3), (2, 1, 3), (3, 1, 3), (4, 1, 36), (5, 1, 36), (6, 2, 38)], [(0, 1, 35), (1, 1, 3), (2, 1, 3), (3, 1, 3), (4, 1, 36), (5, 1, 36), (6, 2, 38)], [], [], [], [], [], [(0, 1, 3), (1, 1, 36), (2, 1, 36)], [(0, 1, 3), (1, 1, 36), (2, 1, 36)], [(0, 3, 47), (3, 1, 3)], [(0, 3, 47), (3, 1, 3)], [(0, 1, 3), (1, 1, 3), (2, 1, 3), (3, 1, 35), (4, 4, 49)], [(0, 1, 3), (1, 1, 3), (2, 1, 3), (3, 1, 35), (4, 4, 49)], [], [], [(0, 1, 3), (1, 1, 35), (2, 1, 53)], [(0, 1, 3), (1, 1, 35), (2, 1, 53)], [], [], [], [], [], [], [(0, 1, 22), (1, 1, 23)], [(0, 1, 22), (1, 1, 23)], [], [], [], [], [], [], [], [], [], [], [(0, 1, 25), (1, 1, 29)], [(0, 1, 25), (1, 1, 29)], [], [], [], [], [], [], [], [], [], [], [], [], [], [], [], [], [], [], [], [], [], [], [], [], [], [], [], [], [], [], [], [], [], [], [], [], [], [], [], [], [], [], [], [], [], [], [], [], [(0, 1, 17), (1, 1, 17), (2, 1, 17), (3, 1, 9)], [(0, 1, 17), (1, 1, 17), (2, 1, 17), (3, 1, 9)], [], [], [], [], [], [], [], [], [], [], [], [(0, 1, 12), (1, 1, 12), (2, 1, 130), (3, 1, 131), (4, 1, 5), (5, 1, 5), (6, 1, 132), (7, 1, 133), (8, 1, 134), (9, 1, 135), (10, 1, 136)], [(0, 1, 12), (1, 1, 12), (2, 1, 130), (3, 1, 131), (4, 1, 5), (5, 1, 5), (6, 1, 132), (7, 1, 133), (8, 1, 134), (9, 1, 135), (10, 1, 136)], []]
  eqp := [false, false, false, false, false, false, false, true, true, false, false, false, false, true, true, false, false, false, true, true, false, false, false, false, false, false, true, true, false, false, false, false, false, false, false, false, false, true, true, true, true, false, false, false, false, false, true, true, true, true, true, true, false, false, true, true, false, false, false, false, false, false, true, true, false, false, false, false, false, false, false, false, false, false, true, true, false, false, false, false, false, false, false, false, false, false, false, false, false, false, false, false, false, false, false, false, false, false, false, false, false, false, false, false, false, false, false, false, false, false, false, false, false, false, false, false, false, false, false, false, false, false, false, false, true, true, true, true, true, false, false, false, false, false, false, false, false, true, true, false]
  eqk := [none, none, none, none, none, none, none, none, none, none, none, none, none, none, none, none, none, none, none, none, none, none, none, none, none, none, none, none, none, none, none, none, none, none, none, none, none, some ([.i64, .i64]), some ([.i64, .i64]), none, none, none, none, none, none, none, some ([.i64, .u64, .u64]), some ([.i64, .u64, .u64]), some ([.i64, .u64, .u64, .i64]), some ([.i64, .u64, .u64, .i64]), none, none, none, none, none, none, none, none, none, none, none, none, none, none, none, none, none, none, none, none, none, none, none, none, none, none, none, none, none, none, none, none, none, none, none, none, none, none, none, none, none, none, none, none, none, none, none, none, none, none, none, none, none, none, none, none, none, none, none, none, none, none, none, none, none, none, none, none, none, none, none, none, none, none, none, none, none, none, none, none, none, none, none, none, none, none, none, none, none, none]
theorem z1 : zeroOf Try.prog 1 = some ([.fnil]) ∧ ([.fnil] : List SV).all SV.one = true ∧ (Try.prog.info? 1).map (·.size) = some ([.fnil] : List SV).length := ⟨by kernel_rfl, by kernel_rfl, by kernel_rfl⟩
theorem z2 : zeroOf Try.prog 2 = some ([.i .i64 0]) ∧ ([.i .i64 0] : List SV).all SV.one = true ∧ (Try.prog.info? 2).map (·.size) = some ([.i .i64 0] : List SV).length := ⟨by kernel_rfl, by kernel_rfl, by kernel_rfl⟩
theorem z3 : zeroOf Try.prog 3 = some ([.i .i64 0]) ∧ ([.i .i64 0] : List SV).all SV.one = true ∧ (Try.prog.info? 3).map (·.size) = some ([.i .i64 0] : List SV).length := ⟨by kernel_rfl, by kernel_rfl, by kernel_rfl⟩
theorem z4 : zeroOf Try.prog 4 = some ([.b false]) ∧ ([.b false] : List SV).all SV.one = true ∧ (Try.prog.info? 4).map (·.size) = some ([.b false] : List SV).length := ⟨by kernel_rfl, by kernel_rfl, by kernel_rfl⟩
theorem z5 : zeroOf Try.prog 5 = some ([.u8 0]) ∧ ([.u8 0] : List SV).all SV.one = true ∧ (Try.prog.info? 5).map (·.size) = some ([.u8 0] : List SV).length := ⟨by kernel_rfl, by kernel_rfl, by kernel_rfl⟩
theorem z6 : zeroOf Try.prog 6 = some ([.u8 0]) ∧ ([.u8 0] : List SV).all SV.one = true ∧ (Try.prog.info? 6).map (·.size) = some ([.u8 0] : List SV).length := ⟨by kernel_rfl, by kernel_rfl, by kernel_rfl⟩
theorem z7 : zeroOf Try.prog 7 = some ([.i .i64 0, .i .i64 0, .b false, .u8 0]) ∧ ([.i .i64 0, .i .i64 0, .b false, .u8 0] : List SV).all SV.one = true ∧ (Try.prog.info? 7).map (·.size) = some ([.i .i64 0, .i .i64 0, .b false, .u8 0] : List SV).length := ⟨by kernel_rfl, by kernel_rfl, by kernel_rfl⟩
theorem z8 : zeroOf Try.prog 8 = some ([.i .i64 0, .i .i64 0, .b false, .u8 0]) ∧ ([.i .i64 0, .i .i64 0, .b false, .u8 0] : List SV).all SV.one = true ∧ (Try.prog.info? 8).map (·.size) = some ([.i .i64 0, .i .i64 0, .b false, .u8 0] : List SV).length := ⟨by kernel_rfl, by kernel_rfl, by kernel_rfl⟩
theorem z9 : zeroOf Try.prog 9 = some ([.str ⟨#[]⟩]) ∧ ([.str ⟨#[]⟩] : List SV).all SV.one = true ∧ (Try.prog.info? 9).map (·.size) = some ([.str ⟨#[]⟩] : List SV).length := ⟨by kernel_rfl, by kernel_rfl, by kernel_rfl⟩
theorem z10 : zeroOf Try.prog 10 = some ([.str ⟨#[]⟩]) ∧ ([.str ⟨#[]⟩] : List SV).all SV.one = true ∧ (Try.prog.info? 10).map (·.size) = some ([.str ⟨#[]⟩] : List SV).length := ⟨by kernel_rfl, by kernel_rfl, by kernel_rfl⟩
theorem z11 : zeroOf Try.prog 11 = some ([.str ⟨#[]⟩]) ∧ ([.str ⟨#[]⟩] : List SV).all SV.one = true ∧ (Try.prog.info? 11).map (·.size) = some ([.str ⟨#[]⟩] : List SV).length := ⟨by kernel_rfl, by kernel_rfl, by kernel_rfl⟩
theorem z12 : zeroOf Try.prog 12 = some ([.u64 0]) ∧ ([.u64 0] : List SV).all SV.one = true ∧ (Try.prog.info? 12).map (·.size) = some ([.u64 0] : List SV).length := ⟨by kernel_rfl, by kernel_rfl, by kernel_rfl⟩
theorem z13 : zeroOf Try.prog 13 = some ([.str ⟨#[]⟩, .u64 0]) ∧ ([.str ⟨#[]⟩, .u64 0] : List SV).all SV.one = true ∧ (Try.prog.info? 13).map (·.size) = some ([.str ⟨#[]⟩, .u64 0] : List SV).length := ⟨by kernel_rfl, by kernel_rfl, by kernel_rfl⟩
theorem z14 : zeroOf Try.prog 14 = some ([.str ⟨#[]⟩, .u64 0]) ∧ ([.str ⟨#[]⟩, .u64 0] : List SV).all SV.one = true ∧ (Try.prog.info? 14).map (·.size) = some ([.str ⟨#[]⟩, .u64 0] : List SV).length := ⟨by kernel_rfl, by kernel_rfl, by kernel_rfl⟩
theorem z15 : zeroOf Try.prog 15 = some ([.pn]) ∧ ([.pn] : List SV).all SV.one = true ∧ (Try.prog.info? 15).map (·.size) = some ([.pn] : List SV).length := ⟨by kernel_rfl, by kernel_rfl, by kernel_rfl⟩
theorem z16 : zeroOf Try.prog 16 = some ([.pn]) ∧ ([.pn] : List SV).all SV.one = true ∧ (Try.prog.info? 16).map (·.size) = some ([.pn] : List SV).length := ⟨by kernel_rfl, by kernel_rfl, by kernel_rfl⟩
theorem z17 : zeroOf Try.prog 17 = some ([.pn]) ∧ ([.pn] : List SV).all SV.one = true ∧ (Try.prog.info? 17).map (·.size) = some ([.pn] : List SV).length := ⟨by kernel_rfl, by kernel_rfl, by kernel_rfl⟩
theorem z18 : zeroOf Try.prog 18 = some ([.pn]) ∧ ([.pn] : List SV).all SV.one = true ∧ (Try.prog.info? 18).map (·.size) = some ([.pn] : List SV).length := ⟨by kernel_rfl, by kernel_rfl, by kernel_rfl⟩
theorem z19 : zeroOf Try.prog 19 = some ([.pn]) ∧ ([.pn] : List SV).all SV.one = true ∧ (Try.prog.info? 19).map (·.size) = some ([.pn] : List SV).length := ⟨by kernel_rfl, by kernel_rfl, by kernel_rfl⟩
theorem z20 : zeroOf Try.prog 20 = some ([.inil]) ∧ ([.inil] : List SV).all SV.one = true ∧ (Try.prog.info? 20).map (·.size) = some ([.inil] : List SV).length := ⟨by kernel_rfl, by kernel_rfl, by kernel_rfl⟩
theorem z21 : zeroOf Try.prog 21 = some ([.i .i32 0]) ∧ ([.i .i32 0] : List SV).all SV.one = true ∧ (Try.prog.info? 21).map (·.size) = some ([.i .i32 0] : List SV).length := ⟨by kernel_rfl, by kernel_rfl, by kernel_rfl⟩
theorem z22 : zeroOf Try.prog 22 = some ([.sn]) ∧ ([.sn] : List SV).all SV.one = true ∧ (Try.prog.info? 22).map (·.size) = some ([.sn] : List SV).length := ⟨by kernel_rfl, by kernel_rfl, by kernel_rfl⟩
theorem z23 : zeroOf Try.prog 23 = some ([.sn]) ∧ ([.sn] : List SV).all SV.one = true ∧ (Try.prog.info? 23).map (·.size) = some ([.sn] : List SV).length := ⟨by kernel_rfl, by kernel_rfl, by kernel_rfl⟩
theorem z24 : zeroOf Try.prog 24 = some ([.sn]) ∧ ([.sn] : List SV).all SV.one = true ∧ (Try.prog.info? 24).map (·.size) = some ([.sn] : List SV).length := ⟨by kernel_rfl, by kernel_rfl, by kernel_rfl⟩
theorem z25 : zeroOf Try.prog 25 = some ([.fnil]) ∧ ([.fnil] : List SV).all SV.one = true ∧ (Try.prog.info? 25).map (·.size) = some ([.fnil] : List SV).length := ⟨by kernel_rfl, by kernel_rfl, by kernel_rfl⟩
theorem z26 : zeroOf Try.prog 26 = some ([.sn, .sn]) ∧ ([.sn, .sn] : List SV).all SV.one = true ∧ (Try.prog.info? 26).map (·.size) = some ([.sn, .sn] : List SV).length := ⟨by kernel_rfl, by kernel_rfl, by kernel_rfl⟩
theorem z27 : zeroOf Try.prog 27 = some ([.sn, .sn]) ∧ ([.sn, .sn] : List SV).all SV.one = true ∧ (Try.prog.info? 27).map (·.size) = some ([.sn, .sn] : List SV).length := ⟨by kernel_rfl, by kernel_rfl, by kernel_rfl⟩
theorem z28 : zeroOf Try.prog 28 = some ([.fnil]) ∧ ([.fnil] : List SV).all SV.one = true ∧ (Try.prog.info? 28).map (·.size) = some ([.fnil] : List SV).length := ⟨by kernel_rfl, by kernel_rfl, by kernel_rfl⟩
theorem z29 : zeroOf Try.prog 29 = some ([.i .i64 0]) ∧ ([.i .i64 0] : List SV).all SV.one = true ∧ (Try.prog.info? 29).map (·.size) = some ([.i .i64 0] : List SV).length := ⟨by kernel_rfl, by kernel_rfl, by kernel_rfl⟩
theorem z31 : zeroOf Try.prog 31 = some ([.fnil]) ∧ ([.fnil] : List SV).all SV.one = true ∧ (Try.prog.info? 31).map (·.size) = some ([.fnil] : List SV).length := ⟨by kernel_rfl, by kernel_rfl, by kernel_rfl⟩
theorem z32 : zeroOf Try.prog 32 = some ([.fnil]) ∧ ([.fnil] : List SV).all SV.one = true ∧ (Try.prog.info? 32).map (·.size) = some ([.fnil] : List SV).length := ⟨by kernel_rfl, by kernel_rfl, by kernel_rfl⟩
theorem z33 : zeroOf Try.prog 33 = some ([.fnil]) ∧ ([.fnil] : List SV).all SV.one = true ∧ (Try.prog.info? 33).map (·.size) = some ([.fnil] : List SV).length := ⟨by kernel_rfl, by kernel_rfl, by kernel_rfl⟩
theorem z34 : zeroOf Try.prog 34 = some ([.sn]) ∧ ([.sn] : List SV).all SV.one = true ∧ (Try.prog.info? 34).map (·.size) = some ([.sn] : List SV).length := ⟨by kernel_rfl, by kernel_rfl, by kernel_rfl⟩
theorem z35 : zeroOf Try.prog 35 = some ([.sn]) ∧ ([.sn] : List SV).all SV.one = true ∧ (Try.prog.info? 35).map (·.size) = some ([.sn] : List SV).length := ⟨by kernel_rfl, by kernel_rfl, by kernel_rfl⟩
theorem z36 : zeroOf Try.prog 36 = some ([.u64 0]) ∧ ([.u64 0] : List SV).all SV.one = true ∧ (Try.prog.info? 36).map (·.size) = some ([.u64 0] : List SV).length := ⟨by kernel_rfl, by kernel_rfl, by kernel_rfl⟩
theorem z37 : zeroOf Try.prog 37 = some ([.i .i64 0, .i .i64 0]) ∧ ([.i .i64 0, .i .i64 0] : List SV).all SV.one = true ∧ (Try.prog.info? 37).map (·.size) = some ([.i .i64 0, .i .i64 0] : List SV).length := ⟨by kernel_rfl, by kernel_rfl, by kernel_rfl⟩
theorem z38 : zeroOf Try.prog 38 = some ([.i .i64 0, .i .i64 0]) ∧ ([.i .i64 0, .i .i64 0] : List SV).all SV.one = true ∧ (Try.prog.info? 38).map (·.size) = some ([.i .i64 0, .i .i64 0] : List SV).length := ⟨by kernel_rfl, by kernel_rfl, by kernel_rfl⟩
theorem z39 : zeroOf Try.prog 39 = some ([.sn, .i .i64 0, .i .i64 0, .i .i64 0, .u64 0, .u64 0, .i .i64 0, .i .i64 0]) ∧ ([.sn, .i .i64 0, .i .i64 0, .i .i64 0, .u64 0, .u64 0, .i .i64 0, .i .i64 0] : List SV).all SV.one = true ∧ (Try.prog.info? 39).map (·.size) = some ([.sn, .i .i64 0, .i .i64 0, .i .i64 0, .u64 0, .u64 0, .i .i64 0, .i .i64 0] : List SV).length := ⟨by kernel_rfl, by kernel_rfl, by kernel_rfl⟩
theorem z40 : zeroOf Try.prog 40 = some ([.sn, .i .i64 0, .i .i64 0, .i .i64 0, .u64 0, .u64 0, .i .i64 0, .i .i64 0]) ∧ ([.sn, .i .i64 0, .i .i64 0, .i .i64 0, .u64 0, .u64 0, .i .i64 0, .i .i64 0] : List SV).all SV.one = true ∧ (Try.prog.info? 40).map (·.size) = some ([.sn, .i .i64 0, .i .i64 0, .i .i64 0, .u64 0, .u64 0, .i .i64 0, .i .i64 0] : List SV).length := ⟨by kernel_rfl, by kernel_rfl, by kernel_rfl⟩
theorem z42 : zeroOf Try.prog 42 = some ([.fnil]) ∧ ([.fnil] : List SV).all SV.one = true ∧ (Try.prog.info? 42).map (·.size) = some ([.fnil] : List SV).length := ⟨by kernel_rfl, by kernel_rfl, by kernel_rfl⟩
theorem z43 : zeroOf Try.prog 43 = some ([.fnil]) ∧ ([.fnil] : List SV).all SV.one = true ∧ (Try.prog.info? 43).map (·.size) = some ([.fnil] : List SV).length := ⟨by kernel_rfl, by kernel_rfl, by kernel_rfl⟩
theorem z44 : zeroOf Try.prog 44 = some ([.fnil]) ∧ ([.fnil] : List SV).all SV.one = true ∧ (Try.prog.info? 44).map (·.size) = some ([.fnil] : List SV).length := ⟨by kernel_rfl, by kernel_rfl, by kernel_rfl⟩
theorem z45 : zeroOf Try.prog 45 = some ([.fnil]) ∧ ([.fnil] : List SV).all SV.one = true ∧ (Try.prog.info? 45).map (·.size) = some ([.fnil] : List SV).length := ⟨by kernel_rfl, by kernel_rfl, by kernel_rfl⟩
theorem z46 : zeroOf Try.prog 46 = some ([.i .i64 0, .u64 0, .u64 0]) ∧ ([.i .i64 0, .u64 0, .u64 0] : List SV).all SV.one = true ∧ (Try.prog.info? 46).map (·.size) = some ([.i .i64 0, .u64 0, .u64 0] : List SV).length := ⟨by kernel_rfl, by kernel_rfl, by kernel_rfl⟩
theorem z47 : zeroOf Try.prog 47 = some ([.i .i64 0, .u64 0, .u64 0]) ∧ ([.i .i64 0, .u64 0, .u64 0] : List SV).all SV.one = true ∧ (Try.prog.info? 47).map (·.size) = some ([.i .i64 0, .u64 0, .u64 0] : List SV).length := ⟨by kernel_rfl, by kernel_rfl, by kernel_rfl⟩
theorem z48 : zeroOf Try.prog 48 = some ([.i .i64 0, .u64 0, .u64 0, .i .i64 0]) ∧ ([.i .i64 0, .u64 0, .u64 0, .i .i64 0] : List SV).all SV.one = true ∧ (Try.prog.info? 48).map (·.size) = some ([.i .i64 0, .u64 0, .u64 0, .i .i64 0] : List SV).length := ⟨by kernel_rfl, by kernel_rfl, by kernel_rfl⟩
theorem z49 : zeroOf Try.prog 49 = some ([.i .i64 0, .u64 0, .u64 0, .i .i64 0]) ∧ ([.i .i64 0, .u64 0, .u64 0, .i .i64 0] : List SV).all SV.one = true ∧ (Try.prog.info? 49).map (·.size) = some ([.i .i64 0, .u64 0, .u64 0, .i .i64 0] : List SV).length := ⟨by kernel_rfl, by kernel_rfl, by kernel_rfl⟩
theorem z50 : zeroOf Try.prog 50 = some ([.i .i64 0, .i .i64 0, .i .i64 0, .sn, .i .i64 0, .u64 0, .u64 0, .i .i64 0]) ∧ ([.i .i64 0, .i .i64 0, .i .i64 0, .sn, .i .i64 0, .u64 0, .u64 0, .i .i64 0] : List SV).all SV.one = true ∧ (Try.prog.info? 50).map (·.size) = some ([.i .i64 0, .i .i64 0, .i .i64 0, .sn, .i .i64 0, .u64 0, .u64 0, .i .i64 0] : List SV).length := ⟨by kernel_rfl, by kernel_rfl, by kernel_rfl⟩
theorem z51 : zeroOf Try.prog 51 = some ([.i .i64 0, .i .i64 0, .i .i64 0, .sn, .i .i64 0, .u64 0, .u64 0, .i .i64 0]) ∧ ([.i .i64 0, .i .i64 0, .i .i64 0, .sn, .i .i64 0, .u64 0, .u64 0, .i .i64 0] : List SV).all SV.one = true ∧ (Try.prog.info? 51).map (·.size) = some ([.i .i64 0, .i .i64 0, .i .i64 0, .sn, .i .i64 0, .u64 0, .u64 0, .i .i64 0] : List SV).length := ⟨by kernel_rfl, by kernel_rfl, by kernel_rfl⟩
theorem z52 : zeroOf Try.prog 52 = some ([.fnil]) ∧ ([.fnil] : List SV).all SV.one = true ∧ (Try.prog.info? 52).map (·.size) = some ([.fnil] : List SV).length := ⟨by kernel_rfl, by kernel_rfl, by kernel_rfl⟩
theorem z53 : zeroOf Try.prog 53 = some ([.sn]) ∧ ([.sn] : List SV).all SV.one = true ∧ (Try.prog.info? 53).map (·.size) = some ([.sn] : List SV).length := ⟨by kernel_rfl, by kernel_rfl, by kernel_rfl⟩
theorem z54 : zeroOf Try.prog 54 = some ([.i .i64 0, .sn, .sn]) ∧ ([.i .i64 0, .sn, .sn] : List SV).all SV.one = true ∧ (Try.prog.info? 54).map (·.size) = some ([.i .i64 0, .sn, .sn] : List SV).length := ⟨by kernel_rfl, by kernel_rfl, by kernel_rfl⟩
theorem z55 : zeroOf Try.prog 55 = some ([.i .i64 0, .sn, .sn]) ∧ ([.i .i64 0, .sn, .sn] : List SV).all SV.one = true ∧ (Try.prog.info? 55).map (·.size) = some ([.i .i64 0, .sn, .sn] : List SV).length := ⟨by kernel_rfl, by kernel_rfl, by kernel_rfl⟩
theorem z56 : zeroOf Try.prog 56 = some ([.fnil]) ∧ ([.fnil] : List SV).all SV.one = true ∧ (Try.prog.info? 56).map (·.size) = some ([.fnil] : List SV).length := ⟨by kernel_rfl, by kernel_rfl, by kernel_rfl⟩
theorem z57 : zeroOf Try.prog 57 = some ([.fnil]) ∧ ([.fnil] : List SV).all SV.one = true ∧ (Try.prog.info? 57).map (·.size) = some ([.fnil] : List SV).length := ⟨by kernel_rfl, by kernel_rfl, by kernel_rfl⟩
theorem z58 : zeroOf Try.prog 58 = some ([.pn]) ∧ ([.pn] : List SV).all SV.one = true ∧ (Try.prog.info? 58).map (·.size) = some ([.pn] : List SV).length := ⟨by kernel_rfl, by kernel_rfl, by kernel_rfl⟩
theorem z59 : zeroOf Try.prog 59 = some ([.fnil]) ∧ ([.fnil] : List SV).all SV.one = true ∧ (Try.prog.info? 59).map (·.size) = some ([.fnil] : List SV).length := ⟨by kernel_rfl, by kernel_rfl, by kernel_rfl⟩
theorem z60 : zeroOf Try.prog 60 = some ([.fnil]) ∧ ([.fnil] : List SV).all SV.one = true ∧ (Try.prog.info? 60).map (·.size) = some ([.fnil] : List SV).length := ⟨by kernel_rfl, by kernel_rfl, by kernel_rfl⟩
theorem z61 : zeroOf Try.prog 61 = some ([.fnil]) ∧ ([.fnil] : List SV).all SV.one = true ∧ (Try.prog.info? 61).map (·.size) = some ([.fnil] : List SV).length := ⟨by kernel_rfl, by kernel_rfl, by kernel_rfl⟩
theorem z62 : zeroOf Try.prog 62 = some ([.sn, .sn]) ∧ ([.sn, .sn] : List SV).all SV.one = true ∧ (Try.prog.info? 62).map (·.size) = some ([.sn, .sn] : List SV).length := ⟨by kernel_rfl, by kernel_rfl, by kernel_rfl⟩
theorem z63 : zeroOf Try.prog 63 = some ([.sn, .sn]) ∧ ([.sn, .sn] : List SV).all SV.one = true ∧ (Try.prog.info? 63).map (·.size) = some ([.sn, .sn] : List SV).length := ⟨by kernel_rfl, by kernel_rfl, by kernel_rfl⟩
theorem z64 : zeroOf Try.prog 64 = some ([.fnil]) ∧ ([.fnil] : List SV).all SV.one = true ∧ (Try.prog.info? 64).map (·.size) = some ([.fnil] : List SV).length := ⟨by kernel_rfl, by kernel_rfl, by kernel_rfl⟩
theorem z65 : zeroOf Try.prog 65 = some ([.fnil]) ∧ ([.fnil] : List SV).all SV.one = true ∧ (Try.prog.info? 65).map (·.size) = some ([.fnil] : List SV).length := ⟨by kernel_rfl, by kernel_rfl, by kernel_rfl⟩
theorem z66 : zeroOf Try.prog 66 = some ([.fnil]) ∧ ([.fnil] : List SV).all SV.one = true ∧ (Try.prog.info? 66).map (·.size) = some ([.fnil] : List SV).length := ⟨by kernel_rfl, by kernel_rfl, by kernel_rfl⟩
theorem z67 : zeroOf Try.prog 67 = some ([.fnil]) ∧ ([.fnil] : List SV).all SV.one = true ∧ (Try.prog.info? 67).map (·.size) = some ([.fnil] : List SV).length := ⟨by kernel_rfl, by kernel_rfl, by kernel_rfl⟩
theorem z68 : zeroOf Try.prog 68 = some ([.fnil]) ∧ ([.fnil] : List SV).all SV.one = true ∧ (Try.prog.info? 68).map (·.size) = some ([.fnil] : List SV).length := ⟨by kernel_rfl, by kernel_rfl, by kernel_rfl⟩
theorem z69 : zeroOf Try.prog 69 = some ([.fnil]) ∧ ([.fnil] : List SV).all SV.one = true ∧ (Try.prog.info? 69).map (·.size) = some ([.fnil] : List SV).length := ⟨by kernel_rfl, by kernel_rfl, by kernel_rfl⟩
theorem z70 : zeroOf Try.prog 70 = some ([.fnil]) ∧ ([.fnil] : List SV).all SV.one = true ∧ (Try.prog.info? 70).map (·.size) = some ([.fnil] : List SV).length := ⟨by kernel_rfl, by kernel_rfl, by kernel_rfl⟩
theorem z71 : zeroOf Try.prog 71 = some ([.fnil]) ∧ ([.fnil] : List SV).all SV.one = true ∧ (Try.prog.info? 71).map (·.size) = some ([.fnil] : List SV).length := ⟨by kernel_rfl, by kernel_rfl, by kernel_rfl⟩
theorem z72 : zeroOf Try.prog 72 = some ([.sn]) ∧ ([.sn] : List SV).all SV.one = true ∧ (Try.prog.info? 72).map (·.size) = some ([.sn] : List SV).length := ⟨by kernel_rfl, by kernel_rfl, by kernel_rfl⟩
theorem z73 : zeroOf Try.prog 73 = some ([.fnil]) ∧ ([.fnil] : List SV).all SV.one = true ∧ (Try.prog.info? 73).map (·.size) = some ([.fnil] : List SV).length := ⟨by kernel_rfl, by kernel_rfl, by kernel_rfl⟩
theorem z74 : zeroOf Try.prog 74 = some ([.fnil, .i .i64 0]) ∧ ([.fnil, .i .i64 0] : List SV).all SV.one = true ∧ (Try.prog.info? 74).map (·.size) = some ([.fnil, .i .i64 0] : List SV).length := ⟨by kernel_rfl, by kernel_rfl, by kernel_rfl⟩
theorem z75 : zeroOf Try.prog 75 = some ([.fnil, .i .i64 0]) ∧ ([.fnil, .i .i64 0] : List SV).all SV.one = true ∧ (Try.prog.info? 75).map (·.size) = some ([.fnil, .i .i64 0] : List SV).length := ⟨by kernel_rfl, by kernel_rfl, by kernel_rfl⟩
theorem z77 : zeroOf Try.prog 77 = some ([.fnil]) ∧ ([.fnil] : List SV).all SV.one = true ∧ (Try.prog.info? 77).map (·.size) = some ([.fnil] : List SV).length := ⟨by kernel_rfl, by kernel_rfl, by kernel_rfl⟩
theorem z78 : zeroOf Try.prog 78 = some ([.fnil]) ∧ ([.fnil] : List SV).all SV.one = true ∧ (Try.prog.info? 78).map (·.size) = some ([.fnil] : List SV).length := ⟨by kernel_rfl, by kernel_rfl, by kernel_rfl⟩
theorem z79 : zeroOf Try.prog 79 = some ([.fnil]) ∧ ([.fnil] : List SV).all SV.one = true ∧ (Try.prog.info? 79).map (·.size) = some ([.fnil] : List SV).length := ⟨by kernel_rfl, by kernel_rfl, by kernel_rfl⟩
theorem z80 : zeroOf Try.prog 80 = some ([.fnil]) ∧ ([.fnil] : List SV).all SV.one = true ∧ (Try.prog.info? 80).map (·.size) = some ([.fnil] : List SV).length := ⟨by kernel_rfl, by kernel_rfl, by kernel_rfl⟩
theorem z81 : zeroOf Try.prog 81 = some ([.fnil]) ∧ ([.fnil] : List SV).all SV.one = true ∧ (Try.prog.info? 81).map (·.size) = some ([.fnil] : List SV).length := ⟨by kernel_rfl, by kernel_rfl, by kernel_rfl⟩
theorem z82 : zeroOf Try.prog 82 = some ([.fnil]) ∧ ([.fnil] : List SV).all SV.one = true ∧ (Try.prog.info? 82).map (·.size) = some ([.fnil] : List SV).length := ⟨by kernel_rfl, by kernel_rfl, by kernel_rfl⟩
theorem z83 : zeroOf Try.prog 83 = some ([.fnil]) ∧ ([.fnil] : List SV).all SV.one = true ∧ (Try.prog.info? 83).map (·.size) = some ([.fnil] : List SV).length := ⟨by kernel_rfl, by kernel_rfl, by kernel_rfl⟩
theorem z84 : zeroOf Try.prog 84 = some ([.fnil]) ∧ ([.fnil] : List SV).all SV.one = true ∧ (Try.prog.info? 84).map (·.size) = some ([.fnil] : List SV).length := ⟨by kernel_rfl, by kernel_rfl, by kernel_rfl⟩
theorem z85 : zeroOf Try.prog 85 = some ([.fnil]) ∧ ([.fnil] : List SV).all SV.one = true ∧ (Try.prog.info? 85).map (·.size) = some ([.fnil] : List SV).length := ⟨by kernel_rfl, by kernel_rfl, by kernel_rfl⟩
theorem z86 : zeroOf Try.prog 86 = some ([.fnil]) ∧ ([.fnil] : List SV).all SV.one = true ∧ (Try.prog.info? 86).map (·.size) = some ([.fnil] : List SV).length := ⟨by kernel_rfl, by kernel_rfl, by kernel_rfl⟩
theorem z87 : zeroOf Try.prog 87 = some ([.fnil]) ∧ ([.fnil] : List SV).all SV.one = true ∧ (Try.prog.info? 87).map (·.size) = some ([.fnil] : List SV).length := ⟨by kernel_rfl, by kernel_rfl, by kernel_rfl⟩
theorem z88 : zeroOf Try.prog 88 = some ([.fnil]) ∧ ([.fnil] : List SV).all SV.one = true ∧ (Try.prog.info? 88).map (·.size) = some ([.fnil] : List SV).length := ⟨by kernel_rfl, by kernel_rfl, by kernel_rfl⟩
theorem z89 : zeroOf Try.prog 89 = some ([.fnil]) ∧ ([.fnil] : List SV).all SV.one = true ∧ (Try.prog.info? 89).map (·.size) = some ([.fnil] : List SV).length := ⟨by kernel_rfl, by kernel_rfl, by kernel_rfl⟩
theorem z90 : zeroOf Try.prog 90 = some ([.sn]) ∧ ([.sn] : List SV).all SV.one = true ∧ (Try.prog.info? 90).map (·.size) = some ([.sn] : List SV).length := ⟨by kernel_rfl, by kernel_rfl, by kernel_rfl⟩
theorem z91 : zeroOf Try.prog 91 = some ([.fnil]) ∧ ([.fnil] : List SV).all SV.one = true ∧ (Try.prog.info? 91).map (·.size) = some ([.fnil] : List SV).length := ⟨by kernel_rfl, by kernel_rfl, by kernel_rfl⟩
theorem z92 : zeroOf Try.prog 92 = some ([.fnil]) ∧ ([.fnil] : List SV).all SV.one = true ∧ (Try.prog.info? 92).map (·.size) = some ([.fnil] : List SV).length := ⟨by kernel_rfl, by kernel_rfl, by kernel_rfl⟩
theorem z93 : zeroOf Try.prog 93 = some ([.fnil]) ∧ ([.fnil] : List SV).all SV.one = true ∧ (Try.prog.info? 93).map (·.size) = some ([.fnil] : List SV).length := ⟨by kernel_rfl, by kernel_rfl, by kernel_rfl⟩
theorem z94 : zeroOf Try.prog 94 = some ([.fnil]) ∧ ([.fnil] : List SV).all SV.one = true ∧ (Try.prog.info? 94).map (·.size) = some ([.fnil] : List SV).length := ⟨by kernel_rfl, by kernel_rfl, by kernel_rfl⟩
theorem z95 : zeroOf Try.prog 95 = some ([.fnil]) ∧ ([.fnil] : List SV).all SV.one = true ∧ (Try.prog.info? 95).map (·.size) = some ([.fnil] : List SV).length := ⟨by kernel_rfl, by kernel_rfl, by kernel_rfl⟩
theorem z96 : zeroOf Try.prog 96 = some ([.fnil]) ∧ ([.fnil] : List SV).all SV.one = true ∧ (Try.prog.info? 96).map (·.size) = some ([.fnil] : List SV).length := ⟨by kernel_rfl, by kernel_rfl, by kernel_rfl⟩
theorem z97 : zeroOf Try.prog 97 = some ([.fnil]) ∧ ([.fnil] : List SV).all SV.one = true ∧ (Try.prog.info? 97).map (·.size) = some ([.fnil] : List SV).length := ⟨by kernel_rfl, by kernel_rfl, by kernel_rfl⟩
theorem z98 : zeroOf Try.prog 98 = some ([.fnil]) ∧ ([.fnil] : List SV).all SV.one = true ∧ (Try.prog.info? 98).map (·.size) = some ([.fnil] : List SV).length := ⟨by kernel_rfl, by kernel_rfl, by kernel_rfl⟩
theorem z99 : zeroOf Try.prog 99 = some ([.fnil]) ∧ ([.fnil] : List SV).all SV.one = true ∧ (Try.prog.info? 99).map (·.size) = some ([.fnil] : List SV).length := ⟨by kernel_rfl, by kernel_rfl, by kernel_rfl⟩
theorem z100 : zeroOf Try.prog 100 = some ([.fnil]) ∧ ([.fnil] : List SV).all SV.one = true ∧ (Try.prog.info? 100).map (·.size) = some ([.fnil] : List SV).length := ⟨by kernel_rfl, by kernel_rfl, by kernel_rfl⟩
theorem z101 : zeroOf Try.prog 101 = some ([.pn]) ∧ ([.pn] : List SV).all SV.one = true ∧ (Try.prog.info? 101).map (·.size) = some ([.pn] : List SV).length := ⟨by kernel_rfl, by kernel_rfl, by kernel_rfl⟩
theorem z102 : zeroOf Try.prog 102 = some ([.u64 0]) ∧ ([.u64 0] : List SV).all SV.one = true ∧ (Try.prog.info? 102).map (·.size) = some ([.u64 0] : List SV).length := ⟨by kernel_rfl, by kernel_rfl, by kernel_rfl⟩
theorem z103 : zeroOf Try.prog 103 = some ([.fnil]) ∧ ([.fnil] : List SV).all SV.one = true ∧ (Try.prog.info? 103).map (·.size) = some ([.fnil] : List SV).length := ⟨by kernel_rfl, by kernel_rfl, by kernel_rfl⟩
theorem z104 : zeroOf Try.prog 104 = some ([.fnil]) ∧ ([.fnil] : List SV).all SV.one = true ∧ (Try.prog.info? 104).map (·.size) = some ([.fnil] : List SV).length := ⟨by kernel_rfl, by kernel_rfl, by kernel_rfl⟩
theorem z105 : zeroOf Try.prog 105 = some ([.fnil]) ∧ ([.fnil] : List SV).all SV.one = true ∧ (Try.prog.info? 105).map (·.size) = some ([.fnil] : List SV).length := ⟨by kernel_rfl, by kernel_rfl, by kernel_rfl⟩
theorem z106 : zeroOf Try.prog 106 = some ([.fnil]) ∧ ([.fnil] : List SV).all SV.one = true ∧ (Try.prog.info? 106).map (·.size) = some ([.fnil] : List SV).length := ⟨by kernel_rfl, by kernel_rfl, by kernel_rfl⟩
theorem z107 : zeroOf Try.prog 107 = some ([.sn]) ∧ ([.sn] : List SV).all SV.one = true ∧ (Try.prog.info? 107).map (·.size) = some ([.sn] : List SV).length := ⟨by kernel_rfl, by kernel_rfl, by kernel_rfl⟩
theorem z108 : zeroOf Try.prog 108 = some ([.fnil]) ∧ ([.fnil] : List SV).all SV.one = true ∧ (Try.prog.info? 108).map (·.size) = some ([.fnil] : List SV).length := ⟨by kernel_rfl, by kernel_rfl, by kernel_rfl⟩
theorem z109 : zeroOf Try.prog 109 = some ([.fnil]) ∧ ([.fnil] : List SV).all SV.one = true ∧ (Try.prog.info? 109).map (·.size) = some ([.fnil] : List SV).length := ⟨by kernel_rfl, by kernel_rfl, by kernel_rfl⟩
theorem z110 : zeroOf Try.prog 110 = some ([.fnil]) ∧ ([.fnil] : List SV).all SV.one = true ∧ (Try.prog.info? 110).map (·.size) = some ([.fnil] : List SV).length := ⟨by kernel_rfl, by kernel_rfl, by kernel_rfl⟩
theorem z111 : zeroOf Try.prog 111 = some ([.fnil]) ∧ ([.fnil] : List SV).all SV.one = true ∧ (Try.prog.info? 111).map (·.size) = some ([.fnil] : List SV).length := ⟨by kernel_rfl, by kernel_rfl, by kernel_rfl⟩
theorem z112 : zeroOf Try.prog 112 = some ([.fnil]) ∧ ([.fnil] : List SV).all SV.one = true ∧ (Try.prog.info? 112).map (·.size) = some ([.fnil] : List SV).length := ⟨by kernel_rfl, by kernel_rfl, by kernel_rfl⟩
theorem z113 : zeroOf Try.prog 113 = some ([.fnil]) ∧ ([.fnil] : List SV).all SV.one = true ∧ (Try.prog.info? 113).map (·.size) = some ([.fnil] : List SV).length := ⟨by kernel_rfl, by kernel_rfl, by kernel_rfl⟩
theorem z114 : zeroOf Try.prog 114 = some ([.fnil]) ∧ ([.fnil] : List SV).all SV.one = true ∧ (Try.prog.info? 114).map (·.size) = some ([.fnil] : List SV).length := ⟨by kernel_rfl, by kernel_rfl, by kernel_rfl⟩
theorem z115 : zeroOf Try.prog 115 = some ([.fnil]) ∧ ([.fnil] : List SV).all SV.one = true ∧ (Try.prog.info? 115).map (·.size) = some ([.fnil] : List SV).length := ⟨by kernel_rfl, by kernel_rfl, by kernel_rfl⟩
theorem z116 : zeroOf Try.prog 116 = some ([.fnil]) ∧ ([.fnil] : List SV).all SV.one = true ∧ (Try.prog.info? 116).map (·.size) = some ([.fnil] : List SV).length := ⟨by kernel_rfl, by kernel_rfl, by kernel_rfl⟩
theorem z117 : zeroOf Try.prog 117 = some ([.fnil]) ∧ ([.fnil] : List SV).all SV.one = true ∧ (Try.prog.info? 117).map (·.size) = some ([.fnil] : List SV).length := ⟨by kernel_rfl, by kernel_rfl, by kernel_rfl⟩
theorem z118 : zeroOf Try.prog 118 = some ([.fnil]) ∧ ([.fnil] : List SV).all SV.one = true ∧ (Try.prog.info? 118).map (·.size) = some ([.fnil] : List SV).length := ⟨by kernel_rfl, by kernel_rfl, by kernel_rfl⟩
theorem z119 : zeroOf Try.prog 119 = some ([.fnil]) ∧ ([.fnil] : List SV).all SV.one = true ∧ (Try.prog.info? 119).map (·.size) = some ([.fnil] : List SV).length := ⟨by kernel_rfl, by kernel_rfl, by kernel_rfl⟩
theorem z120 : zeroOf Try.prog 120 = some ([.fnil]) ∧ ([.fnil] : List SV).all SV.one = true ∧ (Try.prog.info? 120).map (·.size) = some ([.fnil] : List SV).length := ⟨by kernel_rfl, by kernel_rfl, by kernel_rfl⟩
theorem z121 : zeroOf Try.prog 121 = some ([.fnil]) ∧ ([.fnil] : List SV).all SV.one = true ∧ (Try.prog.info? 121).map (·.size) = some ([.fnil] : List SV).length := ⟨by kernel_rfl, by kernel_rfl, by kernel_rfl⟩
theorem z122 : zeroOf Try.prog 122 = some ([.fnil]) ∧ ([.fnil] : List SV).all SV.one = true ∧ (Try.prog.info? 122).map (·.size) = some ([.fnil] : List SV).length := ⟨by kernel_rfl, by kernel_rfl, by kernel_rfl⟩
theorem z123 : zeroOf Try.prog 123 = some ([.fnil]) ∧ ([.fnil] : List SV).all SV.one = true ∧ (Try.prog.info? 123).map (·.size) = some ([.fnil] : List SV).length := ⟨by kernel_rfl, by kernel_rfl, by kernel_rfl⟩
theorem z124 : zeroOf Try.prog 124 = some ([.pn, .pn, .pn, .str ⟨#[]⟩]) ∧ ([.pn, .pn, .pn, .str ⟨#[]⟩] : List SV).all SV.one = true ∧ (Try.prog.info? 124).map (·.size) = some ([.pn, .pn, .pn, .str ⟨#[]⟩] : List SV).length := ⟨by kernel_rfl, by kernel_rfl, by kernel_rfl⟩
theorem z125 : zeroOf Try.prog 125 = some ([.pn, .pn, .pn, .str ⟨#[]⟩]) ∧ ([.pn, .pn, .pn, .str ⟨#[]⟩] : List SV).all SV.one = true ∧ (Try.prog.info? 125).map (·.size) = some ([.pn, .pn, .pn, .str ⟨#[]⟩] : List SV).length := ⟨by kernel_rfl, by kernel_rfl, by kernel_rfl⟩
theorem z126 : zeroOf Try.prog 126 = some ([]) ∧ ([] : List SV).all SV.one = true ∧ (Try.prog.info? 126).map (·.size) = some ([] : List SV).length := ⟨by kernel_rfl, by kernel_rfl, by kernel_rfl⟩
theorem z127 : zeroOf Try.prog 127 = some ([]) ∧ ([] : List SV).all SV.one = true ∧ (Try.prog.info? 127).map (·.size) = some ([] : List SV).length := ⟨by kernel_rfl, by kernel_rfl, by kernel_rfl⟩
theorem z128 : zeroOf Try.prog 128 = some ([]) ∧ ([] : List SV).all SV.one = true ∧ (Try.prog.info? 128).map (·.size) = some ([] : List SV).length := ⟨by kernel_rfl, by kernel_rfl, by kernel_rfl⟩
theorem z129 : zeroOf Try.prog 129 = some ([.fnil]) ∧ ([.fnil] : List SV).all SV.one = true ∧ (Try.prog.info? 129).map (·.size) = some ([.fnil] : List SV).length := ⟨by kernel_rfl, by kernel_rfl, by kernel_rfl⟩
theorem z130 : zeroOf Try.prog 130 = some ([.u32 0]) ∧ ([.u32 0] : List SV).all SV.one = true ∧ (Try.prog.info? 130).map (·.size) = some ([.u32 0] : List SV).length := ⟨by kernel_rfl, by kernel_rfl, by kernel_rfl⟩
theorem z131 : zeroOf Try.prog 131 = some ([.u8 0]) ∧ ([.u8 0] : List SV).all SV.one = true ∧ (Try.prog.info? 131).map (·.size) = some ([.u8 0] : List SV).length := ⟨by kernel_rfl, by kernel_rfl, by kernel_rfl⟩
theorem z132 : zeroOf Try.prog 132 = some ([.u8 0]) ∧ ([.u8 0] : List SV).all SV.one = true ∧ (Try.prog.info? 132).map (·.size) = some ([.u8 0] : List SV).length := ⟨by kernel_rfl, by kernel_rfl, by kernel_rfl⟩
theorem z133 : zeroOf Try.prog 133 = some ([.fnil]) ∧ ([.fnil] : List SV).all SV.one = true ∧ (Try.prog.info? 133).map (·.size) = some ([.fnil] : List SV).length := ⟨by kernel_rfl, by kernel_rfl, by kernel_rfl⟩
theorem z134 : zeroOf Try.prog 134 = some ([.pn]) ∧ ([.pn] : List SV).all SV.one = true ∧ (Try.prog.info? 134).map (·.size) = some ([.pn] : List SV).length := ⟨by kernel_rfl, by kernel_rfl, by kernel_rfl⟩
theorem z135 : zeroOf Try.prog 135 = some ([.i .i32 0]) ∧ ([.i .i32 0] : List SV).all SV.one = true ∧ (Try.prog.info? 135).map (·.size) = some ([.i .i32 0] : List SV).length := ⟨by kernel_rfl, by kernel_rfl, by kernel_rfl⟩
theorem z136 : zeroOf Try.prog 136 = some ([.i .i32 0]) ∧ ([.i .i32 0] : List SV).all SV.one = true ∧ (Try.prog.info? 136).map (·.size) = some ([.i .i32 0] : List SV).length := ⟨by kernel_rfl, by kernel_rfl, by kernel_rfl⟩
theorem z137 : zeroOf Try.prog 137 = some ([.u64 0, .u64 0, .u32 0, .u8 0, .u8 0, .u8 0, .u8 0, .fnil, .pn, .i .i32 0, .i .i32 0]) ∧ ([.u64 0, .u64 0, .u32 0, .u8 0, .u8 0, .u8 0, .u8 0, .fnil, .pn, .i .i32 0, .i .i32 0] : List SV).all SV.one = true ∧ (Try.prog.info? 137).map (·.size) = some ([.u64 0, .u64 0, .u32 0, .u8 0, .u8 0, .u8 0, .u8 0, .fnil, .pn, .i .i32 0, .i .i32 0] : List SV).length := ⟨by kernel_rfl, by kernel_rfl, by kernel_rfl⟩
theorem z138 : zeroOf Try.prog 138 = some ([.u64 0, .u64 0, .u32 0, .u8 0, .u8 0, .u8 0, .u8 0, .fnil, .pn, .i .i32 0, .i .i32 0]) ∧ ([.u64 0, .u64 0, .u32 0, .u8 0, .u8 0, .u8 0, .u8 0, .fnil, .pn, .i .i32 0, .i .i32 0] : List SV).all SV.one = true ∧ (Try.prog.info? 138).map (·.size) = some ([.u64 0, .u64 0, .u32 0, .u8 0, .u8 0, .u8 0, .u8 0, .fnil, .pn, .i .i32 0, .i .i32 0] : List SV).length := ⟨by kernel_rfl, by kernel_rfl, by kernel_rfl⟩
@[go_sem] theorem tk1 : tab.k 1 = .func := rfl
@[go_sem] theorem tz1 : tab.z 1 = some (([.fnil] : List SV)) := rfl
@[go_sem] theorem tk2 : tab.k 2 = .int .i64 := rfl
@[go_sem] theorem tz2 : tab.z 2 = some (([.i .i64 0] : List SV)) := rfl
@[go_sem] theorem tk3 : tab.k 3 = .int .i64 := rfl
@[go_sem] theorem tz3 : tab.z 3 = some (([.i .i64 0] : List SV)) := rfl
@[go_sem] theorem tk4 : tab.k 4 = .bool := rfl
@[go_sem] theorem tz4 : tab.z 4 = some (([.b false] : List SV)) := rfl
@[go_sem] theorem tk5 : tab.k 5 = .int .u8 := rfl
@[go_sem] theorem tz5 : tab.z 5 = some (([.u8 0] : List SV)) := rfl
@[go_sem] theorem tk6 : tab.k 6 = .int .u8 := rfl
@[go_sem] theorem tz6 : tab.z 6 = some (([.u8 0] : List SV)) := rfl
@[go_sem] theorem tk7 : tab.k 7 = .struct 4 := rfl
@[go_sem] theorem tz7 : tab.z 7 = some (([.i .i64 0, .i .i64 0, .b false, .u8 0] : List SV)) := rfl
@[go_sem] theorem te7 : tab.eqp.getD 7 false = true := rfl
@[go_sem] theorem tf7_0 : tab.f 7 0 = some (0, 1, 2) := rfl
@[go_sem] theorem tf7_1 : tab.f 7 1 = some (1, 1, 3) := rfl
@[go_sem] theorem tf7_2 : tab.f 7 2 = some (2, 1, 4) := rfl
@[go_sem] theorem tf7_3 : tab.f 7 3 = some (3, 1, 6) := rfl
@[go_sem] theorem tk8 : tab.k 8 = .struct 4 := rfl
@[go_sem] theorem tz8 : tab.z 8 = some (([.i .i64 0, .i .i64 0, .b false, .u8 0] : List SV)) := rfl
@[go_sem] theorem te8 : tab.eqp.getD 8 false = true := rfl
@[go_sem] theorem tf8_0 : tab.f 8 0 = some (0, 1, 2) := rfl
@[go_sem] theorem tf8_1 : tab.f 8 1 = some (1, 1, 3) := rfl
@[go_sem] theorem tf8_2 : tab.f 8 2 = some (2, 1, 4) := rfl
@[go_sem] theorem tf8_3 : tab.f 8 3 = some (3, 1, 6) := rfl
@[go_sem] theorem tk9 : tab.k 9 = .str := rfl
@[go_sem] theorem tz9 : tab.z 9 = some (([.str ⟨#[]⟩] : List SV)) := rfl
@[go_sem] theorem tk10 : tab.k 10 = .str := rfl
@[go_sem] theorem tz10 : tab.z 10 = some (([.str ⟨#[]⟩] : List SV)) := rfl
@[go_sem] theorem tk11 : tab.k 11 = .str := rfl
@[go_sem] theorem tz11 : tab.z 11 = some (([.str ⟨#[]⟩] : List SV)) := rfl
@[go_sem] theorem tk12 : tab.k 12 = .int .u64 := rfl
@[go_sem] theorem tz12 : tab.z 12 = some (([.u64 0] : List SV)) := rfl
@[go_sem] theorem tk13 : tab.k 13 = .struct 2 := rfl
@[go_sem] theorem tz13 : tab.z 13 = some (([.str ⟨#[]⟩, .u64 0] : List SV)) := rfl
@[go_sem] theorem te13 : tab.eqp.getD 13 false = true := rfl
@[go_sem] theorem tf13_0 : tab.f 13 0 = some (0, 1, 9) := rfl
@[go_sem] theorem tf13_1 : tab.f 13 1 = some (1, 1, 12) := rfl
@[go_sem] theorem tk14 : tab.k 14 = .struct 2 := rfl
@[go_sem] theorem tz14 : tab.z 14 = some (([.str ⟨#[]⟩, .u64 0] : List SV)) := rfl
@[go_sem] theorem te14 : tab.eqp.getD 14 false = true := rfl
@[go_sem] theorem tf14_0 : tab.f 14 0 = some (0, 1, 9) := rfl
@[go_sem] theorem tf14_1 : tab.f 14 1 = some (1, 1, 12) := rfl
@[go_sem] theorem tk15 : tab.k 15 = .ptr := rfl
@[go_sem] theorem tz15 : tab.z 15 = some (([.pn] : List SV)) := rfl
@[go_sem] theorem tk16 : tab.k 16 = .ptr := rfl
@[go_sem] theorem tz16 : tab.z 16 = some (([.pn] : List SV)) := rfl
@[go_sem] theorem tk17 : tab.k 17 = .ptr := rfl
@[go_sem] theorem tz17 : tab.z 17 = some (([.pn] : List SV)) := rfl
@[go_sem] theorem tk18 : tab.k 18 = .struct 1 := rfl
@[go_sem] theorem tz18 : tab.z 18 = some (([.pn] : List SV)) := rfl
@[go_sem] theorem te18 : tab.eqp.getD 18 false = true := rfl
@[go_sem] theorem tf18_0 : tab.f 18 0 = some (0, 1, 17) := rfl
@[go_sem] theorem tk19 : tab.k 19 = .struct 1 := rfl
@[go_sem] theorem tz19 : tab.z 19 = some (([.pn] : List SV)) := rfl
@[go_sem] theorem te19 : tab.eqp.getD 19 false = true := rfl
@[go_sem] theorem tf19_0 : tab.f 19 0 = some (0, 1, 17) := rfl
@[go_sem] theorem tk20 : tab.k 20 = .iface := rfl
@[go_sem] theorem tz20 : tab.z 20 = some (([.inil] : List SV)) := rfl
@[go_sem] theorem tk21 : tab.k 21 = .int .i32 := rfl
@[go_sem] theorem tz21 : tab.z 21 = some (([.i .i32 0] : List SV)) := rfl
@[go_sem] theorem tk22 : tab.k 22 = .slice 55 3 56 := rfl
@[go_sem] theorem tz22 : tab.z 22 = some (([.sn] : List SV)) := rfl
@[go_sem] theorem tk23 : tab.k 23 = .slice 40 8 80 := rfl
@[go_sem] theorem tz23 : tab.z 23 = some (([.sn] : List SV)) := rfl
@[go_sem] theorem tk24 : tab.k 24 = .slice 51 8 80 := rfl
@[go_sem] theorem tz24 : tab.z 24 = some (([.sn] : List SV)) := rfl
@[go_sem] theorem tk25 : tab.k 25 = .func := rfl
@[go_sem] theorem tz25 : tab.z 25 = some (([.fnil] : List SV)) := rfl
@[go_sem] theorem tk26 : tab.k 26 = .struct 2 := rfl
@[go_sem] theorem tz26 : tab.z 26 = some (([.sn, .sn] : List SV)) := rfl
@[go_sem] theorem te26 : tab.eqp.getD 26 false = true := rfl
@[go_sem] theorem tf26_0 : tab.f 26 0 = some (0, 1, 22) := rfl
@[go_sem] theorem tf26_1 : tab.f 26 1 = some (1, 1, 23) := rfl
@[go_sem] theorem tk27 : tab.k 27 = .struct 2 := rfl
@[go_sem] theorem tz27 : tab.z 27 = some (([.sn, .sn] : List SV)) := rfl
@[go_sem] theorem te27 : tab.eqp.getD 27 false = true := rfl
@[go_sem] theorem tf27_0 : tab.f 27 0 = some (0, 1, 22) := rfl
@[go_sem] theorem tf27_1 : tab.f 27 1 = some (1, 1, 23) := rfl
@[go_sem] theorem tk28 : tab.k 28 = .func := rfl
@[go_sem] theorem tz28 : tab.z 28 = some (([.fnil] : List SV)) := rfl
@[go_sem] theorem tk29 : tab.k 29 = .int .i64 := rfl
@[go_sem] theorem tz29 : tab.z 29 = some (([.i .i64 0] : List SV)) := rfl
@[go_sem] theorem tk31 : tab.k 31 = .func := rfl
@[go_sem] theorem tz31 : tab.z 31 = some (([.fnil] : List SV)) := rfl
@[go_sem] theorem tk32 : tab.k 32 = .func := rfl
@[go_sem] theorem tz32 : tab.z 32 = some (([.fnil] : List SV)) := rfl
@[go_sem] theorem tk33 : tab.k 33 = .func := rfl
@[go_sem] theorem tz33 : tab.z 33 = some (([.fnil] : List SV)) := rfl
@[go_sem] theorem tk34 : tab.k 34 = .slice 24 1 24 := rfl
@[go_sem] theorem tz34 : tab.z 34 = some (([.sn] : List SV)) := rfl
@[go_sem] theorem tk35 : tab.k 35 = .slice 5 1 1 := rfl
@[go_sem] theorem tz35 : tab.z 35 = some (([.sn] : List SV)) := rfl
@[go_sem] theorem tk36 : tab.k 36 = .int .u64 := rfl
@[go_sem] theorem tz36 : tab.z 36 = some (([.u64 0] : List SV)) := rfl
@[go_sem] theorem tk37 : tab.k 37 = .struct 2 := rfl
@[go_sem] theorem tz37 : tab.z 37 = some (([.i .i64 0, .i .i64 0] : List SV)) := rfl
@[go_sem] theorem tq37 : tab.eqk.getD 37 none = some [.i64, .i64] := rfl
@[go_sem] theorem te37 : tab.eqp.getD 37 false = true := rfl
@[go_sem] theorem tf37_0 : tab.f 37 0 = some (0, 1, 3) := rfl
@[go_sem] theorem tf37_1 : tab.f 37 1 = some (1, 1, 3) := rfl
@[go_sem] theorem tk38 : tab.k 38 = .struct 2 := rfl
@[go_sem] theorem tz38 : tab.z 38 = some (([.i .i64 0, .i .i64 0] : List SV)) := rfl
@[go_sem] theorem tq38 : tab.eqk.getD 38 none = some [.i64, .i64] := rfl
@[go_sem] theorem te38 : tab.eqp.getD 38 false = true := rfl
@[go_sem] theorem tf38_0 : tab.f 38 0 = some (0, 1, 3) := rfl
@[go_sem] theorem tf38_1 : tab.f 38 1 = some (1, 1, 3) := rfl
@[go_sem] theorem tk39 : tab.k 39 = .struct 8 := rfl
@[go_sem] theorem tz39 : tab.z 39 = some (([.sn, .i .i64 0, .i .i64 0, .i .i64 0, .u64 0, .u64 0, .i .i64 0, .i .i64 0] : List SV)) := rfl
@[go_sem] theorem te39 : tab.eqp.getD 39 false = true := rfl
@[go_sem] theorem tf39_0 : tab.f 39 0 = some (0, 1, 35) := rfl
@[go_sem] theorem tf39_1 : tab.f 39 1 = some (1, 1, 3) := rfl
@[go_sem] theorem tf39_2 : tab.f 39 2 = some (2, 1, 3) := rfl
@[go_sem] theorem tf39_3 : tab.f 39 3 = some (3, 1, 3) := rfl
@[go_sem] theorem tf39_4 : tab.f 39 4 = some (4, 1, 36) := rfl
@[go_sem] theorem tf39_5 : tab.f 39 5 = some (5, 1, 36) := rfl
@[go_sem] theorem tf39_6 : tab.f 39 6 = some (6, 2, 38) := rfl
@[go_sem] theorem tk40 : tab.k 40 = .struct 8 := rfl
@[go_sem] theorem tz40 : tab.z 40 = some (([.sn, .i .i64 0, .i .i64 0, .i .i64 0, .u64 0, .u64 0, .i .i64 0, .i .i64 0] : List SV)) := rfl
@[go_sem] theorem te40 : tab.eqp.getD 40 false = true := rfl
@[go_sem] theorem tf40_0 : tab.f 40 0 = some (0, 1, 35) := rfl
@[go_sem] theorem tf40_1 : tab.f 40 1 = some (1, 1, 3) := rfl
@[go_sem] theorem tf40_2 : tab.f 40 2 = some (2, 1, 3) := rfl
@[go_sem] theorem tf40_3 : tab.f 40 3 = some (3, 1, 3) := rfl
@[go_sem] theorem tf40_4 : tab.f 40 4 = some (4, 1, 36) := rfl
@[go_sem] theorem tf40_5 : tab.f 40 5 = some (5, 1, 36) := rfl
@[go_sem] theorem tf40_6 : tab.f 40 6 = some (6, 2, 38) := rfl
@[go_sem] theorem tk42 : tab.k 42 = .func := rfl
@[go_sem] theorem tz42 : tab.z 42 = some (([.fnil] : List SV)) := rfl
@[go_sem] theorem tk43 : tab.k 43 = .func := rfl
@[go_sem] theorem tz43 : tab.z 43 = some (([.fnil] : List SV)) := rfl
@[go_sem] theorem tk44 : tab.k 44 = .func := rfl
@[go_sem] theorem tz44 : tab.z 44 = some (([.fnil] : List SV)) := rfl
@[go_sem] theorem tk45 : tab.k 45 = .func := rfl
@[go_sem] theorem tz45 : tab.z 45 = some (([.fnil] : List SV)) := rfl
@[go_sem] theorem tk46 : tab.k 46 = .struct 3 := rfl
@[go_sem] theorem tz46 : tab.z 46 = some (([.i .i64 0, .u64 0, .u64 0] : List SV)) := rfl
@[go_sem] theorem tq46 : tab.eqk.getD 46 none = some [.i64, .u64, .u64] := rfl
@[go_sem] theorem te46 : tab.eqp.getD 46 false = true := rfl
@[go_sem] theorem tf46_0 : tab.f 46 0 = some (0, 1, 3) := rfl
@[go_sem] theorem tf46_1 : tab.f 46 1 = some (1, 1, 36) := rfl
@[go_sem] theorem tf46_2 : tab.f 46 2 = some (2, 1, 36) := rfl
@[go_sem] theorem tk47 : tab.k 47 = .struct 3 := rfl
@[go_sem] theorem tz47 : tab.z 47 = some (([.i .i64 0, .u64 0, .u64 0] : List SV)) := rfl
@[go_sem] theorem tq47 : tab.eqk.getD 47 none = some [.i64, .u64, .u64] := rfl
@[go_sem] theorem te47 : tab.eqp.getD 47 false = true := rfl
@[go_sem] theorem tf47_0 : tab.f 47 0 = some (0, 1, 3) := rfl
@[go_sem] theorem tf47_1 : tab.f 47 1 = some (1, 1, 36) := rfl
@[go_sem] theorem tf47_2 : tab.f 47 2 = some (2, 1, 36) := rfl
@[go_sem] theorem tk48 : tab.k 48 = .struct 4 := rfl
@[go_sem] theorem tz48 : tab.z 48 = some (([.i .i64 0, .u64 0, .u64 0, .i .i64 0] : List SV)) := rfl
@[go_sem] theorem tq48 : tab.eqk.getD 48 none = some [.i64, .u64, .u64, .i64] := rfl
@[go_sem] theorem te48 : tab.eqp.getD 48 false = true := rfl
@[go_sem] theorem tf48_0 : tab.f 48 0 = some (0, 3, 47) := rfl
@[go_sem] theorem tf48_1 : tab.f 48 1 = some (3, 1, 3) := rfl
@[go_sem] theorem tk49 : tab.k 49 = .struct 4 := rfl
@[go_sem] theorem tz49 : tab.z 49 = some (([.i .i64 0, .u64 0, .u64 0, .i .i64 0] : List SV)) := rfl
@[go_sem] theorem tq49 : tab.eqk.getD 49 none = some [.i64, .u64, .u64, .i64] := rfl
@[go_sem] theorem te49 : tab.eqp.getD 49 false = true := rfl
@[go_sem] theorem tf49_0 : tab.f 49 0 = some (0, 3, 47) := rfl
@[go_sem] theorem tf49_1 : tab.f 49 1 = some (3, 1, 3) := rfl
@[go_sem] theorem tk50 : tab.k 50 = .struct 8 := rfl
@[go_sem] theorem tz50 : tab.z 50 = some (([.i .i64 0, .i .i64 0, .i .i64 0, .sn, .i .i64 0, .u64 0, .u64 0, .i .i64 0] : List SV)) := rfl
@[go_sem] theorem te50 : tab.eqp.getD 50 false = true := rfl
@[go_sem] theorem tf50_0 : tab.f 50 0 = some (0, 1, 3) := rfl
@[go_sem] theorem tf50_1 : tab.f 50 1 = some (1, 1, 3) := rfl
@[go_sem] theorem tf50_2 : tab.f 50 2 = some (2, 1, 3) := rfl
@[go_sem] theorem tf50_3 : tab.f 50 3 = some (3, 1, 35) := rfl
@[go_sem] theorem tf50_4 : tab.f 50 4 = some (4, 4, 49) := rfl
@[go_sem] theorem tk51 : tab.k 51 = .struct 8 := rfl
@[go_sem] theorem tz51 : tab.z 51 = some (([.i .i64 0, .i .i64 0, .i .i64 0, .sn, .i .i64 0, .u64 0, .u64 0, .i .i64 0] : List SV)) := rfl
@[go_sem] theorem te51 : tab.eqp.getD 51 false = true := rfl
@[go_sem] theorem tf51_0 : tab.f 51 0 = some (0, 1, 3) := rfl
@[go_sem] theorem tf51_1 : tab.f 51 1 = some (1, 1, 3) := rfl
@[go_sem] theorem tf51_2 : tab.f 51 2 = some (2, 1, 3) := rfl
@[go_sem] theorem tf51_3 : tab.f 51 3 = some (3, 1, 35) := rfl
@[go_sem] theorem tf51_4 : tab.f 51 4 = some (4, 4, 49) := rfl
@[go_sem] theorem tk52 : tab.k 52 = .func := rfl
@[go_sem] theorem tz52 : tab.z 52 = some (([.fnil] : List SV)) := rfl
@[go_sem] theorem tk53 : tab.k 53 = .slice 49 4 32 := rfl
@[go_sem] theorem tz53 : tab.z 53 = some (([.sn] : List SV)) := rfl
@[go_sem] theorem tk54 : tab.k 54 = .struct 3 := rfl
@[go_sem] theorem tz54 : tab.z 54 = some (([.i .i64 0, .sn, .sn] : List SV)) := rfl
@[go_sem] theorem te54 : tab.eqp.getD 54 false = true := rfl
@[go_sem] theorem tf54_0 : tab.f 54 0 = some (0, 1, 3) := rfl
@[go_sem] theorem tf54_1 : tab.f 54 1 = some (1, 1, 35) := rfl
@[go_sem] theorem tf54_2 : tab.f 54 2 = some (2, 1, 53) := rfl
@[go_sem] theorem tk55 : tab.k 55 = .struct 3 := rfl
@[go_sem] theorem tz55 : tab.z 55 = some (([.i .i64 0, .sn, .sn] : List SV)) := rfl
@[go_sem] theorem te55 : tab.eqp.getD 55 false = true := rfl
@[go_sem] theorem tf55_0 : tab.f 55 0 = some (0, 1, 3) := rfl
@[go_sem] theorem tf55_1 : tab.f 55 1 = some (1, 1, 35) := rfl
@[go_sem] theorem tf55_2 : tab.f 55 2 = some (2, 1, 53) := rfl
@[go_sem] theorem tk56 : tab.k 56 = .func := rfl
@[go_sem] theorem tz56 : tab.z 56 = some (([.fnil] : List SV)) := rfl
@[go_sem] theorem tk57 : tab.k 57 = .func := rfl
@[go_sem] theorem tz57 : tab.z 57 = some (([.fnil] : List SV)) := rfl
@[go_sem] theorem tk58 : tab.k 58 = .ptr := rfl
@[go_sem] theorem tz58 : tab.z 58 = some (([.pn] : List SV)) := rfl
@[go_sem] theorem tk59 : tab.k 59 = .func := rfl
@[go_sem] theorem tz59 : tab.z 59 = some (([.fnil] : List SV)) := rfl
@[go_sem] theorem tk60 : tab.k 60 = .func := rfl
@[go_sem] theorem tz60 : tab.z 60 = some (([.fnil] : List SV)) := rfl
@[go_sem] theorem tk61 : tab.k 61 = .func := rfl
@[go_sem] theorem tz61 : tab.z 61 = some (([.fnil] : List SV)) := rfl
@[go_sem] theorem tk62 : tab.k 62 = .struct 2 := rfl
@[go_sem] theorem tz62 : tab.z 62 = some (([.sn, .sn] : List SV)) := rfl
@[go_sem] theorem te62 : tab.eqp.getD 62 false = true := rfl
@[go_sem] theorem tf62_0 : tab.f 62 0 = some (0, 1, 22) := rfl
@[go_sem] theorem tf62_1 : tab.f 62 1 = some (1, 1, 23) := rfl
@[go_sem] theorem tk63 : tab.k 63 = .struct 2 := rfl
@[go_sem] theorem tz63 : tab.z 63 = some (([.sn, .sn] : List SV)) := rfl
@[go_sem] theorem te63 : tab.eqp.getD 63 false = true := rfl
@[go_sem] theorem tf63_0 : tab.f 63 0 = some (0, 1, 22) := rfl
@[go_sem] theorem tf63_1 : tab.f 63 1 = some (1, 1, 23) := rfl
@[go_sem] theorem tk64 : tab.k 64 = .func := rfl
@[go_sem] theorem tz64 : tab.z 64 = some (([.fnil] : List SV)) := rfl
@[go_sem] theorem tk65 : tab.k 65 = .func := rfl
@[go_sem] theorem tz65 : tab.z 65 = some (([.fnil] : List SV)) := rfl
@[go_sem] theorem tk66 : tab.k 66 = .func := rfl
@[go_sem] theorem tz66 : tab.z 66 = some (([.fnil] : List SV)) := rfl
@[go_sem] theorem tk67 : tab.k 67 = .func := rfl
@[go_sem] theorem tz67 : tab.z 67 = some (([.fnil] : List SV)) := rfl
@[go_sem] theorem tk68 : tab.k 68 = .func := rfl
@[go_sem] theorem tz68 : tab.z 68 = some (([.fnil] : List SV)) := rfl
@[go_sem] theorem tk69 : tab.k 69 = .func := rfl
@[go_sem] theorem tz69 : tab.z 69 = some (([.fnil] : List SV)) := rfl
@[go_sem] theorem tk70 : tab.k 70 = .func := rfl
@[go_sem] theorem tz70 : tab.z 70 = some (([.fnil] : List SV)) := rfl
@[go_sem] theorem tk71 : tab.k 71 = .func := rfl
@[go_sem] theorem tz71 : tab.z 71 = some (([.fnil] : List SV)) := rfl
@[go_sem] theorem tk72 : tab.k 72 = .slice 75 2 16 := rfl
@[go_sem] theorem tz72 : tab.z 72 = some (([.sn] : List SV)) := rfl
@[go_sem] theorem tk73 : tab.k 73 = .func := rfl
@[go_sem] theorem tz73 : tab.z 73 = some (([.fnil] : List SV)) := rfl
@[go_sem] theorem tk74 : tab.k 74 = .struct 2 := rfl
@[go_sem] theorem tz74 : tab.z 74 = some (([.fnil, .i .i64 0] : List SV)) := rfl
@[go_sem] theorem te74 : tab.eqp.getD 74 false = true := rfl
@[go_sem] theorem tf74_0 : tab.f 74 0 = some (0, 1, 25) := rfl
@[go_sem] theorem tf74_1 : tab.f 74 1 = some (1, 1, 29) := rfl
@[go_sem] theorem tk75 : tab.k 75 = .struct 2 := rfl
@[go_sem] theorem tz75 : tab.z 75 = some (([.fnil, .i .i64 0] : List SV)) := rfl
@[go_sem] theorem te75 : tab.eqp.getD 75 false = true := rfl
@[go_sem] theorem tf75_0 : tab.f 75 0 = some (0, 1, 25) := rfl
@[go_sem] theorem tf75_1 : tab.f 75 1 = some (1, 1, 29) := rfl
@[go_sem] theorem tk77 : tab.k 77 = .func := rfl
@[go_sem] theorem tz77 : tab.z 77 = some (([.fnil] : List SV)) := rfl
@[go_sem] theorem tk78 : tab.k 78 = .func := rfl
@[go_sem] theorem tz78 : tab.z 78 = some (([.fnil] : List SV)) := rfl
@[go_sem] theorem tk79 : tab.k 79 = .func := rfl
@[go_sem] theorem tz79 : tab.z 79 = some (([.fnil] : List SV)) := rfl
@[go_sem] theorem tk80 : tab.k 80 = .func := rfl
@[go_sem] theorem tz80 : tab.z 80 = some (([.fnil] : List SV)) := rfl
@[go_sem] theorem tk81 : tab.k 81 = .func := rfl
@[go_sem] theorem tz81 : tab.z 81 = some (([.fnil] : List SV)) := rfl
@[go_sem] theorem tk82 : tab.k 82 = .func := rfl
@[go_sem] theorem tz82 : tab.z 82 = some (([.fnil] : List SV)) := rfl
@[go_sem] theorem tk83 : tab.k 83 = .func := rfl
@[go_sem] theorem tz83 : tab.z 83 = some (([.fnil] : List SV)) := rfl
@[go_sem] theorem tk84 : tab.k 84 = .func := rfl
@[go_sem] theorem tz84 : tab.z 84 = some (([.fnil] : List SV)) := rfl
@[go_sem] theorem tk85 : tab.k 85 = .func := rfl
@[go_sem] theorem tz85 : tab.z 85 = some (([.fnil] : List SV)) := rfl
@[go_sem] theorem tk86 : tab.k 86 = .func := rfl
@[go_sem] theorem tz86 : tab.z 86 = some (([.fnil] : List SV)) := rfl
@[go_sem] theorem tk87 : tab.k 87 = .func := rfl
@[go_sem] theorem tz87 : tab.z 87 = some (([.fnil] : List SV)) := rfl
@[go_sem] theorem tk88 : tab.k 88 = .func := rfl
@[go_sem] theorem tz88 : tab.z 88 = some (([.fnil] : List SV)) := rfl
@[go_sem] theorem tk89 : tab.k 89 = .func := rfl
@[go_sem] theorem tz89 : tab.z 89 = some (([.fnil] : List SV)) := rfl
@[go_sem] theorem tk90 : tab.k 90 = .slice 3 1 8 := rfl
@[go_sem] theorem tz90 : tab.z 90 = some (([.sn] : List SV)) := rfl
@[go_sem] theorem tk91 : tab.k 91 = .func := rfl
@[go_sem] theorem tz91 : tab.z 91 = some (([.fnil] : List SV)) := rfl
@[go_sem] theorem tk92 : tab.k 92 = .func := rfl
@[go_sem] theorem tz92 : tab.z 92 = some (([.fnil] : List SV)) := rfl
@[go_sem] theorem tk93 : tab.k 93 = .func := rfl
@[go_sem] theorem tz93 : tab.z 93 = some (([.fnil] : List SV)) := rfl
@[go_sem] theorem tk94 : tab.k 94 = .func := rfl
@[go_sem] theorem tz94 : tab.z 94 = some (([.fnil] : List SV)) := rfl
@[go_sem] theorem tk95 : tab.k 95 = .func := rfl
@[go_sem] theorem tz95 : tab.z 95 = some (([.fnil] : List SV)) := rfl
@[go_sem] theorem tk96 : tab.k 96 = .func := rfl
@[go_sem] theorem tz96 : tab.z 96 = some (([.fnil] : List SV)) := rfl
@[go_sem] theorem tk97 : tab.k 97 = .func := rfl
@[go_sem] theorem tz97 : tab.z 97 = some (([.fnil] : List SV)) := rfl
@[go_sem] theorem tk98 : tab.k 98 = .func := rfl
@[go_sem] theorem tz98 : tab.z 98 = some (([.fnil] : List SV)) := rfl
@[go_sem] theorem tk99 : tab.k 99 = .func := rfl
@[go_sem] theorem tz99 : tab.z 99 = some (([.fnil] : List SV)) := rfl
@[go_sem] theorem tk100 : tab.k 100 = .func := rfl
@[go_sem] theorem tz100 : tab.z 100 = some (([.fnil] : List SV)) := rfl
@[go_sem] theorem tk101 : tab.k 101 = .ptr := rfl
@[go_sem] theorem tz101 : tab.z 101 = some (([.pn] : List SV)) := rfl
@[go_sem] theorem tk102 : tab.k 102 = .int .u64 := rfl
@[go_sem] theorem tz102 : tab.z 102 = some (([.u64 0] : List SV)) := rfl
@[go_sem] theorem tk103 : tab.k 103 = .func := rfl
@[go_sem] theorem tz103 : tab.z 103 = some (([.fnil] : List SV)) := rfl
@[go_sem] theorem tk104 : tab.k 104 = .func := rfl
@[go_sem] theorem tz104 : tab.z 104 = some (([.fnil] : List SV)) := rfl
@[go_sem] theorem tk105 : tab.k 105 = .func := rfl
@[go_sem] theorem tz105 : tab.z 105 = some (([.fnil] : List SV)) := rfl
@[go_sem] theorem tk106 : tab.k 106 = .func := rfl
@[go_sem] theorem tz106 : tab.z 106 = some (([.fnil] : List SV)) := rfl
@[go_sem] theorem tk107 : tab.k 107 = .slice 72 1 24 := rfl
@[go_sem] theorem tz107 : tab.z 107 = some (([.sn] : List SV)) := rfl
@[go_sem] theorem tk108 : tab.k 108 = .func := rfl
@[go_sem] theorem tz108 : tab.z 108 = some (([.fnil] : List SV)) := rfl
@[go_sem] theorem tk109 : tab.k 109 = .func := rfl
@[go_sem] theorem tz109 : tab.z 109 = some (([.fnil] : List SV)) := rfl
@[go_sem] theorem tk110 : tab.k 110 = .func := rfl
@[go_sem] theorem tz110 : tab.z 110 = some (([.fnil] : List SV)) := rfl
@[go_sem] theorem tk111 : tab.k 111 = .func := rfl
@[go_sem] theorem tz111 : tab.z 111 = some (([.fnil] : List SV)) := rfl
@[go_sem] theorem tk112 : tab.k 112 = .func := rfl
@[go_sem] theorem tz112 : tab.z 112 = some (([.fnil] : List SV)) := rfl
@[go_sem] theorem tk113 : tab.k 113 = .func := rfl
@[go_sem] theorem tz113 : tab.z 113 = some (([.fnil] : List SV)) := rfl
@[go_sem] theorem tk114 : tab.k 114 = .func := rfl
@[go_sem] theorem tz114 : tab.z 114 = some (([.fnil] : List SV)) := rfl
@[go_sem] theorem tk115 : tab.k 115 = .func := rfl
@[go_sem] theorem tz115 : tab.z 115 = some (([.fnil] : List SV)) := rfl
@[go_sem] theorem tk116 : tab.k 116 = .func := rfl
@[go_sem] theorem tz116 : tab.z 116 = some (([.fnil] : List SV)) := rfl
@[go_sem] theorem tk117 : tab.k 117 = .func := rfl
@[go_sem] theorem tz117 : tab.z 117 = some (([.fnil] : List SV)) := rfl
@[go_sem] theorem tk118 : tab.k 118 = .func := rfl
@[go_sem] theorem tz118 : tab.z 118 = some (([.fnil] : List SV)) := rfl
@[go_sem] theorem tk119 : tab.k 119 = .func := rfl
@[go_sem] theorem tz119 : tab.z 119 = some (([.fnil] : List SV)) := rfl
@[go_sem] theorem tk120 : tab.k 120 = .func := rfl
@[go_sem] theorem tz120 : tab.z 120 = some (([.fnil] : List SV)) := rfl
@[go_sem] theorem tk121 : tab.k 121 = .func := rfl
@[go_sem] theorem tz121 : tab.z 121 = some (([.fnil] : List SV)) := rfl
@[go_sem] theorem tk122 : tab.k 122 = .func := rfl
@[go_sem] theorem tz122 : tab.z 122 = some (([.fnil] : List SV)) := rfl
@[go_sem] theorem tk123 : tab.k 123 = .func := rfl
@[go_sem] theorem tz123 : tab.z 123 = some (([.fnil] : List SV)) := rfl
@[go_sem] theorem tk124 : tab.k 124 = .struct 4 := rfl
@[go_sem] theorem tz124 : tab.z 124 = some (([.pn, .pn, .pn, .str ⟨#[]⟩] : List SV)) := rfl
@[go_sem] theorem te124 : tab.eqp.getD 124 false = true := rfl
@[go_sem] theorem tf124_0 : tab.f 124 0 = some (0, 1, 17) := rfl
@[go_sem] theorem tf124_1 : tab.f 124 1 = some (1, 1, 17) := rfl
@[go_sem] theorem tf124_2 : tab.f 124 2 = some (2, 1, 17) := rfl
@[go_sem] theorem tf124_3 : tab.f 124 3 = some (3, 1, 9) := rfl
@[go_sem] theorem tk125 : tab.k 125 = .struct 4 := rfl
@[go_sem] theorem tz125 : tab.z 125 = some (([.pn, .pn, .pn, .str ⟨#[]⟩] : List SV)) := rfl
@[go_sem] theorem te125 : tab.eqp.getD 125 false = true := rfl
@[go_sem] theorem tf125_0 : tab.f 125 0 = some (0, 1, 17) := rfl
@[go_sem] theorem tf125_1 : tab.f 125 1 = some (1, 1, 17) := rfl
@[go_sem] theorem tf125_2 : tab.f 125 2 = some (2, 1, 17) := rfl
@[go_sem] theorem tf125_3 : tab.f 125 3 = some (3, 1, 9) := rfl
@[go_sem] theorem tk126 : tab.k 126 = .arr 0 16 1 0 := rfl
@[go_sem] theorem tz126 : tab.z 126 = some (([] : List SV)) := rfl
@[go_sem] theorem te126 : tab.eqp.getD 126 false = true := rfl
@[go_sem] theorem tk127 : tab.k 127 = .struct 0 := rfl
@[go_sem] theorem tz127 : tab.z 127 = some (([] : List SV)) := rfl
@[go_sem] theorem te127 : tab.eqp.getD 127 false = true := rfl
@[go_sem] theorem tk128 : tab.k 128 = .struct 0 := rfl
@[go_sem] theorem tz128 : tab.z 128 = some (([] : List SV)) := rfl
@[go_sem] theorem te128 : tab.eqp.getD 128 false = true := rfl
@[go_sem] theorem tk129 : tab.k 129 = .func := rfl
@[go_sem] theorem tz129 : tab.z 129 = some (([.fnil] : List SV)) := rfl
@[go_sem] theorem tk130 : tab.k 130 = .int .u32 := rfl
@[go_sem] theorem tz130 : tab.z 130 = some (([.u32 0] : List SV)) := rfl
@[go_sem] theorem tk131 : tab.k 131 = .int .u8 := rfl
@[go_sem] theorem tz131 : tab.z 131 = some (([.u8 0] : List SV)) := rfl
@[go_sem] theorem tk132 : tab.k 132 = .int .u8 := rfl
@[go_sem] theorem tz132 : tab.z 132 = some (([.u8 0] : List SV)) := rfl
@[go_sem] theorem tk133 : tab.k 133 = .func := rfl
@[go_sem] theorem tz133 : tab.z 133 = some (([.fnil] : List SV)) := rfl
@[go_sem] theorem tk134 : tab.k 134 = .ptr := rfl
@[go_sem] theorem tz134 : tab.z 134 = some (([.pn] : List SV)) := rfl
@[go_sem] theorem tk135 : tab.k 135 = .int .i32 := rfl
@[go_sem] theorem tz135 : tab.z 135 = some (([.i .i32 0] : List SV)) := rfl
@[go_sem] theorem tk136 : tab.k 136 = .int .i32 := rfl
@[go_sem] theorem tz136 : tab.z 136 = some (([.i .i32 0] : List SV)) := rfl
@[go_sem] theorem tk137 : tab.k 137 = .struct 11 := rfl
@[go_sem] theorem tz137 : tab.z 137 = some (([.u64 0, .u64 0, .u32 0, .u8 0, .u8 0, .u8 0, .u8 0, .fnil, .pn, .i .i32 0, .i .i32 0] : List SV)) := rfl
@[go_sem] theorem te137 : tab.eqp.getD 137 false = true := rfl
@[go_sem] theorem tf137_0 : tab.f 137 0 = some (0, 1, 12) := rfl
@[go_sem] theorem tf137_1 : tab.f 137 1 = some (1, 1, 12) := rfl
@[go_sem] theorem tf137_2 : tab.f 137 2 = some (2, 1, 130) := rfl
@[go_sem] theorem tf137_3 : tab.f 137 3 = some (3, 1, 131) := rfl
@[go_sem] theorem tf137_4 : tab.f 137 4 = some (4, 1, 5) := rfl
@[go_sem] theorem tf137_5 : tab.f 137 5 = some (5, 1, 5) := rfl
@[go_sem] theorem tf137_6 : tab.f 137 6 = some (6, 1, 132) := rfl
@[go_sem] theorem tf137_7 : tab.f 137 7 = some (7, 1, 133) := rfl
@[go_sem] theorem tf137_8 : tab.f 137 8 = some (8, 1, 134) := rfl
@[go_sem] theorem tf137_9 : tab.f 137 9 = some (9, 1, 135) := rfl
@[go_sem] theorem tf137_10 : tab.f 137 10 = some (10, 1, 136) := rfl
@[go_sem] theorem tk138 : tab.k 138 = .struct 11 := rfl
@[go_sem] theorem tz138 : tab.z 138 = some (([.u64 0, .u64 0, .u32 0, .u8 0, .u8 0, .u8 0, .u8 0, .fnil, .pn, .i .i32 0, .i .i32 0] : List SV)) := rfl
@[go_sem] theorem te138 : tab.eqp.getD 138 false = true := rfl
@[go_sem] theorem tf138_0 : tab.f 138 0 = some (0, 1, 12) := rfl
@[go_sem] theorem tf138_1 : tab.f 138 1 = some (1, 1, 12) := rfl
@[go_sem] theorem tf138_2 : tab.f 138 2 = some (2, 1, 130) := rfl
@[go_sem] theorem tf138_3 : tab.f 138 3 = some (3, 1, 131) := rfl
@[go_sem] theorem tf138_4 : tab.f 138 4 = some (4, 1, 5) := rfl
@[go_sem] theorem tf138_5 : tab.f 138 5 = some (5, 1, 5) := rfl
@[go_sem] theorem tf138_6 : tab.f 138 6 = some (6, 1, 132) := rfl
@[go_sem] theorem tf138_7 : tab.f 138 7 = some (7, 1, 133) := rfl
@[go_sem] theorem tf138_8 : tab.f 138 8 = some (8, 1, 134) := rfl
@[go_sem] theorem tf138_9 : tab.f 138 9 = some (9, 1, 135) := rfl
@[go_sem] theorem tf138_10 : tab.f 138 10 = some (10, 1, 136) := rfl
theorem tabOK : TabOK Try.prog tab := tabOK_of (by kernel_rfl) (⟨z1, ⟨z2, ⟨z3, ⟨z4, ⟨z5, ⟨z6, ⟨z7, ⟨z8, ⟨z9, ⟨z10, ⟨z11, ⟨z12, ⟨z13, ⟨z14, ⟨z15, ⟨z16, ⟨z17, ⟨z18, ⟨z19, ⟨z20, ⟨z21, ⟨z22, ⟨z23, ⟨z24, ⟨z25, ⟨z26, ⟨z27, ⟨z28, ⟨z29, ⟨z31, ⟨z32, ⟨z33, ⟨z34, ⟨z35, ⟨z36, ⟨z37, ⟨z38, ⟨z39, ⟨z40, ⟨z42, ⟨z43, ⟨z44, ⟨z45, ⟨z46, ⟨z47, ⟨z48, ⟨z49, ⟨z50, ⟨z51, ⟨z52, ⟨z53, ⟨z54, ⟨z55, ⟨z56, ⟨z57, ⟨z58, ⟨z59, ⟨z60, ⟨z61, ⟨z62, ⟨z63, ⟨z64, ⟨z65, ⟨z66, ⟨z67, ⟨z68, ⟨z69, ⟨z70, ⟨z71, ⟨z72, ⟨z73, ⟨z74, ⟨z75, ⟨z77, ⟨z78, ⟨z79, ⟨z80, ⟨z81, ⟨z82, ⟨z83, ⟨z84, ⟨z85, ⟨z86, ⟨z87, ⟨z88, ⟨z89, ⟨z90, ⟨z91, ⟨z92, ⟨z93, ⟨z94, ⟨z95, ⟨z96, ⟨z97, ⟨z98, ⟨z99, ⟨z100, ⟨z101, ⟨z102, ⟨z103, ⟨z104, ⟨z105, ⟨z106, ⟨z107, ⟨z108, ⟨z109, ⟨z110, ⟨z111, ⟨z112, ⟨z113, ⟨z114, ⟨z115, ⟨z116, ⟨z117, ⟨z118, ⟨z119, ⟨z120, ⟨z121, ⟨z122, ⟨z123, ⟨z124, ⟨z125, ⟨z126, ⟨z127, ⟨z128, ⟨z129, ⟨z130, ⟨z131, ⟨z132, ⟨z133, ⟨z134, ⟨z135, ⟨z136, ⟨z137, ⟨z138, trivial⟩⟩⟩⟩⟩⟩⟩⟩⟩⟩⟩⟩⟩⟩⟩⟩⟩⟩⟩⟩⟩⟩⟩⟩⟩⟩⟩⟩⟩⟩⟩⟩⟩⟩⟩⟩⟩⟩⟩⟩⟩⟩⟩⟩⟩⟩⟩⟩⟩⟩⟩⟩⟩⟩⟩⟩⟩⟩⟩⟩⟩⟩⟩⟩⟩⟩⟩⟩⟩⟩⟩⟩⟩⟩⟩⟩⟩⟩⟩⟩⟩⟩⟩⟩⟩⟩⟩⟩⟩⟩⟩⟩⟩⟩⟩⟩⟩⟩⟩⟩⟩⟩⟩⟩⟩⟩⟩⟩⟩⟩⟩⟩⟩⟩⟩⟩⟩⟩⟩⟩⟩⟩⟩⟩⟩⟩⟩⟩⟩⟩⟩⟩⟩⟩⟩) (by kernel_rfl) (by kernel_rfl) (by kernel_rfl)
end Go.Proofs.Ytdcplcfedcmcmaa.Eng
