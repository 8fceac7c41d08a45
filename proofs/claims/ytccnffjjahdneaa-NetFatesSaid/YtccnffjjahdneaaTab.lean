/- The table of this seat's types, for the engine; its facts by the kernel. -/
import Derived.Test.YtccnffjjahdneaaLs
import Derived.Test.YtccnffjjahdneaaProg
namespace Go.Proofs.Ytccnffjjahdneaa.Eng
open Go Go.RowKit
set_option maxRecDepth 20000
def tab : Tab where
  tk := [.other, .func, .int .i64, .int .i64, .bool, .int .u8, .int .u8, .struct 4, .struct 4, .str, .str, .str, .int .u64, .struct 2, .struct 2, .ptr, .ptr, .ptr, .struct 1, .struct 1, .iface, .int .i32, .slice 5 1 1, .func, .ptr, .func, .func, .int .i64, .func, .other, .func, .struct 3, .struct 3, .other, .func, .func, .func, .func, .func, .slice 43 7 72, .ptr, .func, .struct 7, .struct 7, .func, .func, .slice 3 1 8, .ptr, .struct 4, .struct 4, .slice 32 3 40, .func, .func, .slice 40 1 8, .slice 4 1 1, .func, .func, .func, .func, .func, .func, .map 65, .struct 2, .struct 2, .struct 2, .struct 2, .other, .func, .func, .other, .func, .func, .other, .func, .func, .struct 2, .struct 2, .func, .func, .func, .func, .func, .int .u64, .func, .int .i64, .other, .func, .func, .func, .other, .func, .func, .int .u32, .func, .int .u64, .int .u64, .func, .func, .func, .ptr, .func, .ptr, .func, .func, .struct 4, .struct 4, .arr 0 16 1 0, .struct 0, .struct 0, .func, .int .u8, .int .u8, .func, .ptr, .int .i32, .int .i32, .struct 11, .struct 11, .other]
  zero := [none, some ([.fnil]), some ([.i .i64 0]), some ([.i .i64 0]), some ([.b false]), some ([.u8 0]), some ([.u8 0]), some ([.i .i64 0, .i .i64 0, .b false, .u8 0]), some ([.i .i64 0, .i .i64 0, .b false, .u8 0]), some ([.str ⟨#[]⟩]), some ([.str ⟨#[]⟩]), some ([.str ⟨#[]⟩]), some ([.u64 0]), some ([.str ⟨#[]⟩, .u64 0]), some ([.str ⟨#[]⟩, .u64 0]), some ([.pn]), some ([.pn]), some ([.pn]), some ([.pn]), some ([.pn]), some ([.inil]), some ([.i .i32 0]), some ([.sn]), some ([.fnil]), some ([.pn]), some ([.fnil]), some ([.fnil]), some ([.i .i64 0]), some ([.fnil]), none, some ([.fnil]), some ([.i .i64 0, .i .i64 0, .sn]), some ([.i .i64 0, .i .i64 0, .sn]), none, some ([.fnil]), some ([.fnil]), some ([.fnil]), some ([.fnil]), some ([.fnil]), some ([.sn]), some ([.pn]), some ([.fnil]), some ([.i .i64 0, .b false, .i .i64 0, .i .i64 0, .i .i64 0, .i .i64 0, .sn]), some ([.i .i64 0, .b false, .i .i64 0, .i .i64 0, .i .i64 0, .i .i64 0, .sn]), some ([.fnil]), some ([.fnil]), some ([.sn]), some ([.pn]), some ([.pn, .pn, .sn, .b false]), some ([.pn, .pn, .sn, .b false]), some ([.sn]), some ([.fnil]), some ([.fnil]), some ([.sn]), some ([.sn]), some ([.fnil]), some ([.fnil]), some ([.fnil]), some ([.fnil]), some ([.fnil]), some ([.fnil]), some ([.mn]), some ([.mn, .i .i64 0]), some ([.mn, .i .i64 0]), some ([.i .i64 0, .sn]), some ([.i .i64 0, .sn]), none, some ([.fnil]), some ([.fnil]), none, some ([.fnil]), some ([.fnil]), none, some ([.fnil]), some ([.fnil]), some ([.sn, .i .i64 0]), some ([.sn, .i .i64 0]), some ([.fnil]), some ([.fnil]), some ([.fnil]), some ([.fnil]), some ([.fnil]), some ([.u64 0]), some ([.fnil]), some ([.i .i64 0]), none, some ([.fnil]), some ([.fnil]), some ([.fnil]), none, some ([.fnil]), some ([.fnil]), some ([.u32 0]), some ([.fnil]), some ([.u64 0]), some ([.u64 0]), some ([.fnil]), some ([.fnil]), some ([.fnil]), some ([.pn]), some ([.fnil]), some ([.pn]), some ([.fnil]), some ([.fnil]), some ([.pn, .pn, .pn, .str ⟨#[]⟩]), some ([.pn, .pn, .pn, .str ⟨#[]⟩]), some ([]), some ([]), some ([]), some ([.fnil]), some ([.u8 0]), some ([.u8 0]), some ([.fnil]), some ([.pn]), some ([.i .i32 0]), some ([.i .i32 0]), some ([.u64 0, .u64 0, .u32 0, .u8 0, .u8 0, .u8 0, .u8 0, .fnil, .pn, .i .i32 0, .i .i32 0]), some ([.u64 0, .u64 0, .u32 0, .u8 0, .u8 0, .u8 0, .u8 0, .fnil, .pn, .i .i32 0, .i .i32 0]), none]
  fo := [[], [], [], [], [], [], [], [(0, 1, 2), (1, 1, 3), (2, 1, 4), (3, 1, 6)], [(0, 1, 2), (1, 1, 3), (2, 1, 4), (3, 1, 6)], [], [], [], [], [(0, 1, 9), (1, 1, 12)], [(0, 1, 9), (1, 1, 12)], [], [], [], [(0, 1, 17)], [(0, 1, 17)], [], [], [], [], [], [], [], [], [], [], [], [(0, 1, 3), (1, 1, 3), (2, 1, 22)], [(0, 1, 3), (1, 1, 3), (2, 1, 22)], [], [], [], [], [], [], [], [], [], [(0, 1, 3), (1, 1, 4), (2, 1, 3), (3, 1, 3), (4, 1, 3), (5, 1, 3), (6, 1, 22)], [(0, 1, 3), (1, 1, 4), (2, 1, 3), (3, 1, 3), (4, 1, 3), (5, 1, 3), (6, 1, 22)], [], [], [], [], [(0, 1, 24), (1, 1, 47), (2, 1, 22), (3, 1, 4)], [(0, 1, 24), (1, 1, 47), (2, 1, 22), (3, 1, 4)], [], [], [], [], [], [], [], [], [], [], [], [], [(0, 1, 61), (1, 1, 3)], [(0, 1, 61), (1, 1, 3)], [(0, 1, 3), (1, 1, 22)], [(0, 1, 3), (1, 1, 22)], [], [], [], [], [], [], [], [], [], [(0, 1, 50), (1, 1, 3)], [(0, 1, 50), (1, 1, 3)], [], [], [], [], [], [], [], [], [], [], [], [], [], [], [], [], [], [], [], [], [], [], [], [], [], [], [], [(0, 1, 17), (1, 1, 17), (2, 1, 17), (3, 1, 9)], [(0, 1, 17), (1, 1, 17), (2, 1, 17), (3, 1, 9)], [], [], [], [], [], [], [], [], [], [], [(0, 1, 12), (1, 1, 12), (2, 1, 92), (3, 1, 110), (4, 1, 5), (5, 1, 5), (6, 1, 111), (7, 1, 112), (8, 1, 113), (9, 1, 114), (10, 1, 115)], [(0, 1, 12), (1, 1, 12), (2, 1, 92), (3, 1, 110), (4, 1, 5), (5, 1, 5), (6, 1, 111), (7, 1, 112), (8, 1, 113), (9, 1, 114), (10, 1, 115)], []]
  eqp := [false, false, false, false, false, false, false, true, true, false, false, false, false, true, true, false, false, false, true, true, false, false, false, false, false, false, false, false, false, false, false, true, true, false, false, false, false, false, false, false, false, false, true, true, false, false, false, false, true, true, false, false, false, false, false, false, false, false, false, false, false, false, true, true, true, true, false, false, false, false, false, false, false, false, false, true, true, false, false, false, false, false, false, false, false, false, false, false, false, false, false, false, false, false, false, false, false, false, false, false, false, false, false, false, true, true, true, true, true, false, false, false, false, false, false, false, true, true, false]
theorem z1 : zeroOf Try.prog 1 = some ([.fnil]) ∧ ([.fnil] : List SV).all SV.one = true ∧ (Try.prog.info? 1).map (·.size) = some ([.fnil] : List SV).length := ⟨by kernel_rfl, by kernel_rfl, by kernel_rfl⟩
theorem z2 : zeroOf Try.prog 2 = some ([.i .i64 0]) ∧ ([.i .i64 0] : List SV).all SV.one = true ∧ (Try.prog.info? 2).map (·.size) = some ([.i .i64 0] : List SV).length := ⟨by kernel_rfl, by kernel_rfl, by kernel_rfl⟩
theorem z3 : zeroOf Try.prog 3 = some ([.i .i64 0]) ∧ ([.i .i64 0] : List SV).all SV.one = true ∧ (Try.prog.info? 3).map (·.size) = some ([.i .i64 0] : List SV).length := ⟨by kernel_rfl, by kernel_rfl, by kernel_rfl⟩
theorem z4 : zeroOf Try.prog 4 = some ([.b false]) ∧ ([.b false] : List SV).all SV.one = true ∧ (Try.prog.info? 4).map (·.size) = some ([.b false] : List SV).length := ⟨by kernel_rfl, by kernel_rfl, by kernel_rfl⟩
theorem z5 : zeroOf Try.prog 5 = some ([.u8 0]) ∧ ([.u8 0] : List SV).all SV.one = true ∧ (Try.prog.info? 5).map (·.size) = some ([.u8 0] : List SV).length := ⟨by kernel_rfl, by kernel_rfl, by kernel_rfl⟩
theorem z6 : zeroOf Try.prog 6 = some ([.u8 0]) ∧ ([.u8 0] : List SV).all SV.one = true ∧ (Try.prog.info? 6).map (·.size) = some ([.u8 0] : List SV).length := ⟨by kernel_rfl, by kernel_rfl, by kernel_rfl⟩
theorem z7 : zeroOf Try.prog 7 = some ([.i .i64 0, .i .i64 0, .b false, .u8 0]) ∧ ([.i .i64 0, .i .i64 0, .b false, .u8 0] : List SV).all SV.one = true ∧ (Try.prog.info? 7).map (·.size) = some ([.i .i64 0, .i .i64 0, .b false, .u8 0] : List SV).length := ⟨by kernel_rfl, by kernel_rfl, by kernel_rfl⟩
theorem z8 : zeroOf Try.prog 8 = some ([.i .i64 0, .i .i64 0, .b false, .u8 0]) ∧ ([.i .i64 0, .i .i64 0, .b false, .u8 0] : List SV).all SV.one = true ∧ (Try.prog.info? 8).map (·.size) = some ([.i .i64 0, .i .i64 0, .b false, .u8 0] : List SV).length := ⟨by kernel_rfl, by kernel_rfl, by kernel_rfl⟩
theorem z9 : zeroOf Try.prog 9 = some ([.str ⟨#[]⟩]) ∧ ([.str ⟨#[]⟩] : List SV).all SV.one = true ∧ (Try.prog.info? 9).map (·.size) = some ([.str ⟨#[]⟩] : List SV).length := ⟨by kernel_rfl, by kernel_rfl, by kernel_rfl⟩
theorem z10 : zeroOf Try.prog 10 = some ([.str ⟨#[]⟩]) ∧ ([.str ⟨#[]⟩] : List SV).all SV.one = true ∧ (Try.prog.info? 10).map (·.size) = some ([.str ⟨#[]⟩] : List SV).length := ⟨by kernel_rfl, by kernel_rfl, by kernel_rfl⟩
theorem z11 : zeroOf Try.prog 11 = some ([.str ⟨#[]⟩]) ∧ ([.str ⟨#[]⟩] : List SV).all SV.one = true ∧ (Try.prog.info? 11).map (·.size) = some ([.str ⟨#[]⟩] : List SV).length := ⟨by kernel_rfl, by kernel_rfl, by kernel_rfl⟩
theorem z12 : zeroOf Try.prog 12 = some ([.u64 0]) ∧ ([.u64 0] : List SV).all SV.one = true ∧ (Try.prog.info? 12).map (·.size) = some ([.u64 0] : List SV).length := ⟨by kernel_rfl, by kernel_rfl, by kernel_rfl⟩
theorem z13 : zeroOf Try.prog 13 = some ([.str ⟨#[]⟩, .u64 0]) ∧ ([.str ⟨#[]⟩, .u64 0] : List SV).all SV.one = true ∧ (Try.prog.info? 13).map (·.size) = some ([.str ⟨#[]⟩, .u64 0] : List SV).length := ⟨by kernel_rfl, by kernel_rfl, by kernel_rfl⟩
theorem z14 : zeroOf Try.prog 14 = some ([.str ⟨#[]⟩, .u64 0]) ∧ ([.str ⟨#[]⟩, .u64 0] : List SV).all SV.one = true ∧ (Try.prog.info? 14).map (·.size) = some ([.str ⟨#[]⟩, .u64 0] : List SV).length := ⟨by kernel_rfl, by kernel_rfl, by kernel_rfl⟩
theorem z15 : zeroOf Try.prog 15 = some ([.pn]) ∧ ([.pn] : List SV).all SV.one = true ∧ (Try.prog.info? 15).map (·.size) = some ([.pn] : List SV).length := ⟨by kernel_rfl, by kernel_rfl, by kernel_rfl⟩
theorem z16 : zeroOf Try.prog 16 = some ([.pn]) ∧ ([.pn] : List SV).all SV.one = true ∧ (Try.prog.info? 16).map (·.size) = some ([.pn] : List SV).length := ⟨by kernel_rfl, by kernel_rfl, by kernel_rfl⟩
theorem z17 : zeroOf Try.prog 17 = some ([.pn]) ∧ ([.pn] : List SV).all SV.one = true ∧ (Try.prog.info? 17).map (·.size) = some ([.pn] : List SV).length := ⟨by kernel_rfl, by kernel_rfl, by kernel_rfl⟩
theorem z18 : zeroOf Try.prog 18 = some ([.pn]) ∧ ([.pn] : List SV).all SV.one = true ∧ (Try.prog.info? 18).map (·.size) = some ([.pn] : List SV).length := ⟨by kernel_rfl, by kernel_rfl, by kernel_rfl⟩
theorem z19 : zeroOf Try.prog 19 = some ([.pn]) ∧ ([.pn] : List SV).all SV.one = true ∧ (Try.prog.info? 19).map (·.size) = some ([.pn] : List SV).length := ⟨by kernel_rfl, by kernel_rfl, by kernel_rfl⟩
theorem z20 : zeroOf Try.prog 20 = some ([.inil]) ∧ ([.inil] : List SV).all SV.one = true ∧ (Try.prog.info? 20).map (·.size) = some ([.inil] : List SV).length := ⟨by kernel_rfl, by kernel_rfl, by kernel_rfl⟩
theorem z21 : zeroOf Try.prog 21 = some ([.i .i32 0]) ∧ ([.i .i32 0] : List SV).all SV.one = true ∧ (Try.prog.info? 21).map (·.size) = some ([.i .i32 0] : List SV).length := ⟨by kernel_rfl, by kernel_rfl, by kernel_rfl⟩
theorem z22 : zeroOf Try.prog 22 = some ([.sn]) ∧ ([.sn] : List SV).all SV.one = true ∧ (Try.prog.info? 22).map (·.size) = some ([.sn] : List SV).length := ⟨by kernel_rfl, by kernel_rfl, by kernel_rfl⟩
theorem z23 : zeroOf Try.prog 23 = some ([.fnil]) ∧ ([.fnil] : List SV).all SV.one = true ∧ (Try.prog.info? 23).map (·.size) = some ([.fnil] : List SV).length := ⟨by kernel_rfl, by kernel_rfl, by kernel_rfl⟩
theorem z24 : zeroOf Try.prog 24 = some ([.pn]) ∧ ([.pn] : List SV).all SV.one = true ∧ (Try.prog.info? 24).map (·.size) = some ([.pn] : List SV).length := ⟨by kernel_rfl, by kernel_rfl, by kernel_rfl⟩
theorem z25 : zeroOf Try.prog 25 = some ([.fnil]) ∧ ([.fnil] : List SV).all SV.one = true ∧ (Try.prog.info? 25).map (·.size) = some ([.fnil] : List SV).length := ⟨by kernel_rfl, by kernel_rfl, by kernel_rfl⟩
theorem z26 : zeroOf Try.prog 26 = some ([.fnil]) ∧ ([.fnil] : List SV).all SV.one = true ∧ (Try.prog.info? 26).map (·.size) = some ([.fnil] : List SV).length := ⟨by kernel_rfl, by kernel_rfl, by kernel_rfl⟩
theorem z27 : zeroOf Try.prog 27 = some ([.i .i64 0]) ∧ ([.i .i64 0] : List SV).all SV.one = true ∧ (Try.prog.info? 27).map (·.size) = some ([.i .i64 0] : List SV).length := ⟨by kernel_rfl, by kernel_rfl, by kernel_rfl⟩
theorem z28 : zeroOf Try.prog 28 = some ([.fnil]) ∧ ([.fnil] : List SV).all SV.one = true ∧ (Try.prog.info? 28).map (·.size) = some ([.fnil] : List SV).length := ⟨by kernel_rfl, by kernel_rfl, by kernel_rfl⟩
theorem z30 : zeroOf Try.prog 30 = some ([.fnil]) ∧ ([.fnil] : List SV).all SV.one = true ∧ (Try.prog.info? 30).map (·.size) = some ([.fnil] : List SV).length := ⟨by kernel_rfl, by kernel_rfl, by kernel_rfl⟩
theorem z31 : zeroOf Try.prog 31 = some ([.i .i64 0, .i .i64 0, .sn]) ∧ ([.i .i64 0, .i .i64 0, .sn] : List SV).all SV.one = true ∧ (Try.prog.info? 31).map (·.size) = some ([.i .i64 0, .i .i64 0, .sn] : List SV).length := ⟨by kernel_rfl, by kernel_rfl, by kernel_rfl⟩
theorem z32 : zeroOf Try.prog 32 = some ([.i .i64 0, .i .i64 0, .sn]) ∧ ([.i .i64 0, .i .i64 0, .sn] : List SV).all SV.one = true ∧ (Try.prog.info? 32).map (·.size) = some ([.i .i64 0, .i .i64 0, .sn] : List SV).length := ⟨by kernel_rfl, by kernel_rfl, by kernel_rfl⟩
theorem z34 : zeroOf Try.prog 34 = some ([.fnil]) ∧ ([.fnil] : List SV).all SV.one = true ∧ (Try.prog.info? 34).map (·.size) = some ([.fnil] : List SV).length := ⟨by kernel_rfl, by kernel_rfl, by kernel_rfl⟩
theorem z35 : zeroOf Try.prog 35 = some ([.fnil]) ∧ ([.fnil] : List SV).all SV.one = true ∧ (Try.prog.info? 35).map (·.size) = some ([.fnil] : List SV).length := ⟨by kernel_rfl, by kernel_rfl, by kernel_rfl⟩
theorem z36 : zeroOf Try.prog 36 = some ([.fnil]) ∧ ([.fnil] : List SV).all SV.one = true ∧ (Try.prog.info? 36).map (·.size) = some ([.fnil] : List SV).length := ⟨by kernel_rfl, by kernel_rfl, by kernel_rfl⟩
theorem z37 : zeroOf Try.prog 37 = some ([.fnil]) ∧ ([.fnil] : List SV).all SV.one = true ∧ (Try.prog.info? 37).map (·.size) = some ([.fnil] : List SV).length := ⟨by kernel_rfl, by kernel_rfl, by kernel_rfl⟩
theorem z38 : zeroOf Try.prog 38 = some ([.fnil]) ∧ ([.fnil] : List SV).all SV.one = true ∧ (Try.prog.info? 38).map (·.size) = some ([.fnil] : List SV).length := ⟨by kernel_rfl, by kernel_rfl, by kernel_rfl⟩
theorem z39 : zeroOf Try.prog 39 = some ([.sn]) ∧ ([.sn] : List SV).all SV.one = true ∧ (Try.prog.info? 39).map (·.size) = some ([.sn] : List SV).length := ⟨by kernel_rfl, by kernel_rfl, by kernel_rfl⟩
theorem z40 : zeroOf Try.prog 40 = some ([.pn]) ∧ ([.pn] : List SV).all SV.one = true ∧ (Try.prog.info? 40).map (·.size) = some ([.pn] : List SV).length := ⟨by kernel_rfl, by kernel_rfl, by kernel_rfl⟩
theorem z41 : zeroOf Try.prog 41 = some ([.fnil]) ∧ ([.fnil] : List SV).all SV.one = true ∧ (Try.prog.info? 41).map (·.size) = some ([.fnil] : List SV).length := ⟨by kernel_rfl, by kernel_rfl, by kernel_rfl⟩
theorem z42 : zeroOf Try.prog 42 = some ([.i .i64 0, .b false, .i .i64 0, .i .i64 0, .i .i64 0, .i .i64 0, .sn]) ∧ ([.i .i64 0, .b false, .i .i64 0, .i .i64 0, .i .i64 0, .i .i64 0, .sn] : List SV).all SV.one = true ∧ (Try.prog.info? 42).map (·.size) = some ([.i .i64 0, .b false, .i .i64 0, .i .i64 0, .i .i64 0, .i .i64 0, .sn] : List SV).length := ⟨by kernel_rfl, by kernel_rfl, by kernel_rfl⟩
theorem z43 : zeroOf Try.prog 43 = some ([.i .i64 0, .b false, .i .i64 0, .i .i64 0, .i .i64 0, .i .i64 0, .sn]) ∧ ([.i .i64 0, .b false, .i .i64 0, .i .i64 0, .i .i64 0, .i .i64 0, .sn] : List SV).all SV.one = true ∧ (Try.prog.info? 43).map (·.size) = some ([.i .i64 0, .b false, .i .i64 0, .i .i64 0, .i .i64 0, .i .i64 0, .sn] : List SV).length := ⟨by kernel_rfl, by kernel_rfl, by kernel_rfl⟩
theorem z44 : zeroOf Try.prog 44 = some ([.fnil]) ∧ ([.fnil] : List SV).all SV.one = true ∧ (Try.prog.info? 44).map (·.size) = some ([.fnil] : List SV).length := ⟨by kernel_rfl, by kernel_rfl, by kernel_rfl⟩
theorem z45 : zeroOf Try.prog 45 = some ([.fnil]) ∧ ([.fnil] : List SV).all SV.one = true ∧ (Try.prog.info? 45).map (·.size) = some ([.fnil] : List SV).length := ⟨by kernel_rfl, by kernel_rfl, by kernel_rfl⟩
theorem z46 : zeroOf Try.prog 46 = some ([.sn]) ∧ ([.sn] : List SV).all SV.one = true ∧ (Try.prog.info? 46).map (·.size) = some ([.sn] : List SV).length := ⟨by kernel_rfl, by kernel_rfl, by kernel_rfl⟩
theorem z47 : zeroOf Try.prog 47 = some ([.pn]) ∧ ([.pn] : List SV).all SV.one = true ∧ (Try.prog.info? 47).map (·.size) = some ([.pn] : List SV).length := ⟨by kernel_rfl, by kernel_rfl, by kernel_rfl⟩
theorem z48 : zeroOf Try.prog 48 = some ([.pn, .pn, .sn, .b false]) ∧ ([.pn, .pn, .sn, .b false] : List SV).all SV.one = true ∧ (Try.prog.info? 48).map (·.size) = some ([.pn, .pn, .sn, .b false] : List SV).length := ⟨by kernel_rfl, by kernel_rfl, by kernel_rfl⟩
theorem z49 : zeroOf Try.prog 49 = some ([.pn, .pn, .sn, .b false]) ∧ ([.pn, .pn, .sn, .b false] : List SV).all SV.one = true ∧ (Try.prog.info? 49).map (·.size) = some ([.pn, .pn, .sn, .b false] : List SV).length := ⟨by kernel_rfl, by kernel_rfl, by kernel_rfl⟩
theorem z50 : zeroOf Try.prog 50 = some ([.sn]) ∧ ([.sn] : List SV).all SV.one = true ∧ (Try.prog.info? 50).map (·.size) = some ([.sn] : List SV).length := ⟨by kernel_rfl, by kernel_rfl, by kernel_rfl⟩
theorem z51 : zeroOf Try.prog 51 = some ([.fnil]) ∧ ([.fnil] : List SV).all SV.one = true ∧ (Try.prog.info? 51).map (·.size) = some ([.fnil] : List SV).length := ⟨by kernel_rfl, by kernel_rfl, by kernel_rfl⟩
theorem z52 : zeroOf Try.prog 52 = some ([.fnil]) ∧ ([.fnil] : List SV).all SV.one = true ∧ (Try.prog.info? 52).map (·.size) = some ([.fnil] : List SV).length := ⟨by kernel_rfl, by kernel_rfl, by kernel_rfl⟩
theorem z53 : zeroOf Try.prog 53 = some ([.sn]) ∧ ([.sn] : List SV).all SV.one = true ∧ (Try.prog.info? 53).map (·.size) = some ([.sn] : List SV).length := ⟨by kernel_rfl, by kernel_rfl, by kernel_rfl⟩
theorem z54 : zeroOf Try.prog 54 = some ([.sn]) ∧ ([.sn] : List SV).all SV.one = true ∧ (Try.prog.info? 54).map (·.size) = some ([.sn] : List SV).length := ⟨by kernel_rfl, by kernel_rfl, by kernel_rfl⟩
theorem z55 : zeroOf Try.prog 55 = some ([.fnil]) ∧ ([.fnil] : List SV).all SV.one = true ∧ (Try.prog.info? 55).map (·.size) = some ([.fnil] : List SV).length := ⟨by kernel_rfl, by kernel_rfl, by kernel_rfl⟩
theorem z56 : zeroOf Try.prog 56 = some ([.fnil]) ∧ ([.fnil] : List SV).all SV.one = true ∧ (Try.prog.info? 56).map (·.size) = some ([.fnil] : List SV).length := ⟨by kernel_rfl, by kernel_rfl, by kernel_rfl⟩
theorem z57 : zeroOf Try.prog 57 = some ([.fnil]) ∧ ([.fnil] : List SV).all SV.one = true ∧ (Try.prog.info? 57).map (·.size) = some ([.fnil] : List SV).length := ⟨by kernel_rfl, by kernel_rfl, by kernel_rfl⟩
theorem z58 : zeroOf Try.prog 58 = some ([.fnil]) ∧ ([.fnil] : List SV).all SV.one = true ∧ (Try.prog.info? 58).map (·.size) = some ([.fnil] : List SV).length := ⟨by kernel_rfl, by kernel_rfl, by kernel_rfl⟩
theorem z59 : zeroOf Try.prog 59 = some ([.fnil]) ∧ ([.fnil] : List SV).all SV.one = true ∧ (Try.prog.info? 59).map (·.size) = some ([.fnil] : List SV).length := ⟨by kernel_rfl, by kernel_rfl, by kernel_rfl⟩
theorem z60 : zeroOf Try.prog 60 = some ([.fnil]) ∧ ([.fnil] : List SV).all SV.one = true ∧ (Try.prog.info? 60).map (·.size) = some ([.fnil] : List SV).length := ⟨by kernel_rfl, by kernel_rfl, by kernel_rfl⟩
theorem z61 : zeroOf Try.prog 61 = some ([.mn]) ∧ ([.mn] : List SV).all SV.one = true ∧ (Try.prog.info? 61).map (·.size) = some ([.mn] : List SV).length := ⟨by kernel_rfl, by kernel_rfl, by kernel_rfl⟩
theorem z62 : zeroOf Try.prog 62 = some ([.mn, .i .i64 0]) ∧ ([.mn, .i .i64 0] : List SV).all SV.one = true ∧ (Try.prog.info? 62).map (·.size) = some ([.mn, .i .i64 0] : List SV).length := ⟨by kernel_rfl, by kernel_rfl, by kernel_rfl⟩
theorem z63 : zeroOf Try.prog 63 = some ([.mn, .i .i64 0]) ∧ ([.mn, .i .i64 0] : List SV).all SV.one = true ∧ (Try.prog.info? 63).map (·.size) = some ([.mn, .i .i64 0] : List SV).length := ⟨by kernel_rfl, by kernel_rfl, by kernel_rfl⟩
theorem z64 : zeroOf Try.prog 64 = some ([.i .i64 0, .sn]) ∧ ([.i .i64 0, .sn] : List SV).all SV.one = true ∧ (Try.prog.info? 64).map (·.size) = some ([.i .i64 0, .sn] : List SV).length := ⟨by kernel_rfl, by kernel_rfl, by kernel_rfl⟩
theorem z65 : zeroOf Try.prog 65 = some ([.i .i64 0, .sn]) ∧ ([.i .i64 0, .sn] : List SV).all SV.one = true ∧ (Try.prog.info? 65).map (·.size) = some ([.i .i64 0, .sn] : List SV).length := ⟨by kernel_rfl, by kernel_rfl, by kernel_rfl⟩
theorem z67 : zeroOf Try.prog 67 = some ([.fnil]) ∧ ([.fnil] : List SV).all SV.one = true ∧ (Try.prog.info? 67).map (·.size) = some ([.fnil] : List SV).length := ⟨by kernel_rfl, by kernel_rfl, by kernel_rfl⟩
theorem z68 : zeroOf Try.prog 68 = some ([.fnil]) ∧ ([.fnil] : List SV).all SV.one = true ∧ (Try.prog.info? 68).map (·.size) = some ([.fnil] : List SV).length := ⟨by kernel_rfl, by kernel_rfl, by kernel_rfl⟩
theorem z70 : zeroOf Try.prog 70 = some ([.fnil]) ∧ ([.fnil] : List SV).all SV.one = true ∧ (Try.prog.info? 70).map (·.size) = some ([.fnil] : List SV).length := ⟨by kernel_rfl, by kernel_rfl, by kernel_rfl⟩
theorem z71 : zeroOf Try.prog 71 = some ([.fnil]) ∧ ([.fnil] : List SV).all SV.one = true ∧ (Try.prog.info? 71).map (·.size) = some ([.fnil] : List SV).length := ⟨by kernel_rfl, by kernel_rfl, by kernel_rfl⟩
theorem z73 : zeroOf Try.prog 73 = some ([.fnil]) ∧ ([.fnil] : List SV).all SV.one = true ∧ (Try.prog.info? 73).map (·.size) = some ([.fnil] : List SV).length := ⟨by kernel_rfl, by kernel_rfl, by kernel_rfl⟩
theorem z74 : zeroOf Try.prog 74 = some ([.fnil]) ∧ ([.fnil] : List SV).all SV.one = true ∧ (Try.prog.info? 74).map (·.size) = some ([.fnil] : List SV).length := ⟨by kernel_rfl, by kernel_rfl, by kernel_rfl⟩
theorem z75 : zeroOf Try.prog 75 = some ([.sn, .i .i64 0]) ∧ ([.sn, .i .i64 0] : List SV).all SV.one = true ∧ (Try.prog.info? 75).map (·.size) = some ([.sn, .i .i64 0] : List SV).length := ⟨by kernel_rfl, by kernel_rfl, by kernel_rfl⟩
theorem z76 : zeroOf Try.prog 76 = some ([.sn, .i .i64 0]) ∧ ([.sn, .i .i64 0] : List SV).all SV.one = true ∧ (Try.prog.info? 76).map (·.size) = some ([.sn, .i .i64 0] : List SV).length := ⟨by kernel_rfl, by kernel_rfl, by kernel_rfl⟩
theorem z77 : zeroOf Try.prog 77 = some ([.fnil]) ∧ ([.fnil] : List SV).all SV.one = true ∧ (Try.prog.info? 77).map (·.size) = some ([.fnil] : List SV).length := ⟨by kernel_rfl, by kernel_rfl, by kernel_rfl⟩
theorem z78 : zeroOf Try.prog 78 = some ([.fnil]) ∧ ([.fnil] : List SV).all SV.one = true ∧ (Try.prog.info? 78).map (·.size) = some ([.fnil] : List SV).length := ⟨by kernel_rfl, by kernel_rfl, by kernel_rfl⟩
theorem z79 : zeroOf Try.prog 79 = some ([.fnil]) ∧ ([.fnil] : List SV).all SV.one = true ∧ (Try.prog.info? 79).map (·.size) = some ([.fnil] : List SV).length := ⟨by kernel_rfl, by kernel_rfl, by kernel_rfl⟩
theorem z80 : zeroOf Try.prog 80 = some ([.fnil]) ∧ ([.fnil] : List SV).all SV.one = true ∧ (Try.prog.info? 80).map (·.size) = some ([.fnil] : List SV).length := ⟨by kernel_rfl, by kernel_rfl, by kernel_rfl⟩
theorem z81 : zeroOf Try.prog 81 = some ([.fnil]) ∧ ([.fnil] : List SV).all SV.one = true ∧ (Try.prog.info? 81).map (·.size) = some ([.fnil] : List SV).length := ⟨by kernel_rfl, by kernel_rfl, by kernel_rfl⟩
theorem z82 : zeroOf Try.prog 82 = some ([.u64 0]) ∧ ([.u64 0] : List SV).all SV.one = true ∧ (Try.prog.info? 82).map (·.size) = some ([.u64 0] : List SV).length := ⟨by kernel_rfl, by kernel_rfl, by kernel_rfl⟩
theorem z83 : zeroOf Try.prog 83 = some ([.fnil]) ∧ ([.fnil] : List SV).all SV.one = true ∧ (Try.prog.info? 83).map (·.size) = some ([.fnil] : List SV).length := ⟨by kernel_rfl, by kernel_rfl, by kernel_rfl⟩
theorem z84 : zeroOf Try.prog 84 = some ([.i .i64 0]) ∧ ([.i .i64 0] : List SV).all SV.one = true ∧ (Try.prog.info? 84).map (·.size) = some ([.i .i64 0] : List SV).length := ⟨by kernel_rfl, by kernel_rfl, by kernel_rfl⟩
theorem z86 : zeroOf Try.prog 86 = some ([.fnil]) ∧ ([.fnil] : List SV).all SV.one = true ∧ (Try.prog.info? 86).map (·.size) = some ([.fnil] : List SV).length := ⟨by kernel_rfl, by kernel_rfl, by kernel_rfl⟩
theorem z87 : zeroOf Try.prog 87 = some ([.fnil]) ∧ ([.fnil] : List SV).all SV.one = true ∧ (Try.prog.info? 87).map (·.size) = some ([.fnil] : List SV).length := ⟨by kernel_rfl, by kernel_rfl, by kernel_rfl⟩
theorem z88 : zeroOf Try.prog 88 = some ([.fnil]) ∧ ([.fnil] : List SV).all SV.one = true ∧ (Try.prog.info? 88).map (·.size) = some ([.fnil] : List SV).length := ⟨by kernel_rfl, by kernel_rfl, by kernel_rfl⟩
theorem z90 : zeroOf Try.prog 90 = some ([.fnil]) ∧ ([.fnil] : List SV).all SV.one = true ∧ (Try.prog.info? 90).map (·.size) = some ([.fnil] : List SV).length := ⟨by kernel_rfl, by kernel_rfl, by kernel_rfl⟩
theorem z91 : zeroOf Try.prog 91 = some ([.fnil]) ∧ ([.fnil] : List SV).all SV.one = true ∧ (Try.prog.info? 91).map (·.size) = some ([.fnil] : List SV).length := ⟨by kernel_rfl, by kernel_rfl, by kernel_rfl⟩
theorem z92 : zeroOf Try.prog 92 = some ([.u32 0]) ∧ ([.u32 0] : List SV).all SV.one = true ∧ (Try.prog.info? 92).map (·.size) = some ([.u32 0] : List SV).length := ⟨by kernel_rfl, by kernel_rfl, by kernel_rfl⟩
theorem z93 : zeroOf Try.prog 93 = some ([.fnil]) ∧ ([.fnil] : List SV).all SV.one = true ∧ (Try.prog.info? 93).map (·.size) = some ([.fnil] : List SV).length := ⟨by kernel_rfl, by kernel_rfl, by kernel_rfl⟩
theorem z94 : zeroOf Try.prog 94 = some ([.u64 0]) ∧ ([.u64 0] : List SV).all SV.one = true ∧ (Try.prog.info? 94).map (·.size) = some ([.u64 0] : List SV).length := ⟨by kernel_rfl, by kernel_rfl, by kernel_rfl⟩
theorem z95 : zeroOf Try.prog 95 = some ([.u64 0]) ∧ ([.u64 0] : List SV).all SV.one = true ∧ (Try.prog.info? 95).map (·.size) = some ([.u64 0] : List SV).length := ⟨by kernel_rfl, by kernel_rfl, by kernel_rfl⟩
theorem z96 : zeroOf Try.prog 96 = some ([.fnil]) ∧ ([.fnil] : List SV).all SV.one = true ∧ (Try.prog.info? 96).map (·.size) = some ([.fnil] : List SV).length := ⟨by kernel_rfl, by kernel_rfl, by kernel_rfl⟩
theorem z97 : zeroOf Try.prog 97 = some ([.fnil]) ∧ ([.fnil] : List SV).all SV.one = true ∧ (Try.prog.info? 97).map (·.size) = some ([.fnil] : List SV).length := ⟨by kernel_rfl, by kernel_rfl, by kernel_rfl⟩
theorem z98 : zeroOf Try.prog 98 = some ([.fnil]) ∧ ([.fnil] : List SV).all SV.one = true ∧ (Try.prog.info? 98).map (·.size) = some ([.fnil] : List SV).length := ⟨by kernel_rfl, by kernel_rfl, by kernel_rfl⟩
theorem z99 : zeroOf Try.prog 99 = some ([.pn]) ∧ ([.pn] : List SV).all SV.one = true ∧ (Try.prog.info? 99).map (·.size) = some ([.pn] : List SV).length := ⟨by kernel_rfl, by kernel_rfl, by kernel_rfl⟩
theorem z100 : zeroOf Try.prog 100 = some ([.fnil]) ∧ ([.fnil] : List SV).all SV.one = true ∧ (Try.prog.info? 100).map (·.size) = some ([.fnil] : List SV).length := ⟨by kernel_rfl, by kernel_rfl, by kernel_rfl⟩
theorem z101 : zeroOf Try.prog 101 = some ([.pn]) ∧ ([.pn] : List SV).all SV.one = true ∧ (Try.prog.info? 101).map (·.size) = some ([.pn] : List SV).length := ⟨by kernel_rfl, by kernel_rfl, by kernel_rfl⟩
theorem z102 : zeroOf Try.prog 102 = some ([.fnil]) ∧ ([.fnil] : List SV).all SV.one = true ∧ (Try.prog.info? 102).map (·.size) = some ([.fnil] : List SV).length := ⟨by kernel_rfl, by kernel_rfl, by kernel_rfl⟩
theorem z103 : zeroOf Try.prog 103 = some ([.fnil]) ∧ ([.fnil] : List SV).all SV.one = true ∧ (Try.prog.info? 103).map (·.size) = some ([.fnil] : List SV).length := ⟨by kernel_rfl, by kernel_rfl, by kernel_rfl⟩
theorem z104 : zeroOf Try.prog 104 = some ([.pn, .pn, .pn, .str ⟨#[]⟩]) ∧ ([.pn, .pn, .pn, .str ⟨#[]⟩] : List SV).all SV.one = true ∧ (Try.prog.info? 104).map (·.size) = some ([.pn, .pn, .pn, .str ⟨#[]⟩] : List SV).length := ⟨by kernel_rfl, by kernel_rfl, by kernel_rfl⟩
theorem z105 : zeroOf Try.prog 105 = some ([.pn, .pn, .pn, .str ⟨#[]⟩]) ∧ ([.pn, .pn, .pn, .str ⟨#[]⟩] : List SV).all SV.one = true ∧ (Try.prog.info? 105).map (·.size) = some ([.pn, .pn, .pn, .str ⟨#[]⟩] : List SV).length := ⟨by kernel_rfl, by kernel_rfl, by kernel_rfl⟩
theorem z106 : zeroOf Try.prog 106 = some ([]) ∧ ([] : List SV).all SV.one = true ∧ (Try.prog.info? 106).map (·.size) = some ([] : List SV).length := ⟨by kernel_rfl, by kernel_rfl, by kernel_rfl⟩
theorem z107 : zeroOf Try.prog 107 = some ([]) ∧ ([] : List SV).all SV.one = true ∧ (Try.prog.info? 107).map (·.size) = some ([] : List SV).length := ⟨by kernel_rfl, by kernel_rfl, by kernel_rfl⟩
theorem z108 : zeroOf Try.prog 108 = some ([]) ∧ ([] : List SV).all SV.one = true ∧ (Try.prog.info? 108).map (·.size) = some ([] : List SV).length := ⟨by kernel_rfl, by kernel_rfl, by kernel_rfl⟩
theorem z109 : zeroOf Try.prog 109 = some ([.fnil]) ∧ ([.fnil] : List SV).all SV.one = true ∧ (Try.prog.info? 109).map (·.size) = some ([.fnil] : List SV).length := ⟨by kernel_rfl, by kernel_rfl, by kernel_rfl⟩
theorem z110 : zeroOf Try.prog 110 = some ([.u8 0]) ∧ ([.u8 0] : List SV).all SV.one = true ∧ (Try.prog.info? 110).map (·.size) = some ([.u8 0] : List SV).length := ⟨by kernel_rfl, by kernel_rfl, by kernel_rfl⟩
theorem z111 : zeroOf Try.prog 111 = some ([.u8 0]) ∧ ([.u8 0] : List SV).all SV.one = true ∧ (Try.prog.info? 111).map (·.size) = some ([.u8 0] : List SV).length := ⟨by kernel_rfl, by kernel_rfl, by kernel_rfl⟩
theorem z112 : zeroOf Try.prog 112 = some ([.fnil]) ∧ ([.fnil] : List SV).all SV.one = true ∧ (Try.prog.info? 112).map (·.size) = some ([.fnil] : List SV).length := ⟨by kernel_rfl, by kernel_rfl, by kernel_rfl⟩
theorem z113 : zeroOf Try.prog 113 = some ([.pn]) ∧ ([.pn] : List SV).all SV.one = true ∧ (Try.prog.info? 113).map (·.size) = some ([.pn] : List SV).length := ⟨by kernel_rfl, by kernel_rfl, by kernel_rfl⟩
theorem z114 : zeroOf Try.prog 114 = some ([.i .i32 0]) ∧ ([.i .i32 0] : List SV).all SV.one = true ∧ (Try.prog.info? 114).map (·.size) = some ([.i .i32 0] : List SV).length := ⟨by kernel_rfl, by kernel_rfl, by kernel_rfl⟩
theorem z115 : zeroOf Try.prog 115 = some ([.i .i32 0]) ∧ ([.i .i32 0] : List SV).all SV.one = true ∧ (Try.prog.info? 115).map (·.size) = some ([.i .i32 0] : List SV).length := ⟨by kernel_rfl, by kernel_rfl, by kernel_rfl⟩
theorem z116 : zeroOf Try.prog 116 = some ([.u64 0, .u64 0, .u32 0, .u8 0, .u8 0, .u8 0, .u8 0, .fnil, .pn, .i .i32 0, .i .i32 0]) ∧ ([.u64 0, .u64 0, .u32 0, .u8 0, .u8 0, .u8 0, .u8 0, .fnil, .pn, .i .i32 0, .i .i32 0] : List SV).all SV.one = true ∧ (Try.prog.info? 116).map (·.size) = some ([.u64 0, .u64 0, .u32 0, .u8 0, .u8 0, .u8 0, .u8 0, .fnil, .pn, .i .i32 0, .i .i32 0] : List SV).length := ⟨by kernel_rfl, by kernel_rfl, by kernel_rfl⟩
theorem z117 : zeroOf Try.prog 117 = some ([.u64 0, .u64 0, .u32 0, .u8 0, .u8 0, .u8 0, .u8 0, .fnil, .pn, .i .i32 0, .i .i32 0]) ∧ ([.u64 0, .u64 0, .u32 0, .u8 0, .u8 0, .u8 0, .u8 0, .fnil, .pn, .i .i32 0, .i .i32 0] : List SV).all SV.one = true ∧ (Try.prog.info? 117).map (·.size) = some ([.u64 0, .u64 0, .u32 0, .u8 0, .u8 0, .u8 0, .u8 0, .fnil, .pn, .i .i32 0, .i .i32 0] : List SV).length := ⟨by kernel_rfl, by kernel_rfl, by kernel_rfl⟩
@[go_sem] theorem tk1 : tab.k 1 = .func := rfl
@[go_sem] theorem tz1 : tab.z 1 = some (([.fnil] : List SV)) := rfl
@[go_sem] theorem tk2 : tab.k 2 = .int .i64 := rfl
@[go_sem] theorem tz2 : tab.z 2 = some (([.i .i64 0] : List SV)) := rfl
@[go_sem] theorem tk3 : tab.k 3 = .int .i64 := rfl
@[go_sem] theorem tz3 : tab.z 3 = some (([.i .i64 0] : List SV)) := rfl
@[go_sem] theorem tk4 : tab.k 4 = .bool := rfl
@[go_sem] theorem tz4 : tab.z 4 = some (([.b false] : List SV)) := rfl
@[go_sem] theorem tk5 : tab.k 5 = .int .u8 := rfl
@[go_sem] theorem tz5 : tab.z 5 = some (([.u8 0] : List SV)) := rfl
@[go_sem] theorem tk6 : tab.k 6 = .int .u8 := rfl
@[go_sem] theorem tz6 : tab.z 6 = some (([.u8 0] : List SV)) := rfl
@[go_sem] theorem tk7 : tab.k 7 = .struct 4 := rfl
@[go_sem] theorem tz7 : tab.z 7 = some (([.i .i64 0, .i .i64 0, .b false, .u8 0] : List SV)) := rfl
@[go_sem] theorem te7 : tab.eqp.getD 7 false = true := rfl
@[go_sem] theorem tf7_0 : tab.f 7 0 = some (0, 1, 2) := rfl
@[go_sem] theorem tf7_1 : tab.f 7 1 = some (1, 1, 3) := rfl
@[go_sem] theorem tf7_2 : tab.f 7 2 = some (2, 1, 4) := rfl
@[go_sem] theorem tf7_3 : tab.f 7 3 = some (3, 1, 6) := rfl
@[go_sem] theorem tk8 : tab.k 8 = .struct 4 := rfl
@[go_sem] theorem tz8 : tab.z 8 = some (([.i .i64 0, .i .i64 0, .b false, .u8 0] : List SV)) := rfl
@[go_sem] theorem te8 : tab.eqp.getD 8 false = true := rfl
@[go_sem] theorem tf8_0 : tab.f 8 0 = some (0, 1, 2) := rfl
@[go_sem] theorem tf8_1 : tab.f 8 1 = some (1, 1, 3) := rfl
@[go_sem] theorem tf8_2 : tab.f 8 2 = some (2, 1, 4) := rfl
@[go_sem] theorem tf8_3 : tab.f 8 3 = some (3, 1, 6) := rfl
@[go_sem] theorem tk9 : tab.k 9 = .str := rfl
@[go_sem] theorem tz9 : tab.z 9 = some (([.str ⟨#[]⟩] : List SV)) := rfl
@[go_sem] theorem tk10 : tab.k 10 = .str := rfl
@[go_sem] theorem tz10 : tab.z 10 = some (([.str ⟨#[]⟩] : List SV)) := rfl
@[go_sem] theorem tk11 : tab.k 11 = .str := rfl
@[go_sem] theorem tz11 : tab.z 11 = some (([.str ⟨#[]⟩] : List SV)) := rfl
@[go_sem] theorem tk12 : tab.k 12 = .int .u64 := rfl
@[go_sem] theorem tz12 : tab.z 12 = some (([.u64 0] : List SV)) := rfl
@[go_sem] theorem tk13 : tab.k 13 = .struct 2 := rfl
@[go_sem] theorem tz13 : tab.z 13 = some (([.str ⟨#[]⟩, .u64 0] : List SV)) := rfl
@[go_sem] theorem te13 : tab.eqp.getD 13 false = true := rfl
@[go_sem] theorem tf13_0 : tab.f 13 0 = some (0, 1, 9) := rfl
@[go_sem] theorem tf13_1 : tab.f 13 1 = some (1, 1, 12) := rfl
@[go_sem] theorem tk14 : tab.k 14 = .struct 2 := rfl
@[go_sem] theorem tz14 : tab.z 14 = some (([.str ⟨#[]⟩, .u64 0] : List SV)) := rfl
@[go_sem] theorem te14 : tab.eqp.getD 14 false = true := rfl
@[go_sem] theorem tf14_0 : tab.f 14 0 = some (0, 1, 9) := rfl
@[go_sem] theorem tf14_1 : tab.f 14 1 = some (1, 1, 12) := rfl
@[go_sem] theorem tk15 : tab.k 15 = .ptr := rfl
@[go_sem] theorem tz15 : tab.z 15 = some (([.pn] : List SV)) := rfl
@[go_sem] theorem tk16 : tab.k 16 = .ptr := rfl
@[go_sem] theorem tz16 : tab.z 16 = some (([.pn] : List SV)) := rfl
@[go_sem] theorem tk17 : tab.k 17 = .ptr := rfl
@[go_sem] theorem tz17 : tab.z 17 = some (([.pn] : List SV)) := rfl
@[go_sem] theorem tk18 : tab.k 18 = .struct 1 := rfl
@[go_sem] theorem tz18 : tab.z 18 = some (([.pn] : List SV)) := rfl
@[go_sem] theorem te18 : tab.eqp.getD 18 false = true := rfl
@[go_sem] theorem tf18_0 : tab.f 18 0 = some (0, 1, 17) := rfl
@[go_sem] theorem tk19 : tab.k 19 = .struct 1 := rfl
@[go_sem] theorem tz19 : tab.z 19 = some (([.pn] : List SV)) := rfl
@[go_sem] theorem te19 : tab.eqp.getD 19 false = true := rfl
@[go_sem] theorem tf19_0 : tab.f 19 0 = some (0, 1, 17) := rfl
@[go_sem] theorem tk20 : tab.k 20 = .iface := rfl
@[go_sem] theorem tz20 : tab.z 20 = some (([.inil] : List SV)) := rfl
@[go_sem] theorem tk21 : tab.k 21 = .int .i32 := rfl
@[go_sem] theorem tz21 : tab.z 21 = some (([.i .i32 0] : List SV)) := rfl
@[go_sem] theorem tk22 : tab.k 22 = .slice 5 1 1 := rfl
@[go_sem] theorem tz22 : tab.z 22 = some (([.sn] : List SV)) := rfl
@[go_sem] theorem tk23 : tab.k 23 = .func := rfl
@[go_sem] theorem tz23 : tab.z 23 = some (([.fnil] : List SV)) := rfl
@[go_sem] theorem tk24 : tab.k 24 = .ptr := rfl
@[go_sem] theorem tz24 : tab.z 24 = some (([.pn] : List SV)) := rfl
@[go_sem] theorem tk25 : tab.k 25 = .func := rfl
@[go_sem] theorem tz25 : tab.z 25 = some (([.fnil] : List SV)) := rfl
@[go_sem] theorem tk26 : tab.k 26 = .func := rfl
@[go_sem] theorem tz26 : tab.z 26 = some (([.fnil] : List SV)) := rfl
@[go_sem] theorem tk27 : tab.k 27 = .int .i64 := rfl
@[go_sem] theorem tz27 : tab.z 27 = some (([.i .i64 0] : List SV)) := rfl
@[go_sem] theorem tk28 : tab.k 28 = .func := rfl
@[go_sem] theorem tz28 : tab.z 28 = some (([.fnil] : List SV)) := rfl
@[go_sem] theorem tk30 : tab.k 30 = .func := rfl
@[go_sem] theorem tz30 : tab.z 30 = some (([.fnil] : List SV)) := rfl
@[go_sem] theorem tk31 : tab.k 31 = .struct 3 := rfl
@[go_sem] theorem tz31 : tab.z 31 = some (([.i .i64 0, .i .i64 0, .sn] : List SV)) := rfl
@[go_sem] theorem te31 : tab.eqp.getD 31 false = true := rfl
@[go_sem] theorem tf31_0 : tab.f 31 0 = some (0, 1, 3) := rfl
@[go_sem] theorem tf31_1 : tab.f 31 1 = some (1, 1, 3) := rfl
@[go_sem] theorem tf31_2 : tab.f 31 2 = some (2, 1, 22) := rfl
@[go_sem] theorem tk32 : tab.k 32 = .struct 3 := rfl
@[go_sem] theorem tz32 : tab.z 32 = some (([.i .i64 0, .i .i64 0, .sn] : List SV)) := rfl
@[go_sem] theorem te32 : tab.eqp.getD 32 false = true := rfl
@[go_sem] theorem tf32_0 : tab.f 32 0 = some (0, 1, 3) := rfl
@[go_sem] theorem tf32_1 : tab.f 32 1 = some (1, 1, 3) := rfl
@[go_sem] theorem tf32_2 : tab.f 32 2 = some (2, 1, 22) := rfl
@[go_sem] theorem tk34 : tab.k 34 = .func := rfl
@[go_sem] theorem tz34 : tab.z 34 = some (([.fnil] : List SV)) := rfl
@[go_sem] theorem tk35 : tab.k 35 = .func := rfl
@[go_sem] theorem tz35 : tab.z 35 = some (([.fnil] : List SV)) := rfl
@[go_sem] theorem tk36 : tab.k 36 = .func := rfl
@[go_sem] theorem tz36 : tab.z 36 = some (([.fnil] : List SV)) := rfl
@[go_sem] theorem tk37 : tab.k 37 = .func := rfl
@[go_sem] theorem tz37 : tab.z 37 = some (([.fnil] : List SV)) := rfl
@[go_sem] theorem tk38 : tab.k 38 = .func := rfl
@[go_sem] theorem tz38 : tab.z 38 = some (([.fnil] : List SV)) := rfl
@[go_sem] theorem tk39 : tab.k 39 = .slice 43 7 72 := rfl
@[go_sem] theorem tz39 : tab.z 39 = some (([.sn] : List SV)) := rfl
@[go_sem] theorem tk40 : tab.k 40 = .ptr := rfl
@[go_sem] theorem tz40 : tab.z 40 = some (([.pn] : List SV)) := rfl
@[go_sem] theorem tk41 : tab.k 41 = .func := rfl
@[go_sem] theorem tz41 : tab.z 41 = some (([.fnil] : List SV)) := rfl
@[go_sem] theorem tk42 : tab.k 42 = .struct 7 := rfl
@[go_sem] theorem tz42 : tab.z 42 = some (([.i .i64 0, .b false, .i .i64 0, .i .i64 0, .i .i64 0, .i .i64 0, .sn] : List SV)) := rfl
@[go_sem] theorem te42 : tab.eqp.getD 42 false = true := rfl
@[go_sem] theorem tf42_0 : tab.f 42 0 = some (0, 1, 3) := rfl
@[go_sem] theorem tf42_1 : tab.f 42 1 = some (1, 1, 4) := rfl
@[go_sem] theorem tf42_2 : tab.f 42 2 = some (2, 1, 3) := rfl
@[go_sem] theorem tf42_3 : tab.f 42 3 = some (3, 1, 3) := rfl
@[go_sem] theorem tf42_4 : tab.f 42 4 = some (4, 1, 3) := rfl
@[go_sem] theorem tf42_5 : tab.f 42 5 = some (5, 1, 3) := rfl
@[go_sem] theorem tf42_6 : tab.f 42 6 = some (6, 1, 22) := rfl
@[go_sem] theorem tk43 : tab.k 43 = .struct 7 := rfl
@[go_sem] theorem tz43 : tab.z 43 = some (([.i .i64 0, .b false, .i .i64 0, .i .i64 0, .i .i64 0, .i .i64 0, .sn] : List SV)) := rfl
@[go_sem] theorem te43 : tab.eqp.getD 43 false = true := rfl
@[go_sem] theorem tf43_0 : tab.f 43 0 = some (0, 1, 3) := rfl
@[go_sem] theorem tf43_1 : tab.f 43 1 = some (1, 1, 4) := rfl
@[go_sem] theorem tf43_2 : tab.f 43 2 = some (2, 1, 3) := rfl
@[go_sem] theorem tf43_3 : tab.f 43 3 = some (3, 1, 3) := rfl
@[go_sem] theorem tf43_4 : tab.f 43 4 = some (4, 1, 3) := rfl
@[go_sem] theorem tf43_5 : tab.f 43 5 = some (5, 1, 3) := rfl
@[go_sem] theorem tf43_6 : tab.f 43 6 = some (6, 1, 22) := rfl
@[go_sem] theorem tk44 : tab.k 44 = .func := rfl
@[go_sem] theorem tz44 : tab.z 44 = some (([.fnil] : List SV)) := rfl
@[go_sem] theorem tk45 : tab.k 45 = .func := rfl
@[go_sem] theorem tz45 : tab.z 45 = some (([.fnil] : List SV)) := rfl
@[go_sem] theorem tk46 : tab.k 46 = .slice 3 1 8 := rfl
@[go_sem] theorem tz46 : tab.z 46 = some (([.sn] : List SV)) := rfl
@[go_sem] theorem tk47 : tab.k 47 = .ptr := rfl
@[go_sem] theorem tz47 : tab.z 47 = some (([.pn] : List SV)) := rfl
@[go_sem] theorem tk48 : tab.k 48 = .struct 4 := rfl
@[go_sem] theorem tz48 : tab.z 48 = some (([.pn, .pn, .sn, .b false] : List SV)) := rfl
@[go_sem] theorem te48 : tab.eqp.getD 48 false = true := rfl
@[go_sem] theorem tf48_0 : tab.f 48 0 = some (0, 1, 24) := rfl
@[go_sem] theorem tf48_1 : tab.f 48 1 = some (1, 1, 47) := rfl
@[go_sem] theorem tf48_2 : tab.f 48 2 = some (2, 1, 22) := rfl
@[go_sem] theorem tf48_3 : tab.f 48 3 = some (3, 1, 4) := rfl
@[go_sem] theorem tk49 : tab.k 49 = .struct 4 := rfl
@[go_sem] theorem tz49 : tab.z 49 = some (([.pn, .pn, .sn, .b false] : List SV)) := rfl
@[go_sem] theorem te49 : tab.eqp.getD 49 false = true := rfl
@[go_sem] theorem tf49_0 : tab.f 49 0 = some (0, 1, 24) := rfl
@[go_sem] theorem tf49_1 : tab.f 49 1 = some (1, 1, 47) := rfl
@[go_sem] theorem tf49_2 : tab.f 49 2 = some (2, 1, 22) := rfl
@[go_sem] theorem tf49_3 : tab.f 49 3 = some (3, 1, 4) := rfl
@[go_sem] theorem tk50 : tab.k 50 = .slice 32 3 40 := rfl
@[go_sem] theorem tz50 : tab.z 50 = some (([.sn] : List SV)) := rfl
@[go_sem] theorem tk51 : tab.k 51 = .func := rfl
@[go_sem] theorem tz51 : tab.z 51 = some (([.fnil] : List SV)) := rfl
@[go_sem] theorem tk52 : tab.k 52 = .func := rfl
@[go_sem] theorem tz52 : tab.z 52 = some (([.fnil] : List SV)) := rfl
@[go_sem] theorem tk53 : tab.k 53 = .slice 40 1 8 := rfl
@[go_sem] theorem tz53 : tab.z 53 = some (([.sn] : List SV)) := rfl
@[go_sem] theorem tk54 : tab.k 54 = .slice 4 1 1 := rfl
@[go_sem] theorem tz54 : tab.z 54 = some (([.sn] : List SV)) := rfl
@[go_sem] theorem tk55 : tab.k 55 = .func := rfl
@[go_sem] theorem tz55 : tab.z 55 = some (([.fnil] : List SV)) := rfl
@[go_sem] theorem tk56 : tab.k 56 = .func := rfl
@[go_sem] theorem tz56 : tab.z 56 = some (([.fnil] : List SV)) := rfl
@[go_sem] theorem tk57 : tab.k 57 = .func := rfl
@[go_sem] theorem tz57 : tab.z 57 = some (([.fnil] : List SV)) := rfl
@[go_sem] theorem tk58 : tab.k 58 = .func := rfl
@[go_sem] theorem tz58 : tab.z 58 = some (([.fnil] : List SV)) := rfl
@[go_sem] theorem tk59 : tab.k 59 = .func := rfl
@[go_sem] theorem tz59 : tab.z 59 = some (([.fnil] : List SV)) := rfl
@[go_sem] theorem tk60 : tab.k 60 = .func := rfl
@[go_sem] theorem tz60 : tab.z 60 = some (([.fnil] : List SV)) := rfl
@[go_sem] theorem tk61 : tab.k 61 = .map 65 := rfl
@[go_sem] theorem tz61 : tab.z 61 = some (([.mn] : List SV)) := rfl
@[go_sem] theorem tk62 : tab.k 62 = .struct 2 := rfl
@[go_sem] theorem tz62 : tab.z 62 = some (([.mn, .i .i64 0] : List SV)) := rfl
@[go_sem] theorem te62 : tab.eqp.getD 62 false = true := rfl
@[go_sem] theorem tf62_0 : tab.f 62 0 = some (0, 1, 61) := rfl
@[go_sem] theorem tf62_1 : tab.f 62 1 = some (1, 1, 3) := rfl
@[go_sem] theorem tk63 : tab.k 63 = .struct 2 := rfl
@[go_sem] theorem tz63 : tab.z 63 = some (([.mn, .i .i64 0] : List SV)) := rfl
@[go_sem] theorem te63 : tab.eqp.getD 63 false = true := rfl
@[go_sem] theorem tf63_0 : tab.f 63 0 = some (0, 1, 61) := rfl
@[go_sem] theorem tf63_1 : tab.f 63 1 = some (1, 1, 3) := rfl
@[go_sem] theorem tk64 : tab.k 64 = .struct 2 := rfl
@[go_sem] theorem tz64 : tab.z 64 = some (([.i .i64 0, .sn] : List SV)) := rfl
@[go_sem] theorem te64 : tab.eqp.getD 64 false = true := rfl
@[go_sem] theorem tf64_0 : tab.f 64 0 = some (0, 1, 3) := rfl
@[go_sem] theorem tf64_1 : tab.f 64 1 = some (1, 1, 22) := rfl
@[go_sem] theorem tk65 : tab.k 65 = .struct 2 := rfl
@[go_sem] theorem tz65 : tab.z 65 = some (([.i .i64 0, .sn] : List SV)) := rfl
@[go_sem] theorem te65 : tab.eqp.getD 65 false = true := rfl
@[go_sem] theorem tf65_0 : tab.f 65 0 = some (0, 1, 3) := rfl
@[go_sem] theorem tf65_1 : tab.f 65 1 = some (1, 1, 22) := rfl
@[go_sem] theorem tk67 : tab.k 67 = .func := rfl
@[go_sem] theorem tz67 : tab.z 67 = some (([.fnil] : List SV)) := rfl
@[go_sem] theorem tk68 : tab.k 68 = .func := rfl
@[go_sem] theorem tz68 : tab.z 68 = some (([.fnil] : List SV)) := rfl
@[go_sem] theorem tk70 : tab.k 70 = .func := rfl
@[go_sem] theorem tz70 : tab.z 70 = some (([.fnil] : List SV)) := rfl
@[go_sem] theorem tk71 : tab.k 71 = .func := rfl
@[go_sem] theorem tz71 : tab.z 71 = some (([.fnil] : List SV)) := rfl
@[go_sem] theorem tk73 : tab.k 73 = .func := rfl
@[go_sem] theorem tz73 : tab.z 73 = some (([.fnil] : List SV)) := rfl
@[go_sem] theorem tk74 : tab.k 74 = .func := rfl
@[go_sem] theorem tz74 : tab.z 74 = some (([.fnil] : List SV)) := rfl
@[go_sem] theorem tk75 : tab.k 75 = .struct 2 := rfl
@[go_sem] theorem tz75 : tab.z 75 = some (([.sn, .i .i64 0] : List SV)) := rfl
@[go_sem] theorem te75 : tab.eqp.getD 75 false = true := rfl
@[go_sem] theorem tf75_0 : tab.f 75 0 = some (0, 1, 50) := rfl
@[go_sem] theorem tf75_1 : tab.f 75 1 = some (1, 1, 3) := rfl
@[go_sem] theorem tk76 : tab.k 76 = .struct 2 := rfl
@[go_sem] theorem tz76 : tab.z 76 = some (([.sn, .i .i64 0] : List SV)) := rfl
@[go_sem] theorem te76 : tab.eqp.getD 76 false = true := rfl
@[go_sem] theorem tf76_0 : tab.f 76 0 = some (0, 1, 50) := rfl
@[go_sem] theorem tf76_1 : tab.f 76 1 = some (1, 1, 3) := rfl
@[go_sem] theorem tk77 : tab.k 77 = .func := rfl
@[go_sem] theorem tz77 : tab.z 77 = some (([.fnil] : List SV)) := rfl
@[go_sem] theorem tk78 : tab.k 78 = .func := rfl
@[go_sem] theorem tz78 : tab.z 78 = some (([.fnil] : List SV)) := rfl
@[go_sem] theorem tk79 : tab.k 79 = .func := rfl
@[go_sem] theorem tz79 : tab.z 79 = some (([.fnil] : List SV)) := rfl
@[go_sem] theorem tk80 : tab.k 80 = .func := rfl
@[go_sem] theorem tz80 : tab.z 80 = some (([.fnil] : List SV)) := rfl
@[go_sem] theorem tk81 : tab.k 81 = .func := rfl
@[go_sem] theorem tz81 : tab.z 81 = some (([.fnil] : List SV)) := rfl
@[go_sem] theorem tk82 : tab.k 82 = .int .u64 := rfl
@[go_sem] theorem tz82 : tab.z 82 = some (([.u64 0] : List SV)) := rfl
@[go_sem] theorem tk83 : tab.k 83 = .func := rfl
@[go_sem] theorem tz83 : tab.z 83 = some (([.fnil] : List SV)) := rfl
@[go_sem] theorem tk84 : tab.k 84 = .int .i64 := rfl
@[go_sem] theorem tz84 : tab.z 84 = some (([.i .i64 0] : List SV)) := rfl
@[go_sem] theorem tk86 : tab.k 86 = .func := rfl
@[go_sem] theorem tz86 : tab.z 86 = some (([.fnil] : List SV)) := rfl
@[go_sem] theorem tk87 : tab.k 87 = .func := rfl
@[go_sem] theorem tz87 : tab.z 87 = some (([.fnil] : List SV)) := rfl
@[go_sem] theorem tk88 : tab.k 88 = .func := rfl
@[go_sem] theorem tz88 : tab.z 88 = some (([.fnil] : List SV)) := rfl
@[go_sem] theorem tk90 : tab.k 90 = .func := rfl
@[go_sem] theorem tz90 : tab.z 90 = some (([.fnil] : List SV)) := rfl
@[go_sem] theorem tk91 : tab.k 91 = .func := rfl
@[go_sem] theorem tz91 : tab.z 91 = some (([.fnil] : List SV)) := rfl
@[go_sem] theorem tk92 : tab.k 92 = .int .u32 := rfl
@[go_sem] theorem tz92 : tab.z 92 = some (([.u32 0] : List SV)) := rfl
@[go_sem] theorem tk93 : tab.k 93 = .func := rfl
@[go_sem] theorem tz93 : tab.z 93 = some (([.fnil] : List SV)) := rfl
@[go_sem] theorem tk94 : tab.k 94 = .int .u64 := rfl
@[go_sem] theorem tz94 : tab.z 94 = some (([.u64 0] : List SV)) := rfl
@[go_sem] theorem tk95 : tab.k 95 = .int .u64 := rfl
@[go_sem] theorem tz95 : tab.z 95 = some (([.u64 0] : List SV)) := rfl
@[go_sem] theorem tk96 : tab.k 96 = .func := rfl
@[go_sem] theorem tz96 : tab.z 96 = some (([.fnil] : List SV)) := rfl
@[go_sem] theorem tk97 : tab.k 97 = .func := rfl
@[go_sem] theorem tz97 : tab.z 97 = some (([.fnil] : List SV)) := rfl
@[go_sem] theorem tk98 : tab.k 98 = .func := rfl
@[go_sem] theorem tz98 : tab.z 98 = some (([.fnil] : List SV)) := rfl
@[go_sem] theorem tk99 : tab.k 99 = .ptr := rfl
@[go_sem] theorem tz99 : tab.z 99 = some (([.pn] : List SV)) := rfl
@[go_sem] theorem tk100 : tab.k 100 = .func := rfl
@[go_sem] theorem tz100 : tab.z 100 = some (([.fnil] : List SV)) := rfl
@[go_sem] theorem tk101 : tab.k 101 = .ptr := rfl
@[go_sem] theorem tz101 : tab.z 101 = some (([.pn] : List SV)) := rfl
@[go_sem] theorem tk102 : tab.k 102 = .func := rfl
@[go_sem] theorem tz102 : tab.z 102 = some (([.fnil] : List SV)) := rfl
@[go_sem] theorem tk103 : tab.k 103 = .func := rfl
@[go_sem] theorem tz103 : tab.z 103 = some (([.fnil] : List SV)) := rfl
@[go_sem] theorem tk104 : tab.k 104 = .struct 4 := rfl
@[go_sem] theorem tz104 : tab.z 104 = some (([.pn, .pn, .pn, .str ⟨#[]⟩] : List SV)) := rfl
@[go_sem] theorem te104 : tab.eqp.getD 104 false = true := rfl
@[go_sem] theorem tf104_0 : tab.f 104 0 = some (0, 1, 17) := rfl
@[go_sem] theorem tf104_1 : tab.f 104 1 = some (1, 1, 17) := rfl
@[go_sem] theorem tf104_2 : tab.f 104 2 = some (2, 1, 17) := rfl
@[go_sem] theorem tf104_3 : tab.f 104 3 = some (3, 1, 9) := rfl
@[go_sem] theorem tk105 : tab.k 105 = .struct 4 := rfl
@[go_sem] theorem tz105 : tab.z 105 = some (([.pn, .pn, .pn, .str ⟨#[]⟩] : List SV)) := rfl
@[go_sem] theorem te105 : tab.eqp.getD 105 false = true := rfl
@[go_sem] theorem tf105_0 : tab.f 105 0 = some (0, 1, 17) := rfl
@[go_sem] theorem tf105_1 : tab.f 105 1 = some (1, 1, 17) := rfl
@[go_sem] theorem tf105_2 : tab.f 105 2 = some (2, 1, 17) := rfl
@[go_sem] theorem tf105_3 : tab.f 105 3 = some (3, 1, 9) := rfl
@[go_sem] theorem tk106 : tab.k 106 = .arr 0 16 1 0 := rfl
@[go_sem] theorem tz106 : tab.z 106 = some (([] : List SV)) := rfl
@[go_sem] theorem te106 : tab.eqp.getD 106 false = true := rfl
@[go_sem] theorem tk107 : tab.k 107 = .struct 0 := rfl
@[go_sem] theorem tz107 : tab.z 107 = some (([] : List SV)) := rfl
@[go_sem] theorem te107 : tab.eqp.getD 107 false = true := rfl
@[go_sem] theorem tk108 : tab.k 108 = .struct 0 := rfl
@[go_sem] theorem tz108 : tab.z 108 = some (([] : List SV)) := rfl
@[go_sem] theorem te108 : tab.eqp.getD 108 false = true := rfl
@[go_sem] theorem tk109 : tab.k 109 = .func := rfl
@[go_sem] theorem tz109 : tab.z 109 = some (([.fnil] : List SV)) := rfl
@[go_sem] theorem tk110 : tab.k 110 = .int .u8 := rfl
@[go_sem] theorem tz110 : tab.z 110 = some (([.u8 0] : List SV)) := rfl
@[go_sem] theorem tk111 : tab.k 111 = .int .u8 := rfl
@[go_sem] theorem tz111 : tab.z 111 = some (([.u8 0] : List SV)) := rfl
@[go_sem] theorem tk112 : tab.k 112 = .func := rfl
@[go_sem] theorem tz112 : tab.z 112 = some (([.fnil] : List SV)) := rfl
@[go_sem] theorem tk113 : tab.k 113 = .ptr := rfl
@[go_sem] theorem tz113 : tab.z 113 = some (([.pn] : List SV)) := rfl
@[go_sem] theorem tk114 : tab.k 114 = .int .i32 := rfl
@[go_sem] theorem tz114 : tab.z 114 = some (([.i .i32 0] : List SV)) := rfl
@[go_sem] theorem tk115 : tab.k 115 = .int .i32 := rfl
@[go_sem] theorem tz115 : tab.z 115 = some (([.i .i32 0] : List SV)) := rfl
@[go_sem] theorem tk116 : tab.k 116 = .struct 11 := rfl
@[go_sem] theorem tz116 : tab.z 116 = some (([.u64 0, .u64 0, .u32 0, .u8 0, .u8 0, .u8 0, .u8 0, .fnil, .pn, .i .i32 0, .i .i32 0] : List SV)) := rfl
@[go_sem] theorem te116 : tab.eqp.getD 116 false = true := rfl
@[go_sem] theorem tf116_0 : tab.f 116 0 = some (0, 1, 12) := rfl
@[go_sem] theorem tf116_1 : tab.f 116 1 = some (1, 1, 12) := rfl
@[go_sem] theorem tf116_2 : tab.f 116 2 = some (2, 1, 92) := rfl
@[go_sem] theorem tf116_3 : tab.f 116 3 = some (3, 1, 110) := rfl
@[go_sem] theorem tf116_4 : tab.f 116 4 = some (4, 1, 5) := rfl
@[go_sem] theorem tf116_5 : tab.f 116 5 = some (5, 1, 5) := rfl
@[go_sem] theorem tf116_6 : tab.f 116 6 = some (6, 1, 111) := rfl
@[go_sem] theorem tf116_7 : tab.f 116 7 = some (7, 1, 112) := rfl
@[go_sem] theorem tf116_8 : tab.f 116 8 = some (8, 1, 113) := rfl
@[go_sem] theorem tf116_9 : tab.f 116 9 = some (9, 1, 114) := rfl
@[go_sem] theorem tf116_10 : tab.f 116 10 = some (10, 1, 115) := rfl
@[go_sem] theorem tk117 : tab.k 117 = .struct 11 := rfl
@[go_sem] theorem tz117 : tab.z 117 = some (([.u64 0, .u64 0, .u32 0, .u8 0, .u8 0, .u8 0, .u8 0, .fnil, .pn, .i .i32 0, .i .i32 0] : List SV)) := rfl
@[go_sem] theorem te117 : tab.eqp.getD 117 false = true := rfl
@[go_sem] theorem tf117_0 : tab.f 117 0 = some (0, 1, 12) := rfl
@[go_sem] theorem tf117_1 : tab.f 117 1 = some (1, 1, 12) := rfl
@[go_sem] theorem tf117_2 : tab.f 117 2 = some (2, 1, 92) := rfl
@[go_sem] theorem tf117_3 : tab.f 117 3 = some (3, 1, 110) := rfl
@[go_sem] theorem tf117_4 : tab.f 117 4 = some (4, 1, 5) := rfl
@[go_sem] theorem tf117_5 : tab.f 117 5 = some (5, 1, 5) := rfl
@[go_sem] theorem tf117_6 : tab.f 117 6 = some (6, 1, 111) := rfl
@[go_sem] theorem tf117_7 : tab.f 117 7 = some (7, 1, 112) := rfl
@[go_sem] theorem tf117_8 : tab.f 117 8 = some (8, 1, 113) := rfl
@[go_sem] theorem tf117_9 : tab.f 117 9 = some (9, 1, 114) := rfl
@[go_sem] theorem tf117_10 : tab.f 117 10 = some (10, 1, 115) := rfl
theorem tabOK : TabOK Try.prog tab := tabOK_of (by kernel_rfl) (⟨z1, ⟨z2, ⟨z3, ⟨z4, ⟨z5, ⟨z6, ⟨z7, ⟨z8, ⟨z9, ⟨z10, ⟨z11, ⟨z12, ⟨z13, ⟨z14, ⟨z15, ⟨z16, ⟨z17, ⟨z18, ⟨z19, ⟨z20, ⟨z21, ⟨z22, ⟨z23, ⟨z24, ⟨z25, ⟨z26, ⟨z27, ⟨z28, ⟨z30, ⟨z31, ⟨z32, ⟨z34, ⟨z35, ⟨z36, ⟨z37, ⟨z38, ⟨z39, ⟨z40, ⟨z41, ⟨z42, ⟨z43, ⟨z44, ⟨z45, ⟨z46, ⟨z47, ⟨z48, ⟨z49, ⟨z50, ⟨z51, ⟨z52, ⟨z53, ⟨z54, ⟨z55, ⟨z56, ⟨z57, ⟨z58, ⟨z59, ⟨z60, ⟨z61, ⟨z62, ⟨z63, ⟨z64, ⟨z65, ⟨z67, ⟨z68, ⟨z70, ⟨z71, ⟨z73, ⟨z74, ⟨z75, ⟨z76, ⟨z77, ⟨z78, ⟨z79, ⟨z80, ⟨z81, ⟨z82, ⟨z83, ⟨z84, ⟨z86, ⟨z87, ⟨z88, ⟨z90, ⟨z91, ⟨z92, ⟨z93, ⟨z94, ⟨z95, ⟨z96, ⟨z97, ⟨z98, ⟨z99, ⟨z100, ⟨z101, ⟨z102, ⟨z103, ⟨z104, ⟨z105, ⟨z106, ⟨z107, ⟨z108, ⟨z109, ⟨z110, ⟨z111, ⟨z112, ⟨z113, ⟨z114, ⟨z115, ⟨z116, ⟨z117, trivial⟩⟩⟩⟩⟩⟩⟩⟩⟩⟩⟩⟩⟩⟩⟩⟩⟩⟩⟩⟩⟩⟩⟩⟩⟩⟩⟩⟩⟩⟩⟩⟩⟩⟩⟩⟩⟩⟩⟩⟩⟩⟩⟩⟩⟩⟩⟩⟩⟩⟩⟩⟩⟩⟩⟩⟩⟩⟩⟩⟩⟩⟩⟩⟩⟩⟩⟩⟩⟩⟩⟩⟩⟩⟩⟩⟩⟩⟩⟩⟩⟩⟩⟩⟩⟩⟩⟩⟩⟩⟩⟩⟩⟩⟩⟩⟩⟩⟩⟩⟩⟩⟩⟩⟩⟩⟩⟩⟩⟩⟩) (by kernel_rfl) (by kernel_rfl)
end Go.Proofs.Ytccnffjjahdneaa.Eng
