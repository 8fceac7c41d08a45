/- The table of this seat's types, for the engine; its facts by the kernel. -/
import Derived.Test.YtbiolfeincepoaaLs
import Derived.Test.YtbiolfeincepoaaProg
namespace Go.Proofs.Ytbiolfeincepoaa.Eng
open Go Go.RowKit
set_option maxRecDepth 20000
def tab : Tab where
  tk := [.other, .func, .int .i64, .int .i64, .bool, .int .u8, .int .u8, .struct 4, .struct 4, .str, .str, .str, .int .u64, .struct 2, .struct 2, .ptr, .ptr, .ptr, .struct 1, .struct 1, .iface, .int .i32, .slice 5 1 1, .func, .int .i64, .other, .func, .func, .other, .func, .func, .func, .func, .other, .func, .func, .func, .func, .ptr, .other, .func, .func, .arr 16 5 1 16, .func, .ptr, .other, .func, .func, .func, .arr 256 5 1 256, .arr 16 5 1 16, .arr 15 50 16 240, .struct 496, .struct 496, .func, .arr 4 5 1 4, .arr 4 5 1 4, .arr 60 56 4 240, .func, .func, .func, .func, .func, .func, .func, .func, .func, .int .u32, .arr 240 5 1 240, .struct 752, .struct 752, .func, .func, .int .u64, .arr 5 3 1 5, .func, .arr 4 5 1 4, .func, .int .u64, .func, .func, .func, .func, .struct 4, .struct 4, .arr 0 16 1 0, .struct 0, .struct 0, .func, .int .u8, .int .u8, .func, .ptr, .int .i32, .int .i32, .struct 11, .struct 11, .other]
  zero := [none, some ([.fnil]), some ([.i .i64 0]), some ([.i .i64 0]), some ([.b false]), some ([.u8 0]), some ([.u8 0]), some ([.i .i64 0, .i .i64 0, .b false, .u8 0]), some ([.i .i64 0, .i .i64 0, .b false, .u8 0]), some ([.str ⟨#[]⟩]), some ([.str ⟨#[]⟩]), some ([.str ⟨#[]⟩]), some ([.u64 0]), some ([.str ⟨#[]⟩, .u64 0]), some ([.str ⟨#[]⟩, .u64 0]), some ([.pn]), some ([.pn]), some ([.pn]), some ([.pn]), some ([.pn]), some ([.inil]), some ([.i .i32 0]), some ([.sn]), some ([.fnil]), some ([.i .i64 0]), none, some ([.fnil]), some ([.fnil]), none, some ([.fnil]), some ([.fnil]), some ([.fnil]), some ([.fnil]), none, some ([.fnil]), some ([.fnil]), some ([.fnil]), some ([.fnil]), some ([.pn]), none, some ([.fnil]), some ([.fnil]), some (List.replicate 16 (.u8 0)), some ([.fnil]), some ([.pn]), none, some ([.fnil]), some ([.fnil]), some ([.fnil]), some (List.replicate 256 (.u8 0)), some (List.replicate 16 (.u8 0)), some (List.replicate 240 (.u8 0)), some (List.replicate 496 (.u8 0)), some (List.replicate 496 (.u8 0)), some ([.fnil]), some ([.u8 0, .u8 0, .u8 0, .u8 0]), some ([.u8 0, .u8 0, .u8 0, .u8 0]), some (List.replicate 240 (.u8 0)), some ([.fnil]), some ([.fnil]), some ([.fnil]), some ([.fnil]), some ([.fnil]), some ([.fnil]), some ([.fnil]), some ([.fnil]), some ([.fnil]), some ([.u32 0]), some (List.replicate 240 (.u8 0)), some (List.replicate 752 (.u8 0)), some (List.replicate 752 (.u8 0)), some ([.fnil]), some ([.fnil]), some ([.u64 0]), some ([.i .i64 0, .i .i64 0, .i .i64 0, .i .i64 0, .i .i64 0]), some ([.fnil]), some ([.u8 0, .u8 0, .u8 0, .u8 0]), some ([.fnil]), some ([.u64 0]), some ([.fnil]), some ([.fnil]), some ([.fnil]), some ([.fnil]), some ([.pn, .pn, .pn, .str ⟨#[]⟩]), some ([.pn, .pn, .pn, .str ⟨#[]⟩]), some ([]), some ([]), some ([]), some ([.fnil]), some ([.u8 0]), some ([.u8 0]), some ([.fnil]), some ([.pn]), some ([.i .i32 0]), some ([.i .i32 0]), some ([.u64 0, .u64 0, .u32 0, .u8 0, .u8 0, .u8 0, .u8 0, .fnil, .pn, .i .i32 0, .i .i32 0]), some ([.u64 0, .u64 0, .u32 0, .u8 0, .u8 0, .u8 0, .u8 0, .fnil, .pn, .i .i32 0, .i .i32 0]), none]
  fo := [[], [], [], [], [], [], [], [(0, 1, 2), (1, 1, 3), (2, 1, 4), (3, 1, 6)], [(0, 1, 2), (1, 1, 3), (2, 1, 4), (3, 1, 6)], [], [], [], [], [(0, 1, 9), (1, 1, 12)], [(0, 1, 9), (1, 1, 12)], [], [], [], [(0, 1, 17)], [(0, 1, 17)], [], [], [], [], [], [], [], [], [], [], [], [], [], [], [], [], [], [], [], [], [], [], [], [], [], [], [], [], [], [], [], [], [(0, 256, 49), (256, 240, 51)], [(0, 256, 49), (256, 240, 51)], [], [], [], [], [], [], [], [], [], [], [], [], [], [], [], [(0, 256, 49), (256, 256, 49), (512, 240, 68)], [(0, 256, 49), (256, 256, 49), (512, 240, 68)], [], [], [], [], [], [], [], [], [], [], [], [], [(0, 1, 17), (1, 1, 17), (2, 1, 17), (3, 1, 9)], [(0, 1, 17), (1, 1, 17), (2, 1, 17), (3, 1, 9)], [], [], [], [], [], [], [], [], [], [], [(0, 1, 12), (1, 1, 12), (2, 1, 67), (3, 1, 89), (4, 1, 5), (5, 1, 5), (6, 1, 90), (7, 1, 91), (8, 1, 92), (9, 1, 93), (10, 1, 94)], [(0, 1, 12), (1, 1, 12), (2, 1, 67), (3, 1, 89), (4, 1, 5), (5, 1, 5), (6, 1, 90), (7, 1, 91), (8, 1, 92), (9, 1, 93), (10, 1, 94)], []]
  eqp := [false, false, false, false, false, false, false, true, true, false, false, false, false, true, true, false, false, false, true, true, false, false, false, false, false, false, false, false, false, false, false, false, false, false, false, false, false, false, false, false, false, false, true, false, false, false, false, false, false, true, true, true, true, true, false, true, true, true, false, false, false, false, false, false, false, false, false, false, true, true, true, false, false, false, true, false, true, false, false, false, false, false, false, true, true, true, true, true, false, false, false, false, false, false, false, true, true, false]
theorem z1 : zeroOf Try.prog 1 = some ([.fnil]) ∧ ([.fnil] : List SV).all SV.one = true ∧ (Try.prog.info? 1).map (·.size) = some ([.fnil] : List SV).length := ⟨by kernel_rfl, by kernel_rfl, by kernel_rfl⟩
theorem z2 : zeroOf Try.prog 2 = some ([.i .i64 0]) ∧ ([.i .i64 0] : List SV).all SV.one = true ∧ (Try.prog.info? 2).map (·.size) = some ([.i .i64 0] : List SV).length := ⟨by kernel_rfl, by kernel_rfl, by kernel_rfl⟩
theorem z3 : zeroOf Try.prog 3 = some ([.i .i64 0]) ∧ ([.i .i64 0] : List SV).all SV.one = true ∧ (Try.prog.info? 3).map (·.size) = some ([.i .i64 0] : List SV).length := ⟨by kernel_rfl, by kernel_rfl, by kernel_rfl⟩
theorem z4 : zeroOf Try.prog 4 = some ([.b false]) ∧ ([.b false] : List SV).all SV.one = true ∧ (Try.prog.info? 4).map (·.size) = some ([.b false] : List SV).length := ⟨by kernel_rfl, by kernel_rfl, by kernel_rfl⟩
theorem z5 : zeroOf Try.prog 5 = some ([.u8 0]) ∧ ([.u8 0] : List SV).all SV.one = true ∧ (Try.prog.info? 5).map (·.size) = some ([.u8 0] : List SV).length := ⟨by kernel_rfl, by kernel_rfl, by kernel_rfl⟩
theorem z6 : zeroOf Try.prog 6 = some ([.u8 0]) ∧ ([.u8 0] : List SV).all SV.one = true ∧ (Try.prog.info? 6).map (·.size) = some ([.u8 0] : List SV).length := ⟨by kernel_rfl, by kernel_rfl, by kernel_rfl⟩
theorem z7 : zeroOf Try.prog 7 = some ([.i .i64 0, .i .i64 0, .b false, .u8 0]) ∧ ([.i .i64 0, .i .i64 0, .b false, .u8 0] : List SV).all SV.one = true ∧ (Try.prog.info? 7).map (·.size) = some ([.i .i64 0, .i .i64 0, .b false, .u8 0] : List SV).length := ⟨by kernel_rfl, by kernel_rfl, by kernel_rfl⟩
theorem z8 : zeroOf Try.prog 8 = some ([.i .i64 0, .i .i64 0, .b false, .u8 0]) ∧ ([.i .i64 0, .i .i64 0, .b false, .u8 0] : List SV).all SV.one = true ∧ (Try.prog.info? 8).map (·.size) = some ([.i .i64 0, .i .i64 0, .b false, .u8 0] : List SV).length := ⟨by kernel_rfl, by kernel_rfl, by kernel_rfl⟩
theorem z9 : zeroOf Try.prog 9 = some ([.str ⟨#[]⟩]) ∧ ([.str ⟨#[]⟩] : List SV).all SV.one = true ∧ (Try.prog.info? 9).map (·.size) = some ([.str ⟨#[]⟩] : List SV).length := ⟨by kernel_rfl, by kernel_rfl, by kernel_rfl⟩
theorem z10 : zeroOf Try.prog 10 = some ([.str ⟨#[]⟩]) ∧ ([.str ⟨#[]⟩] : List SV).all SV.one = true ∧ (Try.prog.info? 10).map (·.size) = some ([.str ⟨#[]⟩] : List SV).length := ⟨by kernel_rfl, by kernel_rfl, by kernel_rfl⟩
theorem z11 : zeroOf Try.prog 11 = some ([.str ⟨#[]⟩]) ∧ ([.str ⟨#[]⟩] : List SV).all SV.one = true ∧ (Try.prog.info? 11).map (·.size) = some ([.str ⟨#[]⟩] : List SV).length := ⟨by kernel_rfl, by kernel_rfl, by kernel_rfl⟩
theorem z12 : zeroOf Try.prog 12 = some ([.u64 0]) ∧ ([.u64 0] : List SV).all SV.one = true ∧ (Try.prog.info? 12).map (·.size) = some ([.u64 0] : List SV).length := ⟨by kernel_rfl, by kernel_rfl, by kernel_rfl⟩
theorem z13 : zeroOf Try.prog 13 = some ([.str ⟨#[]⟩, .u64 0]) ∧ ([.str ⟨#[]⟩, .u64 0] : List SV).all SV.one = true ∧ (Try.prog.info? 13).map (·.size) = some ([.str ⟨#[]⟩, .u64 0] : List SV).length := ⟨by kernel_rfl, by kernel_rfl, by kernel_rfl⟩
theorem z14 : zeroOf Try.prog 14 = some ([.str ⟨#[]⟩, .u64 0]) ∧ ([.str ⟨#[]⟩, .u64 0] : List SV).all SV.one = true ∧ (Try.prog.info? 14).map (·.size) = some ([.str ⟨#[]⟩, .u64 0] : List SV).length := ⟨by kernel_rfl, by kernel_rfl, by kernel_rfl⟩
theorem z15 : zeroOf Try.prog 15 = some ([.pn]) ∧ ([.pn] : List SV).all SV.one = true ∧ (Try.prog.info? 15).map (·.size) = some ([.pn] : List SV).length := ⟨by kernel_rfl, by kernel_rfl, by kernel_rfl⟩
theorem z16 : zeroOf Try.prog 16 = some ([.pn]) ∧ ([.pn] : List SV).all SV.one = true ∧ (Try.prog.info? 16).map (·.size) = some ([.pn] : List SV).length := ⟨by kernel_rfl, by kernel_rfl, by kernel_rfl⟩
theorem z17 : zeroOf Try.prog 17 = some ([.pn]) ∧ ([.pn] : List SV).all SV.one = true ∧ (Try.prog.info? 17).map (·.size) = some ([.pn] : List SV).length := ⟨by kernel_rfl, by kernel_rfl, by kernel_rfl⟩
theorem z18 : zeroOf Try.prog 18 = some ([.pn]) ∧ ([.pn] : List SV).all SV.one = true ∧ (Try.prog.info? 18).map (·.size) = some ([.pn] : List SV).length := ⟨by kernel_rfl, by kernel_rfl, by kernel_rfl⟩
theorem z19 : zeroOf Try.prog 19 = some ([.pn]) ∧ ([.pn] : List SV).all SV.one = true ∧ (Try.prog.info? 19).map (·.size) = some ([.pn] : List SV).length := ⟨by kernel_rfl, by kernel_rfl, by kernel_rfl⟩
theorem z20 : zeroOf Try.prog 20 = some ([.inil]) ∧ ([.inil] : List SV).all SV.one = true ∧ (Try.prog.info? 20).map (·.size) = some ([.inil] : List SV).length := ⟨by kernel_rfl, by kernel_rfl, by kernel_rfl⟩
theorem z21 : zeroOf Try.prog 21 = some ([.i .i32 0]) ∧ ([.i .i32 0] : List SV).all SV.one = true ∧ (Try.prog.info? 21).map (·.size) = some ([.i .i32 0] : List SV).length := ⟨by kernel_rfl, by kernel_rfl, by kernel_rfl⟩
theorem z22 : zeroOf Try.prog 22 = some ([.sn]) ∧ ([.sn] : List SV).all SV.one = true ∧ (Try.prog.info? 22).map (·.size) = some ([.sn] : List SV).length := ⟨by kernel_rfl, by kernel_rfl, by kernel_rfl⟩
theorem z23 : zeroOf Try.prog 23 = some ([.fnil]) ∧ ([.fnil] : List SV).all SV.one = true ∧ (Try.prog.info? 23).map (·.size) = some ([.fnil] : List SV).length := ⟨by kernel_rfl, by kernel_rfl, by kernel_rfl⟩
theorem z24 : zeroOf Try.prog 24 = some ([.i .i64 0]) ∧ ([.i .i64 0] : List SV).all SV.one = true ∧ (Try.prog.info? 24).map (·.size) = some ([.i .i64 0] : List SV).length := ⟨by kernel_rfl, by kernel_rfl, by kernel_rfl⟩
theorem z26 : zeroOf Try.prog 26 = some ([.fnil]) ∧ ([.fnil] : List SV).all SV.one = true ∧ (Try.prog.info? 26).map (·.size) = some ([.fnil] : List SV).length := ⟨by kernel_rfl, by kernel_rfl, by kernel_rfl⟩
theorem z27 : zeroOf Try.prog 27 = some ([.fnil]) ∧ ([.fnil] : List SV).all SV.one = true ∧ (Try.prog.info? 27).map (·.size) = some ([.fnil] : List SV).length := ⟨by kernel_rfl, by kernel_rfl, by kernel_rfl⟩
theorem z29 : zeroOf Try.prog 29 = some ([.fnil]) ∧ ([.fnil] : List SV).all SV.one = true ∧ (Try.prog.info? 29).map (·.size) = some ([.fnil] : List SV).length := ⟨by kernel_rfl, by kernel_rfl, by kernel_rfl⟩
theorem z30 : zeroOf Try.prog 30 = some ([.fnil]) ∧ ([.fnil] : List SV).all SV.one = true ∧ (Try.prog.info? 30).map (·.size) = some ([.fnil] : List SV).length := ⟨by kernel_rfl, by kernel_rfl, by kernel_rfl⟩
theorem z31 : zeroOf Try.prog 31 = some ([.fnil]) ∧ ([.fnil] : List SV).all SV.one = true ∧ (Try.prog.info? 31).map (·.size) = some ([.fnil] : List SV).length := ⟨by kernel_rfl, by kernel_rfl, by kernel_rfl⟩
theorem z32 : zeroOf Try.prog 32 = some ([.fnil]) ∧ ([.fnil] : List SV).all SV.one = true ∧ (Try.prog.info? 32).map (·.size) = some ([.fnil] : List SV).length := ⟨by kernel_rfl, by kernel_rfl, by kernel_rfl⟩
theorem z34 : zeroOf Try.prog 34 = some ([.fnil]) ∧ ([.fnil] : List SV).all SV.one = true ∧ (Try.prog.info? 34).map (·.size) = some ([.fnil] : List SV).length := ⟨by kernel_rfl, by kernel_rfl, by kernel_rfl⟩
theorem z35 : zeroOf Try.prog 35 = some ([.fnil]) ∧ ([.fnil] : List SV).all SV.one = true ∧ (Try.prog.info? 35).map (·.size) = some ([.fnil] : List SV).length := ⟨by kernel_rfl, by kernel_rfl, by kernel_rfl⟩
theorem z36 : zeroOf Try.prog 36 = some ([.fnil]) ∧ ([.fnil] : List SV).all SV.one = true ∧ (Try.prog.info? 36).map (·.size) = some ([.fnil] : List SV).length := ⟨by kernel_rfl, by kernel_rfl, by kernel_rfl⟩
theorem z37 : zeroOf Try.prog 37 = some ([.fnil]) ∧ ([.fnil] : List SV).all SV.one = true ∧ (Try.prog.info? 37).map (·.size) = some ([.fnil] : List SV).length := ⟨by kernel_rfl, by kernel_rfl, by kernel_rfl⟩
theorem z38 : zeroOf Try.prog 38 = some ([.pn]) ∧ ([.pn] : List SV).all SV.one = true ∧ (Try.prog.info? 38).map (·.size) = some ([.pn] : List SV).length := ⟨by kernel_rfl, by kernel_rfl, by kernel_rfl⟩
theorem z40 : zeroOf Try.prog 40 = some ([.fnil]) ∧ ([.fnil] : List SV).all SV.one = true ∧ (Try.prog.info? 40).map (·.size) = some ([.fnil] : List SV).length := ⟨by kernel_rfl, by kernel_rfl, by kernel_rfl⟩
theorem z41 : zeroOf Try.prog 41 = some ([.fnil]) ∧ ([.fnil] : List SV).all SV.one = true ∧ (Try.prog.info? 41).map (·.size) = some ([.fnil] : List SV).length := ⟨by kernel_rfl, by kernel_rfl, by kernel_rfl⟩
theorem z42 : zeroOf Try.prog 42 = some (List.replicate 16 (.u8 0)) ∧ (List.replicate 16 (.u8 0) : List SV).all SV.one = true ∧ (Try.prog.info? 42).map (·.size) = some (List.replicate 16 (.u8 0) : List SV).length := ⟨by kernel_rfl, by kernel_rfl, by kernel_rfl⟩
theorem z43 : zeroOf Try.prog 43 = some ([.fnil]) ∧ ([.fnil] : List SV).all SV.one = true ∧ (Try.prog.info? 43).map (·.size) = some ([.fnil] : List SV).length := ⟨by kernel_rfl, by kernel_rfl, by kernel_rfl⟩
theorem z44 : zeroOf Try.prog 44 = some ([.pn]) ∧ ([.pn] : List SV).all SV.one = true ∧ (Try.prog.info? 44).map (·.size) = some ([.pn] : List SV).length := ⟨by kernel_rfl, by kernel_rfl, by kernel_rfl⟩
theorem z46 : zeroOf Try.prog 46 = some ([.fnil]) ∧ ([.fnil] : List SV).all SV.one = true ∧ (Try.prog.info? 46).map (·.size) = some ([.fnil] : List SV).length := ⟨by kernel_rfl, by kernel_rfl, by kernel_rfl⟩
theorem z47 : zeroOf Try.prog 47 = some ([.fnil]) ∧ ([.fnil] : List SV).all SV.one = true ∧ (Try.prog.info? 47).map (·.size) = some ([.fnil] : List SV).length := ⟨by kernel_rfl, by kernel_rfl, by kernel_rfl⟩
theorem z48 : zeroOf Try.prog 48 = some ([.fnil]) ∧ ([.fnil] : List SV).all SV.one = true ∧ (Try.prog.info? 48).map (·.size) = some ([.fnil] : List SV).length := ⟨by kernel_rfl, by kernel_rfl, by kernel_rfl⟩
theorem z49 : zeroOf Try.prog 49 = some (List.replicate 256 (.u8 0)) ∧ (List.replicate 256 (.u8 0) : List SV).all SV.one = true ∧ (Try.prog.info? 49).map (·.size) = some (List.replicate 256 (.u8 0) : List SV).length := ⟨by kernel_rfl, by kernel_rfl, by kernel_rfl⟩
theorem z50 : zeroOf Try.prog 50 = some (List.replicate 16 (.u8 0)) ∧ (List.replicate 16 (.u8 0) : List SV).all SV.one = true ∧ (Try.prog.info? 50).map (·.size) = some (List.replicate 16 (.u8 0) : List SV).length := ⟨by kernel_rfl, by kernel_rfl, by kernel_rfl⟩
theorem z51 : zeroOf Try.prog 51 = some (List.replicate 240 (.u8 0)) ∧ (List.replicate 240 (.u8 0) : List SV).all SV.one = true ∧ (Try.prog.info? 51).map (·.size) = some (List.replicate 240 (.u8 0) : List SV).length := ⟨by kernel_rfl, by kernel_rfl, by kernel_rfl⟩
theorem z52 : zeroOf Try.prog 52 = some (List.replicate 496 (.u8 0)) ∧ (List.replicate 496 (.u8 0) : List SV).all SV.one = true ∧ (Try.prog.info? 52).map (·.size) = some (List.replicate 496 (.u8 0) : List SV).length := ⟨by kernel_rfl, by kernel_rfl, by kernel_rfl⟩
theorem z53 : zeroOf Try.prog 53 = some (List.replicate 496 (.u8 0)) ∧ (List.replicate 496 (.u8 0) : List SV).all SV.one = true ∧ (Try.prog.info? 53).map (·.size) = some (List.replicate 496 (.u8 0) : List SV).length := ⟨by kernel_rfl, by kernel_rfl, by kernel_rfl⟩
theorem z54 : zeroOf Try.prog 54 = some ([.fnil]) ∧ ([.fnil] : List SV).all SV.one = true ∧ (Try.prog.info? 54).map (·.size) = some ([.fnil] : List SV).length := ⟨by kernel_rfl, by kernel_rfl, by kernel_rfl⟩
theorem z55 : zeroOf Try.prog 55 = some ([.u8 0, .u8 0, .u8 0, .u8 0]) ∧ ([.u8 0, .u8 0, .u8 0, .u8 0] : List SV).all SV.one = true ∧ (Try.prog.info? 55).map (·.size) = some ([.u8 0, .u8 0, .u8 0, .u8 0] : List SV).length := ⟨by kernel_rfl, by kernel_rfl, by kernel_rfl⟩
theorem z56 : zeroOf Try.prog 56 = some ([.u8 0, .u8 0, .u8 0, .u8 0]) ∧ ([.u8 0, .u8 0, .u8 0, .u8 0] : List SV).all SV.one = true ∧ (Try.prog.info? 56).map (·.size) = some ([.u8 0, .u8 0, .u8 0, .u8 0] : List SV).length := ⟨by kernel_rfl, by kernel_rfl, by kernel_rfl⟩
theorem z57 : zeroOf Try.prog 57 = some (List.replicate 240 (.u8 0)) ∧ (List.replicate 240 (.u8 0) : List SV).all SV.one = true ∧ (Try.prog.info? 57).map (·.size) = some (List.replicate 240 (.u8 0) : List SV).length := ⟨by kernel_rfl, by kernel_rfl, by kernel_rfl⟩
theorem z58 : zeroOf Try.prog 58 = some ([.fnil]) ∧ ([.fnil] : List SV).all SV.one = true ∧ (Try.prog.info? 58).map (·.size) = some ([.fnil] : List SV).length := ⟨by kernel_rfl, by kernel_rfl, by kernel_rfl⟩
theorem z59 : zeroOf Try.prog 59 = some ([.fnil]) ∧ ([.fnil] : List SV).all SV.one = true ∧ (Try.prog.info? 59).map (·.size) = some ([.fnil] : List SV).length := ⟨by kernel_rfl, by kernel_rfl, by kernel_rfl⟩
theorem z60 : zeroOf Try.prog 60 = some ([.fnil]) ∧ ([.fnil] : List SV).all SV.one = true ∧ (Try.prog.info? 60).map (·.size) = some ([.fnil] : List SV).length := ⟨by kernel_rfl, by kernel_rfl, by kernel_rfl⟩
theorem z61 : zeroOf Try.prog 61 = some ([.fnil]) ∧ ([.fnil] : List SV).all SV.one = true ∧ (Try.prog.info? 61).map (·.size) = some ([.fnil] : List SV).length := ⟨by kernel_rfl, by kernel_rfl, by kernel_rfl⟩
theorem z62 : zeroOf Try.prog 62 = some ([.fnil]) ∧ ([.fnil] : List SV).all SV.one = true ∧ (Try.prog.info? 62).map (·.size) = some ([.fnil] : List SV).length := ⟨by kernel_rfl, by kernel_rfl, by kernel_rfl⟩
theorem z63 : zeroOf Try.prog 63 = some ([.fnil]) ∧ ([.fnil] : List SV).all SV.one = true ∧ (Try.prog.info? 63).map (·.size) = some ([.fnil] : List SV).length := ⟨by kernel_rfl, by kernel_rfl, by kernel_rfl⟩
theorem z64 : zeroOf Try.prog 64 = some ([.fnil]) ∧ ([.fnil] : List SV).all SV.one = true ∧ (Try.prog.info? 64).map (·.size) = some ([.fnil] : List SV).length := ⟨by kernel_rfl, by kernel_rfl, by kernel_rfl⟩
theorem z65 : zeroOf Try.prog 65 = some ([.fnil]) ∧ ([.fnil] : List SV).all SV.one = true ∧ (Try.prog.info? 65).map (·.size) = some ([.fnil] : List SV).length := ⟨by kernel_rfl, by kernel_rfl, by kernel_rfl⟩
theorem z66 : zeroOf Try.prog 66 = some ([.fnil]) ∧ ([.fnil] : List SV).all SV.one = true ∧ (Try.prog.info? 66).map (·.size) = some ([.fnil] : List SV).length := ⟨by kernel_rfl, by kernel_rfl, by kernel_rfl⟩
theorem z67 : zeroOf Try.prog 67 = some ([.u32 0]) ∧ ([.u32 0] : List SV).all SV.one = true ∧ (Try.prog.info? 67).map (·.size) = some ([.u32 0] : List SV).length := ⟨by kernel_rfl, by kernel_rfl, by kernel_rfl⟩
theorem z68 : zeroOf Try.prog 68 = some (List.replicate 240 (.u8 0)) ∧ (List.replicate 240 (.u8 0) : List SV).all SV.one = true ∧ (Try.prog.info? 68).map (·.size) = some (List.replicate 240 (.u8 0) : List SV).length := ⟨by kernel_rfl, by kernel_rfl, by kernel_rfl⟩
theorem z69 : zeroOf Try.prog 69 = some (List.replicate 752 (.u8 0)) ∧ (List.replicate 752 (.u8 0) : List SV).all SV.one = true ∧ (Try.prog.info? 69).map (·.size) = some (List.replicate 752 (.u8 0) : List SV).length := ⟨by kernel_rfl, by kernel_rfl, by kernel_rfl⟩
theorem z70 : zeroOf Try.prog 70 = some (List.replicate 752 (.u8 0)) ∧ (List.replicate 752 (.u8 0) : List SV).all SV.one = true ∧ (Try.prog.info? 70).map (·.size) = some (List.replicate 752 (.u8 0) : List SV).length := ⟨by kernel_rfl, by kernel_rfl, by kernel_rfl⟩
theorem z71 : zeroOf Try.prog 71 = some ([.fnil]) ∧ ([.fnil] : List SV).all SV.one = true ∧ (Try.prog.info? 71).map (·.size) = some ([.fnil] : List SV).length := ⟨by kernel_rfl, by kernel_rfl, by kernel_rfl⟩
theorem z72 : zeroOf Try.prog 72 = some ([.fnil]) ∧ ([.fnil] : List SV).all SV.one = true ∧ (Try.prog.info? 72).map (·.size) = some ([.fnil] : List SV).length := ⟨by kernel_rfl, by kernel_rfl, by kernel_rfl⟩
theorem z73 : zeroOf Try.prog 73 = some ([.u64 0]) ∧ ([.u64 0] : List SV).all SV.one = true ∧ (Try.prog.info? 73).map (·.size) = some ([.u64 0] : List SV).length := ⟨by kernel_rfl, by kernel_rfl, by kernel_rfl⟩
theorem z74 : zeroOf Try.prog 74 = some ([.i .i64 0, .i .i64 0, .i .i64 0, .i .i64 0, .i .i64 0]) ∧ ([.i .i64 0, .i .i64 0, .i .i64 0, .i .i64 0, .i .i64 0] : List SV).all SV.one = true ∧ (Try.prog.info? 74).map (·.size) = some ([.i .i64 0, .i .i64 0, .i .i64 0, .i .i64 0, .i .i64 0] : List SV).length := ⟨by kernel_rfl, by kernel_rfl, by kernel_rfl⟩
theorem z75 : zeroOf Try.prog 75 = some ([.fnil]) ∧ ([.fnil] : List SV).all SV.one = true ∧ (Try.prog.info? 75).map (·.size) = some ([.fnil] : List SV).length := ⟨by kernel_rfl, by kernel_rfl, by kernel_rfl⟩
theorem z76 : zeroOf Try.prog 76 = some ([.u8 0, .u8 0, .u8 0, .u8 0]) ∧ ([.u8 0, .u8 0, .u8 0, .u8 0] : List SV).all SV.one = true ∧ (Try.prog.info? 76).map (·.size) = some ([.u8 0, .u8 0, .u8 0, .u8 0] : List SV).length := ⟨by kernel_rfl, by kernel_rfl, by kernel_rfl⟩
theorem z77 : zeroOf Try.prog 77 = some ([.fnil]) ∧ ([.fnil] : List SV).all SV.one = true ∧ (Try.prog.info? 77).map (·.size) = some ([.fnil] : List SV).length := ⟨by kernel_rfl, by kernel_rfl, by kernel_rfl⟩
theorem z78 : zeroOf Try.prog 78 = some ([.u64 0]) ∧ ([.u64 0] : List SV).all SV.one = true ∧ (Try.prog.info? 78).map (·.size) = some ([.u64 0] : List SV).length := ⟨by kernel_rfl, by kernel_rfl, by kernel_rfl⟩
theorem z79 : zeroOf Try.prog 79 = some ([.fnil]) ∧ ([.fnil] : List SV).all SV.one = true ∧ (Try.prog.info? 79).map (·.size) = some ([.fnil] : List SV).length := ⟨by kernel_rfl, by kernel_rfl, by kernel_rfl⟩
theorem z80 : zeroOf Try.prog 80 = some ([.fnil]) ∧ ([.fnil] : List SV).all SV.one = true ∧ (Try.prog.info? 80).map (·.size) = some ([.fnil] : List SV).length := ⟨by kernel_rfl, by kernel_rfl, by kernel_rfl⟩
theorem z81 : zeroOf Try.prog 81 = some ([.fnil]) ∧ ([.fnil] : List SV).all SV.one = true ∧ (Try.prog.info? 81).map (·.size) = some ([.fnil] : List SV).length := ⟨by kernel_rfl, by kernel_rfl, by kernel_rfl⟩
theorem z82 : zeroOf Try.prog 82 = some ([.fnil]) ∧ ([.fnil] : List SV).all SV.one = true ∧ (Try.prog.info? 82).map (·.size) = some ([.fnil] : List SV).length := ⟨by kernel_rfl, by kernel_rfl, by kernel_rfl⟩
theorem z83 : zeroOf Try.prog 83 = some ([.pn, .pn, .pn, .str ⟨#[]⟩]) ∧ ([.pn, .pn, .pn, .str ⟨#[]⟩] : List SV).all SV.one = true ∧ (Try.prog.info? 83).map (·.size) = some ([.pn, .pn, .pn, .str ⟨#[]⟩] : List SV).length := ⟨by kernel_rfl, by kernel_rfl, by kernel_rfl⟩
theorem z84 : zeroOf Try.prog 84 = some ([.pn, .pn, .pn, .str ⟨#[]⟩]) ∧ ([.pn, .pn, .pn, .str ⟨#[]⟩] : List SV).all SV.one = true ∧ (Try.prog.info? 84).map (·.size) = some ([.pn, .pn, .pn, .str ⟨#[]⟩] : List SV).length := ⟨by kernel_rfl, by kernel_rfl, by kernel_rfl⟩
theorem z85 : zeroOf Try.prog 85 = some ([]) ∧ ([] : List SV).all SV.one = true ∧ (Try.prog.info? 85).map (·.size) = some ([] : List SV).length := ⟨by kernel_rfl, by kernel_rfl, by kernel_rfl⟩
theorem z86 : zeroOf Try.prog 86 = some ([]) ∧ ([] : List SV).all SV.one = true ∧ (Try.prog.info? 86).map (·.size) = some ([] : List SV).length := ⟨by kernel_rfl, by kernel_rfl, by kernel_rfl⟩
theorem z87 : zeroOf Try.prog 87 = some ([]) ∧ ([] : List SV).all SV.one = true ∧ (Try.prog.info? 87).map (·.size) = some ([] : List SV).length := ⟨by kernel_rfl, by kernel_rfl, by kernel_rfl⟩
theorem z88 : zeroOf Try.prog 88 = some ([.fnil]) ∧ ([.fnil] : List SV).all SV.one = true ∧ (Try.prog.info? 88).map (·.size) = some ([.fnil] : List SV).length := ⟨by kernel_rfl, by kernel_rfl, by kernel_rfl⟩
theorem z89 : zeroOf Try.prog 89 = some ([.u8 0]) ∧ ([.u8 0] : List SV).all SV.one = true ∧ (Try.prog.info? 89).map (·.size) = some ([.u8 0] : List SV).length := ⟨by kernel_rfl, by kernel_rfl, by kernel_rfl⟩
theorem z90 : zeroOf Try.prog 90 = some ([.u8 0]) ∧ ([.u8 0] : List SV).all SV.one = true ∧ (Try.prog.info? 90).map (·.size) = some ([.u8 0] : List SV).length := ⟨by kernel_rfl, by kernel_rfl, by kernel_rfl⟩
theorem z91 : zeroOf Try.prog 91 = some ([.fnil]) ∧ ([.fnil] : List SV).all SV.one = true ∧ (Try.prog.info? 91).map (·.size) = some ([.fnil] : List SV).length := ⟨by kernel_rfl, by kernel_rfl, by kernel_rfl⟩
theorem z92 : zeroOf Try.prog 92 = some ([.pn]) ∧ ([.pn] : List SV).all SV.one = true ∧ (Try.prog.info? 92).map (·.size) = some ([.pn] : List SV).length := ⟨by kernel_rfl, by kernel_rfl, by kernel_rfl⟩
theorem z93 : zeroOf Try.prog 93 = some ([.i .i32 0]) ∧ ([.i .i32 0] : List SV).all SV.one = true ∧ (Try.prog.info? 93).map (·.size) = some ([.i .i32 0] : List SV).length := ⟨by kernel_rfl, by kernel_rfl, by kernel_rfl⟩
theorem z94 : zeroOf Try.prog 94 = some ([.i .i32 0]) ∧ ([.i .i32 0] : List SV).all SV.one = true ∧ (Try.prog.info? 94).map (·.size) = some ([.i .i32 0] : List SV).length := ⟨by kernel_rfl, by kernel_rfl, by kernel_rfl⟩
theorem z95 : zeroOf Try.prog 95 = some ([.u64 0, .u64 0, .u32 0, .u8 0, .u8 0, .u8 0, .u8 0, .fnil, .pn, .i .i32 0, .i .i32 0]) ∧ ([.u64 0, .u64 0, .u32 0, .u8 0, .u8 0, .u8 0, .u8 0, .fnil, .pn, .i .i32 0, .i .i32 0] : List SV).all SV.one = true ∧ (Try.prog.info? 95).map (·.size) = some ([.u64 0, .u64 0, .u32 0, .u8 0, .u8 0, .u8 0, .u8 0, .fnil, .pn, .i .i32 0, .i .i32 0] : List SV).length := ⟨by kernel_rfl, by kernel_rfl, by kernel_rfl⟩
theorem z96 : zeroOf Try.prog 96 = some ([.u64 0, .u64 0, .u32 0, .u8 0, .u8 0, .u8 0, .u8 0, .fnil, .pn, .i .i32 0, .i .i32 0]) ∧ ([.u64 0, .u64 0, .u32 0, .u8 0, .u8 0, .u8 0, .u8 0, .fnil, .pn, .i .i32 0, .i .i32 0] : List SV).all SV.one = true ∧ (Try.prog.info? 96).map (·.size) = some ([.u64 0, .u64 0, .u32 0, .u8 0, .u8 0, .u8 0, .u8 0, .fnil, .pn, .i .i32 0, .i .i32 0] : List SV).length := ⟨by kernel_rfl, by kernel_rfl, by kernel_rfl⟩
@[go_sem] theorem tk1 : tab.k 1 = .func := rfl
@[go_sem] theorem tz1 : tab.z 1 = some (([.fnil] : List SV)) := rfl
@[go_sem] theorem tk2 : tab.k 2 = .int .i64 := rfl
@[go_sem] theorem tz2 : tab.z 2 = some (([.i .i64 0] : List SV)) := rfl
@[go_sem] theorem tk3 : tab.k 3 = .int .i64 := rfl
@[go_sem] theorem tz3 : tab.z 3 = some (([.i .i64 0] : List SV)) := rfl
@[go_sem] theorem tk4 : tab.k 4 = .bool := rfl
@[go_sem] theorem tz4 : tab.z 4 = some (([.b false] : List SV)) := rfl
@[go_sem] theorem tk5 : tab.k 5 = .int .u8 := rfl
@[go_sem] theorem tz5 : tab.z 5 = some (([.u8 0] : List SV)) := rfl
@[go_sem] theorem tk6 : tab.k 6 = .int .u8 := rfl
@[go_sem] theorem tz6 : tab.z 6 = some (([.u8 0] : List SV)) := rfl
@[go_sem] theorem tk7 : tab.k 7 = .struct 4 := rfl
@[go_sem] theorem tz7 : tab.z 7 = some (([.i .i64 0, .i .i64 0, .b false, .u8 0] : List SV)) := rfl
@[go_sem] theorem te7 : tab.eqp.getD 7 false = true := rfl
@[go_sem] theorem tf7_0 : tab.f 7 0 = some (0, 1, 2) := rfl
@[go_sem] theorem tf7_1 : tab.f 7 1 = some (1, 1, 3) := rfl
@[go_sem] theorem tf7_2 : tab.f 7 2 = some (2, 1, 4) := rfl
@[go_sem] theorem tf7_3 : tab.f 7 3 = some (3, 1, 6) := rfl
@[go_sem] theorem tk8 : tab.k 8 = .struct 4 := rfl
@[go_sem] theorem tz8 : tab.z 8 = some (([.i .i64 0, .i .i64 0, .b false, .u8 0] : List SV)) := rfl
@[go_sem] theorem te8 : tab.eqp.getD 8 false = true := rfl
@[go_sem] theorem tf8_0 : tab.f 8 0 = some (0, 1, 2) := rfl
@[go_sem] theorem tf8_1 : tab.f 8 1 = some (1, 1, 3) := rfl
@[go_sem] theorem tf8_2 : tab.f 8 2 = some (2, 1, 4) := rfl
@[go_sem] theorem tf8_3 : tab.f 8 3 = some (3, 1, 6) := rfl
@[go_sem] theorem tk9 : tab.k 9 = .str := rfl
@[go_sem] theorem tz9 : tab.z 9 = some (([.str ⟨#[]⟩] : List SV)) := rfl
@[go_sem] theorem tk10 : tab.k 10 = .str := rfl
@[go_sem] theorem tz10 : tab.z 10 = some (([.str ⟨#[]⟩] : List SV)) := rfl
@[go_sem] theorem tk11 : tab.k 11 = .str := rfl
@[go_sem] theorem tz11 : tab.z 11 = some (([.str ⟨#[]⟩] : List SV)) := rfl
@[go_sem] theorem tk12 : tab.k 12 = .int .u64 := rfl
@[go_sem] theorem tz12 : tab.z 12 = some (([.u64 0] : List SV)) := rfl
@[go_sem] theorem tk13 : tab.k 13 = .struct 2 := rfl
@[go_sem] theorem tz13 : tab.z 13 = some (([.str ⟨#[]⟩, .u64 0] : List SV)) := rfl
@[go_sem] theorem te13 : tab.eqp.getD 13 false = true := rfl
@[go_sem] theorem tf13_0 : tab.f 13 0 = some (0, 1, 9) := rfl
@[go_sem] theorem tf13_1 : tab.f 13 1 = some (1, 1, 12) := rfl
@[go_sem] theorem tk14 : tab.k 14 = .struct 2 := rfl
@[go_sem] theorem tz14 : tab.z 14 = some (([.str ⟨#[]⟩, .u64 0] : List SV)) := rfl
@[go_sem] theorem te14 : tab.eqp.getD 14 false = true := rfl
@[go_sem] theorem tf14_0 : tab.f 14 0 = some (0, 1, 9) := rfl
@[go_sem] theorem tf14_1 : tab.f 14 1 = some (1, 1, 12) := rfl
@[go_sem] theorem tk15 : tab.k 15 = .ptr := rfl
@[go_sem] theorem tz15 : tab.z 15 = some (([.pn] : List SV)) := rfl
@[go_sem] theorem tk16 : tab.k 16 = .ptr := rfl
@[go_sem] theorem tz16 : tab.z 16 = some (([.pn] : List SV)) := rfl
@[go_sem] theorem tk17 : tab.k 17 = .ptr := rfl
@[go_sem] theorem tz17 : tab.z 17 = some (([.pn] : List SV)) := rfl
@[go_sem] theorem tk18 : tab.k 18 = .struct 1 := rfl
@[go_sem] theorem tz18 : tab.z 18 = some (([.pn] : List SV)) := rfl
@[go_sem] theorem te18 : tab.eqp.getD 18 false = true := rfl
@[go_sem] theorem tf18_0 : tab.f 18 0 = some (0, 1, 17) := rfl
@[go_sem] theorem tk19 : tab.k 19 = .struct 1 := rfl
@[go_sem] theorem tz19 : tab.z 19 = some (([.pn] : List SV)) := rfl
@[go_sem] theorem te19 : tab.eqp.getD 19 false = true := rfl
@[go_sem] theorem tf19_0 : tab.f 19 0 = some (0, 1, 17) := rfl
@[go_sem] theorem tk20 : tab.k 20 = .iface := rfl
@[go_sem] theorem tz20 : tab.z 20 = some (([.inil] : List SV)) := rfl
@[go_sem] theorem tk21 : tab.k 21 = .int .i32 := rfl
@[go_sem] theorem tz21 : tab.z 21 = some (([.i .i32 0] : List SV)) := rfl
@[go_sem] theorem tk22 : tab.k 22 = .slice 5 1 1 := rfl
@[go_sem] theorem tz22 : tab.z 22 = some (([.sn] : List SV)) := rfl
@[go_sem] theorem tk23 : tab.k 23 = .func := rfl
@[go_sem] theorem tz23 : tab.z 23 = some (([.fnil] : List SV)) := rfl
@[go_sem] theorem tk24 : tab.k 24 = .int .i64 := rfl
@[go_sem] theorem tz24 : tab.z 24 = some (([.i .i64 0] : List SV)) := rfl
@[go_sem] theorem tk26 : tab.k 26 = .func := rfl
@[go_sem] theorem tz26 : tab.z 26 = some (([.fnil] : List SV)) := rfl
@[go_sem] theorem tk27 : tab.k 27 = .func := rfl
@[go_sem] theorem tz27 : tab.z 27 = some (([.fnil] : List SV)) := rfl
@[go_sem] theorem tk29 : tab.k 29 = .func := rfl
@[go_sem] theorem tz29 : tab.z 29 = some (([.fnil] : List SV)) := rfl
@[go_sem] theorem tk30 : tab.k 30 = .func := rfl
@[go_sem] theorem tz30 : tab.z 30 = some (([.fnil] : List SV)) := rfl
@[go_sem] theorem tk31 : tab.k 31 = .func := rfl
@[go_sem] theorem tz31 : tab.z 31 = some (([.fnil] : List SV)) := rfl
@[go_sem] theorem tk32 : tab.k 32 = .func := rfl
@[go_sem] theorem tz32 : tab.z 32 = some (([.fnil] : List SV)) := rfl
@[go_sem] theorem tk34 : tab.k 34 = .func := rfl
@[go_sem] theorem tz34 : tab.z 34 = some (([.fnil] : List SV)) := rfl
@[go_sem] theorem tk35 : tab.k 35 = .func := rfl
@[go_sem] theorem tz35 : tab.z 35 = some (([.fnil] : List SV)) := rfl
@[go_sem] theorem tk36 : tab.k 36 = .func := rfl
@[go_sem] theorem tz36 : tab.z 36 = some (([.fnil] : List SV)) := rfl
@[go_sem] theorem tk37 : tab.k 37 = .func := rfl
@[go_sem] theorem tz37 : tab.z 37 = some (([.fnil] : List SV)) := rfl
@[go_sem] theorem tk38 : tab.k 38 = .ptr := rfl
@[go_sem] theorem tz38 : tab.z 38 = some (([.pn] : List SV)) := rfl
@[go_sem] theorem tk40 : tab.k 40 = .func := rfl
@[go_sem] theorem tz40 : tab.z 40 = some (([.fnil] : List SV)) := rfl
@[go_sem] theorem tk41 : tab.k 41 = .func := rfl
@[go_sem] theorem tz41 : tab.z 41 = some (([.fnil] : List SV)) := rfl
@[go_sem] theorem tk42 : tab.k 42 = .arr 16 5 1 16 := rfl
@[go_sem] theorem tz42 : tab.z 42 = some (bS (List.replicate 16 0#8)) := rfl
@[go_sem] theorem te42 : tab.eqp.getD 42 false = true := rfl
@[go_sem] theorem tk43 : tab.k 43 = .func := rfl
@[go_sem] theorem tz43 : tab.z 43 = some (([.fnil] : List SV)) := rfl
@[go_sem] theorem tk44 : tab.k 44 = .ptr := rfl
@[go_sem] theorem tz44 : tab.z 44 = some (([.pn] : List SV)) := rfl
@[go_sem] theorem tk46 : tab.k 46 = .func := rfl
@[go_sem] theorem tz46 : tab.z 46 = some (([.fnil] : List SV)) := rfl
@[go_sem] theorem tk47 : tab.k 47 = .func := rfl
@[go_sem] theorem tz47 : tab.z 47 = some (([.fnil] : List SV)) := rfl
@[go_sem] theorem tk48 : tab.k 48 = .func := rfl
@[go_sem] theorem tz48 : tab.z 48 = some (([.fnil] : List SV)) := rfl
@[go_sem] theorem tk49 : tab.k 49 = .arr 256 5 1 256 := rfl
@[go_sem] theorem tz49 : tab.z 49 = some (bS (List.replicate 256 0#8)) := rfl
@[go_sem] theorem te49 : tab.eqp.getD 49 false = true := rfl
@[go_sem] theorem tk50 : tab.k 50 = .arr 16 5 1 16 := rfl
@[go_sem] theorem tz50 : tab.z 50 = some (bS (List.replicate 16 0#8)) := rfl
@[go_sem] theorem te50 : tab.eqp.getD 50 false = true := rfl
@[go_sem] theorem tk51 : tab.k 51 = .arr 15 50 16 240 := rfl
@[go_sem] theorem tz51 : tab.z 51 = some (bS (List.replicate 240 0#8)) := rfl
@[go_sem] theorem te51 : tab.eqp.getD 51 false = true := rfl
@[go_sem] theorem tk52 : tab.k 52 = .struct 496 := rfl
@[go_sem] theorem tz52 : tab.z 52 = some (bS (List.replicate 496 0#8)) := rfl
@[go_sem] theorem te52 : tab.eqp.getD 52 false = true := rfl
@[go_sem] theorem tf52_0 : tab.f 52 0 = some (0, 256, 49) := rfl
@[go_sem] theorem tf52_1 : tab.f 52 1 = some (256, 240, 51) := rfl
@[go_sem] theorem tk53 : tab.k 53 = .struct 496 := rfl
@[go_sem] theorem tz53 : tab.z 53 = some (bS (List.replicate 496 0#8)) := rfl
@[go_sem] theorem te53 : tab.eqp.getD 53 false = true := rfl
@[go_sem] theorem tf53_0 : tab.f 53 0 = some (0, 256, 49) := rfl
@[go_sem] theorem tf53_1 : tab.f 53 1 = some (256, 240, 51) := rfl
@[go_sem] theorem tk54 : tab.k 54 = .func := rfl
@[go_sem] theorem tz54 : tab.z 54 = some (([.fnil] : List SV)) := rfl
@[go_sem] theorem tk55 : tab.k 55 = .arr 4 5 1 4 := rfl
@[go_sem] theorem tz55 : tab.z 55 = some (bS (List.replicate 4 0#8)) := rfl
@[go_sem] theorem te55 : tab.eqp.getD 55 false = true := rfl
@[go_sem] theorem tk56 : tab.k 56 = .arr 4 5 1 4 := rfl
@[go_sem] theorem tz56 : tab.z 56 = some (bS (List.replicate 4 0#8)) := rfl
@[go_sem] theorem te56 : tab.eqp.getD 56 false = true := rfl
@[go_sem] theorem tk57 : tab.k 57 = .arr 60 56 4 240 := rfl
@[go_sem] theorem tz57 : tab.z 57 = some (bS (List.replicate 240 0#8)) := rfl
@[go_sem] theorem te57 : tab.eqp.getD 57 false = true := rfl
@[go_sem] theorem tk58 : tab.k 58 = .func := rfl
@[go_sem] theorem tz58 : tab.z 58 = some (([.fnil] : List SV)) := rfl
@[go_sem] theorem tk59 : tab.k 59 = .func := rfl
@[go_sem] theorem tz59 : tab.z 59 = some (([.fnil] : List SV)) := rfl
@[go_sem] theorem tk60 : tab.k 60 = .func := rfl
@[go_sem] theorem tz60 : tab.z 60 = some (([.fnil] : List SV)) := rfl
@[go_sem] theorem tk61 : tab.k 61 = .func := rfl
@[go_sem] theorem tz61 : tab.z 61 = some (([.fnil] : List SV)) := rfl
@[go_sem] theorem tk62 : tab.k 62 = .func := rfl
@[go_sem] theorem tz62 : tab.z 62 = some (([.fnil] : List SV)) := rfl
@[go_sem] theorem tk63 : tab.k 63 = .func := rfl
@[go_sem] theorem tz63 : tab.z 63 = some (([.fnil] : List SV)) := rfl
@[go_sem] theorem tk64 : tab.k 64 = .func := rfl
@[go_sem] theorem tz64 : tab.z 64 = some (([.fnil] : List SV)) := rfl
@[go_sem] theorem tk65 : tab.k 65 = .func := rfl
@[go_sem] theorem tz65 : tab.z 65 = some (([.fnil] : List SV)) := rfl
@[go_sem] theorem tk66 : tab.k 66 = .func := rfl
@[go_sem] theorem tz66 : tab.z 66 = some (([.fnil] : List SV)) := rfl
@[go_sem] theorem tk67 : tab.k 67 = .int .u32 := rfl
@[go_sem] theorem tz67 : tab.z 67 = some (([.u32 0] : List SV)) := rfl
@[go_sem] theorem tk68 : tab.k 68 = .arr 240 5 1 240 := rfl
@[go_sem] theorem tz68 : tab.z 68 = some (bS (List.replicate 240 0#8)) := rfl
@[go_sem] theorem te68 : tab.eqp.getD 68 false = true := rfl
@[go_sem] theorem tk69 : tab.k 69 = .struct 752 := rfl
@[go_sem] theorem tz69 : tab.z 69 = some (bS (List.replicate 752 0#8)) := rfl
@[go_sem] theorem te69 : tab.eqp.getD 69 false = true := rfl
@[go_sem] theorem tf69_0 : tab.f 69 0 = some (0, 256, 49) := rfl
@[go_sem] theorem tf69_1 : tab.f 69 1 = some (256, 256, 49) := rfl
@[go_sem] theorem tf69_2 : tab.f 69 2 = some (512, 240, 68) := rfl
@[go_sem] theorem tk70 : tab.k 70 = .struct 752 := rfl
@[go_sem] theorem tz70 : tab.z 70 = some (bS (List.replicate 752 0#8)) := rfl
@[go_sem] theorem te70 : tab.eqp.getD 70 false = true := rfl
@[go_sem] theorem tf70_0 : tab.f 70 0 = some (0, 256, 49) := rfl
@[go_sem] theorem tf70_1 : tab.f 70 1 = some (256, 256, 49) := rfl
@[go_sem] theorem tf70_2 : tab.f 70 2 = some (512, 240, 68) := rfl
@[go_sem] theorem tk71 : tab.k 71 = .func := rfl
@[go_sem] theorem tz71 : tab.z 71 = some (([.fnil] : List SV)) := rfl
@[go_sem] theorem tk72 : tab.k 72 = .func := rfl
@[go_sem] theorem tz72 : tab.z 72 = some (([.fnil] : List SV)) := rfl
@[go_sem] theorem tk73 : tab.k 73 = .int .u64 := rfl
@[go_sem] theorem tz73 : tab.z 73 = some (([.u64 0] : List SV)) := rfl
@[go_sem] theorem tk74 : tab.k 74 = .arr 5 3 1 5 := rfl
@[go_sem] theorem tz74 : tab.z 74 = some (([.i .i64 0, .i .i64 0, .i .i64 0, .i .i64 0, .i .i64 0] : List SV)) := rfl
@[go_sem] theorem te74 : tab.eqp.getD 74 false = true := rfl
@[go_sem] theorem tk75 : tab.k 75 = .func := rfl
@[go_sem] theorem tz75 : tab.z 75 = some (([.fnil] : List SV)) := rfl
@[go_sem] theorem tk76 : tab.k 76 = .arr 4 5 1 4 := rfl
@[go_sem] theorem tz76 : tab.z 76 = some (bS (List.replicate 4 0#8)) := rfl
@[go_sem] theorem te76 : tab.eqp.getD 76 false = true := rfl
@[go_sem] theorem tk77 : tab.k 77 = .func := rfl
@[go_sem] theorem tz77 : tab.z 77 = some (([.fnil] : List SV)) := rfl
@[go_sem] theorem tk78 : tab.k 78 = .int .u64 := rfl
@[go_sem] theorem tz78 : tab.z 78 = some (([.u64 0] : List SV)) := rfl
@[go_sem] theorem tk79 : tab.k 79 = .func := rfl
@[go_sem] theorem tz79 : tab.z 79 = some (([.fnil] : List SV)) := rfl
@[go_sem] theorem tk80 : tab.k 80 = .func := rfl
@[go_sem] theorem tz80 : tab.z 80 = some (([.fnil] : List SV)) := rfl
@[go_sem] theorem tk81 : tab.k 81 = .func := rfl
@[go_sem] theorem tz81 : tab.z 81 = some (([.fnil] : List SV)) := rfl
@[go_sem] theorem tk82 : tab.k 82 = .func := rfl
@[go_sem] theorem tz82 : tab.z 82 = some (([.fnil] : List SV)) := rfl
@[go_sem] theorem tk83 : tab.k 83 = .struct 4 := rfl
@[go_sem] theorem tz83 : tab.z 83 = some (([.pn, .pn, .pn, .str ⟨#[]⟩] : List SV)) := rfl
@[go_sem] theorem te83 : tab.eqp.getD 83 false = true := rfl
@[go_sem] theorem tf83_0 : tab.f 83 0 = some (0, 1, 17) := rfl
@[go_sem] theorem tf83_1 : tab.f 83 1 = some (1, 1, 17) := rfl
@[go_sem] theorem tf83_2 : tab.f 83 2 = some (2, 1, 17) := rfl
@[go_sem] theorem tf83_3 : tab.f 83 3 = some (3, 1, 9) := rfl
@[go_sem] theorem tk84 : tab.k 84 = .struct 4 := rfl
@[go_sem] theorem tz84 : tab.z 84 = some (([.pn, .pn, .pn, .str ⟨#[]⟩] : List SV)) := rfl
@[go_sem] theorem te84 : tab.eqp.getD 84 false = true := rfl
@[go_sem] theorem tf84_0 : tab.f 84 0 = some (0, 1, 17) := rfl
@[go_sem] theorem tf84_1 : tab.f 84 1 = some (1, 1, 17) := rfl
@[go_sem] theorem tf84_2 : tab.f 84 2 = some (2, 1, 17) := rfl
@[go_sem] theorem tf84_3 : tab.f 84 3 = some (3, 1, 9) := rfl
@[go_sem] theorem tk85 : tab.k 85 = .arr 0 16 1 0 := rfl
@[go_sem] theorem tz85 : tab.z 85 = some (([] : List SV)) := rfl
@[go_sem] theorem te85 : tab.eqp.getD 85 false = true := rfl
@[go_sem] theorem tk86 : tab.k 86 = .struct 0 := rfl
@[go_sem] theorem tz86 : tab.z 86 = some (([] : List SV)) := rfl
@[go_sem] theorem te86 : tab.eqp.getD 86 false = true := rfl
@[go_sem] theorem tk87 : tab.k 87 = .struct 0 := rfl
@[go_sem] theorem tz87 : tab.z 87 = some (([] : List SV)) := rfl
@[go_sem] theorem te87 : tab.eqp.getD 87 false = true := rfl
@[go_sem] theorem tk88 : tab.k 88 = .func := rfl
@[go_sem] theorem tz88 : tab.z 88 = some (([.fnil] : List SV)) := rfl
@[go_sem] theorem tk89 : tab.k 89 = .int .u8 := rfl
@[go_sem] theorem tz89 : tab.z 89 = some (([.u8 0] : List SV)) := rfl
@[go_sem] theorem tk90 : tab.k 90 = .int .u8 := rfl
@[go_sem] theorem tz90 : tab.z 90 = some (([.u8 0] : List SV)) := rfl
@[go_sem] theorem tk91 : tab.k 91 = .func := rfl
@[go_sem] theorem tz91 : tab.z 91 = some (([.fnil] : List SV)) := rfl
@[go_sem] theorem tk92 : tab.k 92 = .ptr := rfl
@[go_sem] theorem tz92 : tab.z 92 = some (([.pn] : List SV)) := rfl
@[go_sem] theorem tk93 : tab.k 93 = .int .i32 := rfl
@[go_sem] theorem tz93 : tab.z 93 = some (([.i .i32 0] : List SV)) := rfl
@[go_sem] theorem tk94 : tab.k 94 = .int .i32 := rfl
@[go_sem] theorem tz94 : tab.z 94 = some (([.i .i32 0] : List SV)) := rfl
@[go_sem] theorem tk95 : tab.k 95 = .struct 11 := rfl
@[go_sem] theorem tz95 : tab.z 95 = some (([.u64 0, .u64 0, .u32 0, .u8 0, .u8 0, .u8 0, .u8 0, .fnil, .pn, .i .i32 0, .i .i32 0] : List SV)) := rfl
@[go_sem] theorem te95 : tab.eqp.getD 95 false = true := rfl
@[go_sem] theorem tf95_0 : tab.f 95 0 = some (0, 1, 12) := rfl
@[go_sem] theorem tf95_1 : tab.f 95 1 = some (1, 1, 12) := rfl
@[go_sem] theorem tf95_2 : tab.f 95 2 = some (2, 1, 67) := rfl
@[go_sem] theorem tf95_3 : tab.f 95 3 = some (3, 1, 89) := rfl
@[go_sem] theorem tf95_4 : tab.f 95 4 = some (4, 1, 5) := rfl
@[go_sem] theorem tf95_5 : tab.f 95 5 = some (5, 1, 5) := rfl
@[go_sem] theorem tf95_6 : tab.f 95 6 = some (6, 1, 90) := rfl
@[go_sem] theorem tf95_7 : tab.f 95 7 = some (7, 1, 91) := rfl
@[go_sem] theorem tf95_8 : tab.f 95 8 = some (8, 1, 92) := rfl
@[go_sem] theorem tf95_9 : tab.f 95 9 = some (9, 1, 93) := rfl
@[go_sem] theorem tf95_10 : tab.f 95 10 = some (10, 1, 94) := rfl
@[go_sem] theorem tk96 : tab.k 96 = .struct 11 := rfl
@[go_sem] theorem tz96 : tab.z 96 = some (([.u64 0, .u64 0, .u32 0, .u8 0, .u8 0, .u8 0, .u8 0, .fnil, .pn, .i .i32 0, .i .i32 0] : List SV)) := rfl
@[go_sem] theorem te96 : tab.eqp.getD 96 false = true := rfl
@[go_sem] theorem tf96_0 : tab.f 96 0 = some (0, 1, 12) := rfl
@[go_sem] theorem tf96_1 : tab.f 96 1 = some (1, 1, 12) := rfl
@[go_sem] theorem tf96_2 : tab.f 96 2 = some (2, 1, 67) := rfl
@[go_sem] theorem tf96_3 : tab.f 96 3 = some (3, 1, 89) := rfl
@[go_sem] theorem tf96_4 : tab.f 96 4 = some (4, 1, 5) := rfl
@[go_sem] theorem tf96_5 : tab.f 96 5 = some (5, 1, 5) := rfl
@[go_sem] theorem tf96_6 : tab.f 96 6 = some (6, 1, 90) := rfl
@[go_sem] theorem tf96_7 : tab.f 96 7 = some (7, 1, 91) := rfl
@[go_sem] theorem tf96_8 : tab.f 96 8 = some (8, 1, 92) := rfl
@[go_sem] theorem tf96_9 : tab.f 96 9 = some (9, 1, 93) := rfl
@[go_sem] theorem tf96_10 : tab.f 96 10 = some (10, 1, 94) := rfl
theorem tabOK : TabOK Try.prog tab := tabOK_of (by kernel_rfl) (⟨z1, ⟨z2, ⟨z3, ⟨z4, ⟨z5, ⟨z6, ⟨z7, ⟨z8, ⟨z9, ⟨z10, ⟨z11, ⟨z12, ⟨z13, ⟨z14, ⟨z15, ⟨z16, ⟨z17, ⟨z18, ⟨z19, ⟨z20, ⟨z21, ⟨z22, ⟨z23, ⟨z24, ⟨z26, ⟨z27, ⟨z29, ⟨z30, ⟨z31, ⟨z32, ⟨z34, ⟨z35, ⟨z36, ⟨z37, ⟨z38, ⟨z40, ⟨z41, ⟨z42, ⟨z43, ⟨z44, ⟨z46, ⟨z47, ⟨z48, ⟨z49, ⟨z50, ⟨z51, ⟨z52, ⟨z53, ⟨z54, ⟨z55, ⟨z56, ⟨z57, ⟨z58, ⟨z59, ⟨z60, ⟨z61, ⟨z62, ⟨z63, ⟨z64, ⟨z65, ⟨z66, ⟨z67, ⟨z68, ⟨z69, ⟨z70, ⟨z71, ⟨z72, ⟨z73, ⟨z74, ⟨z75, ⟨z76, ⟨z77, ⟨z78, ⟨z79, ⟨z80, ⟨z81, ⟨z82, ⟨z83, ⟨z84, ⟨z85, ⟨z86, ⟨z87, ⟨z88, ⟨z89, ⟨z90, ⟨z91, ⟨z92, ⟨z93, ⟨z94, ⟨z95, ⟨z96, trivial⟩⟩⟩⟩⟩⟩⟩⟩⟩⟩⟩⟩⟩⟩⟩⟩⟩⟩⟩⟩⟩⟩⟩⟩⟩⟩⟩⟩⟩⟩⟩⟩⟩⟩⟩⟩⟩⟩⟩⟩⟩⟩⟩⟩⟩⟩⟩⟩⟩⟩⟩⟩⟩⟩⟩⟩⟩⟩⟩⟩⟩⟩⟩⟩⟩⟩⟩⟩⟩⟩⟩⟩⟩⟩⟩⟩⟩⟩⟩⟩⟩⟩⟩⟩⟩⟩⟩⟩⟩⟩⟩) (by kernel_rfl) (by kernel_rfl)
end Go.Proofs.Ytbiolfeincepoaa.Eng
