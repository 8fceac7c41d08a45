/- 'PacketOwn': the law, and its arguments. -/
import Derived.Test.YtdkdbeamimkljaaGreatDoorY4
import Derived.Test.YtdkdbeamimkljaaGreatDoorMq
namespace Go.Proofs.YtdkdbeamimkljaaGreatDoor.Eng
open Go Go.RowKit Go.ChangeShapes Go.WideShapes
set_option linter.unusedSimpArgs false
set_option linter.unusedVariables false
def RI (_ : List Blk) (ys : List SV) : Prop := ∃ x : Int, ys = [.i .i64 x]
def RU (_ : List Blk) (ys : List SV) : Prop := ∃ x : BitVec 64, ys = [.u64 x]
theorem RI.stab : Stab RI := fun _ _ _ h => h
theorem RU.stab : Stab RU := fun _ _ _ h => h
def RPl (M : List Blk) (ys : List SV) : Prop := ∃ p : PlE, ys = plC p ∧ Byt M p.e p.b
theorem RPl.stab : Stab RPl := fun M L ys h => by
  obtain ⟨p, h1, h2⟩ := h
  exact ⟨p, h1, h2.app⟩
section
variable {H : Type} {enc : TypeId × Value → H} {W : World} {base : Nat}
theorem op_int : Op enc Tryz.prog W 3 RI := op_imp (op_flat (flat_i64 Tryz.underlying3 (by kernel_rfl))) (fun M ys h => by
  obtain ⟨x, _, _, h⟩ := h; exact ⟨x, h⟩)
theorem op_uint : Op enc Tryz.prog W 48 RU := op_flat (flat_u64 Tryz.underlying48 (by kernel_rfl))
theorem op_bytes : Op enc Tryz.prog W 22 RByt := op_imp (op_list Tryz.underlying22 (by kernel_rfl) (by kernel_rfl) (by decide) (of_decide_eq_true (by kernel_rfl)) (fun _ _ _ h => h) (op_flat (flat_u8 Tryz.underlying5 (by kernel_rfl)))) (fun M ys h => byt_of h)
def fAddr : List (TypeId × (List Blk → List SV → Prop)) := [(3, RI), (48, RU), (48, RU)]
theorem op_addr : Op enc Tryz.prog W 50 (RAll fAddr) := op_struct Tryz.underlying50 fAddr rfl (by kernel_rfl) (by kernel_rfl)
  (fun p hp => by simp only [fAddr, List.mem_cons, List.not_mem_nil, or_false] at hp; rcases hp with rfl | rfl | rfl <;> first | exact RI.stab | exact RU.stab)
  (fun p hp => by simp only [fAddr, List.mem_cons, List.not_mem_nil, or_false] at hp; rcases hp with rfl | rfl | rfl <;> first | exact op_int | exact op_uint)
theorem addr_stab : Stab (RAll fAddr) := RAll.stab _ (fun p hp => by simp only [fAddr, List.mem_cons, List.not_mem_nil, or_false] at hp; rcases hp with rfl | rfl | rfl <;> first | exact RI.stab | exact RU.stab)
def fPl : List (TypeId × (List Blk → List SV → Prop)) := [(50, RAll fAddr), (50, RAll fAddr), (22, RByt)]
theorem op_pl : Op enc Tryz.prog W 52 RPl := op_imp (op_struct Tryz.underlying52 fPl rfl (by kernel_rfl) (by kernel_rfl)
  (fun p hp => by simp only [fPl, List.mem_cons, List.not_mem_nil, or_false] at hp; rcases hp with rfl | rfl | rfl <;> first | exact addr_stab | exact RByt.stab)
  (fun p hp => by simp only [fPl, List.mem_cons, List.not_mem_nil, or_false] at hp; rcases hp with rfl | rfl | rfl <;> first | exact op_addr | exact op_bytes)) (fun M ys h => by
  obtain ⟨a, b, rfl, ⟨a1, b1, rfl, ⟨x1, rfl⟩, a2, b2, rfl, ⟨x2, rfl⟩, a3, b3, rfl, ⟨x3, rfl⟩, rfl⟩, a', b', rfl, ⟨c1, d1, rfl, ⟨y1, rfl⟩, c2, d2, rfl, ⟨y2, rfl⟩, c3, d3, rfl, ⟨y3, rfl⟩, rfl⟩, a4, b4, rfl, ⟨e, l, rfl, hl⟩, rfl⟩ := h
  exact ⟨⟨x1, x2, x3, y1, y2, y3, e, l⟩, rfl, hl⟩)
theorem op_pls : Op enc Tryz.prog W 23 (RLst 7 RPl) := op_list Tryz.underlying23 (by kernel_rfl) (by kernel_rfl) (by decide) (of_decide_eq_true (by kernel_rfl)) RPl.stab op_pl
end
theorem law_packetOwn {x z : SV} {M : List Blk} (hx : RBytC M [x]) (hz : RLst 7 RPl M [z]) (K : SV → List Blk → Prop) (hK : ∀ M', K (.b true) M') : callVC Tryz.prog 3 [x, z] M K := by
  obtain ⟨x, key, h, hx1, _⟩ := hx; cases h
  obtain ⟨z, es, h, hz1, hz2⟩ := hz; cases h
  obtain ⟨tl, rfl, h3⟩ := list_choose (f := plC) (Q := fun p => Byt M p.e p.b) (fun c hc => by
    obtain ⟨p, h1, h2⟩ := hz2 c hc
    exact ⟨p, h1, h2⟩)
  exact pown_ok x z key tl M K hx1 hz1 h3 hK
end Go.Proofs.YtdkdbeamimkljaaGreatDoor.Eng
