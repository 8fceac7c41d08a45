/- Joined texts: A1, A2, A3, A4. -/
import Derived.Test.YtdkdbeamimkljaaGreatDoorMf
import Derived.Test.YtdkdbeamimkljaaGreatDoorMa
namespace Go.Proofs.YtdkdbeamimkljaaGreatDoor.Eng
set_option linter.unusedSimpArgs false
set_option linter.unusedVariables false
open Go Go.RowKit
def sbN (v : BitVec 8) : Nat → BitVec 8
  | 0 => 99#8
  | k + 1 => sbN v k ^^^ (v <<< k ||| v >>> (8 - k))
def sbox (x : BitVec 8) : BitVec 8 := sbN (inv8 x) 5
theorem sbox_ok (x : BitVec 8) (M : List Blk) (K : SV → List Blk → Prop) (hK : K (.u8 (sbox x)) M) : callVC Tryz.prog 112 [.u8 x] M K := by
  refine fn_rule tabOK Tryz.func112 rfl Tryz.call112 (by kernel_rfl) (fun hM => ?_)
  (refine top_in ?_; simp -implicitDefEqProofs only [Tryz.ntmps112, Tryz.results112, go_sem, -List.reduceReplicate, ↓L_gdZ_tt, ↓L_gdZ_tf, ↓L_gdZ_ft, ↓L_gdZ_ff, ↓T_and, ↓T_imp, ↓T_all]; try simp only [top_out])
  refine inv8_ok _ _ _ ?_
  (refine top_in ?_; simp -implicitDefEqProofs only [go_sem, -List.reduceReplicate, ↓L_gdZ_tt, ↓L_gdZ_tf, ↓L_gdZ_ft, ↓L_gdZ_ff, ↓T_and, ↓T_imp, ↓T_all]; try simp only [top_out])
  have hK' : ∀ v, inv8 x = v → K (.u8 (sbN v 5)) M := fun v h => h ▸ hK
  generalize hv : inv8 x = v
  have hK := hK' v hv
  clear hK' hv
  refine loop_code tabOK (by kernel_rfl) (fun n ts M' => M = M' ∧ ∃ k : Nat, k + n = 5 ∧ frC [none, none, none, some (.u8 v), some (.u8 (sbN v k)), none, none, none, none, some (.agg [.i .i64 0, .i .i64 1, .i .i64 2, .i .i64 3, .i .i64 4]), some (.i .i64 k), none, none, none, none, none, none, none, none, none, none, none, none, none, none] ts) 5 ?_ ?_
  · exact ⟨rfl, 0, rfl, by simp [frC, sbN]⟩
  · rintro n ts _ ⟨rfl, k, hk, hf⟩
    obtain ⟨f, rfl⟩ := frC_open _ _ 0 hf
    clear hf
    (refine top_in ?_; simp -implicitDefEqProofs only [go_sem, -List.reduceReplicate, ↓L_gdZ_tt, ↓L_gdZ_tf, ↓L_gdZ_ft, ↓L_gdZ_ff, ↓T_and, ↓T_imp, ↓T_all]; try simp only [top_out])
    refine ⟨fun h => ?_, fun h => ?_⟩
    · have e : isI IntKind.i64 [SV.i IntKind.i64 0, SV.i IntKind.i64 1, SV.i IntKind.i64 2, SV.i IntKind.i64 3, SV.i IntKind.i64 4] k = true ∧
          cellI [SV.i IntKind.i64 0, SV.i IntKind.i64 1, SV.i IntKind.i64 2, SV.i IntKind.i64 3, SV.i IntKind.i64 4] k = k := by
        rcases (by omega : k = 0 ∨ k = 1 ∨ k = 2 ∨ k = 3 ∨ k = 4) with rfl | rfl | rfl | rfl | rfl <;> exact ⟨rfl, rfl⟩
      rw [e.1, e.2]
      refine ⟨by omega, h, rfl, ?_⟩
      refine draw_rule tabOK (by kernel_rfl : _) (.p 0 (.p 1 (.p 2 (.p 3 (.p 4 (.p 5 (.p 6 (.p 7 (.p 8 (.p 9 (.p 10 .nil))))))))))) (by kernel_rfl) (by kernel_rfl) ?_
      (refine top_in ?_; simp -implicitDefEqProofs only [go_sem, -List.reduceReplicate, ↓L_gdZ_tt, ↓L_gdZ_tf, ↓L_gdZ_ft, ↓L_gdZ_ff, ↓T_and, ↓T_imp, ↓T_all]; try simp only [top_out])
      rw [w64 (x := 8 - (k : Int)) (by omega) (by omega), show 8 - (k : Int) = ((8 - k : Nat) : Int) by omega, Int.toNat_natCast, w64 (x := (k : Int) + 1) (by omega) (by omega)]
      exact ⟨by omega, by omega, n - 1, by omega, k + 1, by omega, rfl, by omega⟩
    · obtain rfl : k = 5 := by omega
      exact dropC_self hM rfl hK
def sum4 (x y : List (BitVec 8)) : List (BitVec 8) := gl 4 fun j => x.getD j 0#8 ^^^ y.getD j 0#8
theorem sum4_len (x y : List (BitVec 8)) : (sum4 x y).length = 4 := gl_len
theorem sum_ok (x y : List (BitVec 8)) (hx : x.length = 4) (hy : y.length = 4) (M : List Blk) (K : SV → List Blk → Prop) (hK : K (.agg (bS (sum4 x y))) M) :
    callVC Tryz.prog 113 [.agg (bS x), .agg (bS y)] M K := by
  refine fn_rule tabOK Tryz.func113 rfl Tryz.call113 (by kernel_rfl) (fun hM => ?_)
  (refine top_in ?_; simp -implicitDefEqProofs only [Tryz.ntmps113, Tryz.results113, go_sem, -List.reduceReplicate, ↓L_gdZ_tt, ↓L_gdZ_tf, ↓L_gdZ_ft, ↓L_gdZ_ff, ↓T_and, ↓T_imp, ↓T_all, hx, hy]; try simp only [top_out])
  refine loop_code tabOK (by kernel_rfl) (fun n ts M' => ∃ (k : Nat), k + n = 4 ∧ frC [none, none, some (.p M.length 0), none, some (.p (M.length + 2) 0), none, none, some (.agg (bS y)), some (.i .i64 k), none, none, none, none, none, none, none, none, none, none, none] ts ∧
     M' = M ++ [.row (bS (gl 4 fun j => if j < k then x.getD j 0#8 ^^^ y.getD j 0#8 else x.getD j 0#8)) 127, .row (bS y) 127, .row (bS (List.replicate 4 0#8)) 127]) 4 ?_ ?_
  · refine ⟨0, rfl, by simp [frC], ?_⟩
    simp only [Nat.not_lt_zero, if_false]
    rw [← gl_self hx]
  · rintro n ts _ ⟨k, hk, hf, rfl⟩
    obtain ⟨f, rfl⟩ := frC_open _ _ 0 hf
    clear hf
    (refine top_in ?_; simp -implicitDefEqProofs only [go_sem, -List.reduceReplicate, ↓L_gdZ_tt, ↓L_gdZ_tf, ↓L_gdZ_ft, ↓L_gdZ_ff, ↓T_and, ↓T_imp, ↓T_all, hx, hy]; try simp only [top_out])
    refine ⟨fun h => ?_, fun h => ?_⟩
    · repeat' refine And.intro ?_ ?_
      any_goals omega
      refine ⟨n - 1, by omega, k + 1, by omega, by rw [w64 (by omega) (by omega)]; rfl, ?_⟩
      rw [gl_set, gl_getD (by omega), if_neg (by omega)]
      refine congrArg (fun l => M ++ [Blk.row (bS l) 127, Blk.row (bS y) 127, Blk.row (bS (List.replicate 4 0#8)) 127]) (gl_ext fun i hi => ?_)
      split
      · subst_vars; rw [if_pos (by omega)]
      · split
        · rw [if_pos (by omega)]
        · rw [if_neg (by omega)]
    · obtain rfl : k = 4 := by omega
      refine dropC_append hM (bS_lt _ _) ?_
      have : (gl 4 fun j => if j < 4 then x.getD j 0#8 ^^^ y.getD j 0#8 else x.getD j 0#8) = sum4 x y := gl_ext fun i hi => if_pos hi
      rw [this]
      exact hK
def rotL (x : List (BitVec 8)) : List (BitVec 8) := [x.getD 1 0#8, x.getD 2 0#8, x.getD 3 0#8, x.getD 0 0#8]
def subL (C x : List (BitVec 8)) : List (BitVec 8) := gl 4 fun j => C.getD (x.getD j 0#8).toNat 0#8
def rcL (x : List (BitVec 8)) (i : Nat) : List (BitVec 8) := x.set 0 (x.getD 0 0#8 ^^^ 1#8 <<< (i / 8 - 1))
def turnL (C x : List (BitVec 8)) (i : Nat) : List (BitVec 8) := if i % 8 = 0 then rcL (subL C (rotL x)) i else if i % 4 = 0 then subL C x else x
theorem splice_b {l : List (BitVec 8)} {k : Nat} {v : BitVec 8} (h : k < l.length) : splice (bS l) k [SV.u8 v] = bS (l.set k v) := by
  unfold splice bS
  rw [List.map_set, List.set_eq_take_append_cons_drop, if_pos (by simpa using h)]
  simp
theorem rot_set {x : List (BitVec 8)} : ((((List.replicate 4 0#8).set 0 (x.getD 1 0#8)).set 1 (x.getD 2 0#8)).set 2 (x.getD 3 0#8)).set 3 (x.getD 0 0#8) = rotL x := rfl
theorem rotL_len {x : List (BitVec 8)} : (rotL x).length = 4 := rfl
set_option maxHeartbeats 1000000 in
theorem turned_ok (m : Nat) (C : List (BitVec 8)) (ty : TypeId) (x : List (BitVec 8)) (i : Nat) (M : List Blk) (K : SV → List Blk → Prop) (hC : M[m]? = some (.row (bS C) ty)) (hCl : C.length = 496) (hx : x.length = 4) (h8 : 8 ≤ i) (h60 : i < 60)
    (hK : K (.agg (bS (turnL C x i))) M) : callVC Tryz.prog 114 [.p m 0, .agg (bS x), .i .i64 i] M K := by
  have hm : m < M.length := (List.getElem?_eq_some_iff.1 hC).1
  have e8 : (i : Int).tmod 8 = ((i % 8 : Nat) : Int) := by rw [Int.tmod_eq_emod_of_nonneg (by omega)]; omega
  have e4 : (i : Int).tmod 4 = ((i % 4 : Nat) : Int) := by rw [Int.tmod_eq_emod_of_nonneg (by omega)]; omega
  have q8 : (i : Int).tdiv 8 = ((i / 8 : Nat) : Int) := by rw [Int.tdiv_eq_ediv_of_nonneg (by omega)]; omega
  refine fn_rule tabOK Tryz.func114 rfl Tryz.call114 (by kernel_rfl) (fun hM => ?_)
  (refine top_in ?_; simp -implicitDefEqProofs only [Tryz.ntmps114, Tryz.results114, go_sem, -List.reduceReplicate, ↓L_gdZ_tt, ↓L_gdZ_tf, ↓L_gdZ_ft, ↓L_gdZ_ff, ↓T_and, ↓T_imp, ↓T_all, hx, e8, e4, q8, splice_b, bS_length, List.length_set, List.length_replicate, rot_set, rotL_len]; try simp only [top_out])
  refine ⟨fun c8 => ⟨fun c4 => ?_, fun c4 => ?_⟩, fun c8 => ⟨fun c4 => ?_, fun c4 => ?_⟩⟩
  · have j8 := beqT c8
    refine loop_code tabOK (by kernel_rfl) (fun n ts M' => ∃ k : Nat, k + n = 4 ∧ frC [some (.p m 0), none, some (.i .i64 i), none, some (.p M.length 0), none, some (.p (M.length + 1) 0), none, none, none, none, none, none, none, none, none, none, none, none, none, none, none, none, none, some (.agg (bS (rotL x))), some (.i .i64 k), none, none, none, none, none, none, none, none, none, none, none, none, none, none, none, none, none, none, none, none, none, none, none, none] ts ∧
      M' = M ++ [.row (bS (gl 4 fun j => if j < k then C.getD ((rotL x).getD j 0#8).toNat 0#8 else (rotL x).getD j 0#8)) 127, .row (bS (List.replicate 4 0#8)) 127]) 4 ?_ ?_
    · refine ⟨0, rfl, by simp [frC], ?_⟩
      simp only [Nat.not_lt_zero, if_false]
      rw [← gl_self (rotL_len (x := x))]
    · rintro n ts _ ⟨k, hk, hf, rfl⟩
      obtain ⟨f, rfl⟩ := frC_open _ _ 0 hf
      clear hf
      (refine top_in ?_; simp -implicitDefEqProofs only [go_sem, -List.reduceReplicate, ↓L_gdZ_tt, ↓L_gdZ_tf, ↓L_gdZ_ft, ↓L_gdZ_ff, ↓T_and, ↓T_imp, ↓T_all, get_lt hm, hC, hCl, e8, e4, q8, (rotL_len (x := x)), c8]; try simp only [top_out])
      refine ⟨fun h => ?_, fun h => ?_⟩
      · have h256 := BitVec.isLt ((rotL x).getD k 0#8)
        repeat' refine And.intro ?_ ?_
        any_goals omega
        refine ⟨n - 1, by omega, k + 1, by omega, by rw [w64 (by omega) (by omega)]; rfl, ?_⟩
        rw [gl_set]
        refine congrArg (fun l => M ++ [Blk.row (bS l) 127, Blk.row (bS (List.replicate 4 0#8)) 127]) (gl_ext fun i hi => ?_)
        split
        · subst_vars; rw [if_pos (by omega)]
        · split
          · rw [if_pos (by omega)]
          · rw [if_neg (by omega)]
      · obtain rfl : k = 4 := by omega
        have e : (gl 4 fun j => if j < 4 then C.getD ((rotL x).getD j 0#8).toNat 0#8 else (rotL x).getD j 0#8) = subL C (rotL x) := gl_ext fun i hi => if_pos hi
        rw [e]
        have hl : (subL C (rotL x)).length = 4 := gl_len
        refine draw_rule tabOK (by kernel_rfl : _) (.p 0 (.p 1 (.p 2 (.p 3 (.p 4 (.p 5 (.p 6 (.p 7 (.e 8 [] .nil .no))))))))) (by kernel_rfl) (by kernel_rfl) ?_
        (refine top_in ?_; simp -implicitDefEqProofs only [go_sem, -List.reduceReplicate, ↓L_gdZ_tt, ↓L_gdZ_tf, ↓L_gdZ_ft, ↓L_gdZ_ff, ↓T_and, ↓T_imp, ↓T_all, hl, q8]; try simp only [top_out])
        rw [w64 (x := ((i / 8 : Nat) : Int)) (by omega) (by omega), w64 (x := ((i / 8 : Nat) : Int) - 1) (by omega) (by omega), show ((i / 8 : Nat) : Int) - 1 = ((i / 8 - 1 : Nat) : Int) by omega, Int.toNat_natCast]
        refine ⟨by omega, dropC_append hM (bS_lt _ _) ?_⟩
        rw [turnL, if_pos (by omega)] at hK
        exact hK
  · exfalso
    have := beqT c8
    have := beqF c4
    omega
  · have j8 := beqF c8
    have j4 := beqT c4
    refine loop_code tabOK (by kernel_rfl) (fun n ts M' => ∃ k : Nat, k + n = 4 ∧ frC [some (.p m 0), none, some (.i .i64 i), none, some (.p M.length 0), none, some (.p (M.length + 1) 0), none, none, none, none, none, none, none, none, none, none, none, none, none, none, none, none, none, some (.agg (bS (x))), some (.i .i64 k), none, none, none, none, none, none, none, none, none, none, none, none, none, none, none, none, none, none, none, none, none, none, none, none] ts ∧
      M' = M ++ [.row (bS (gl 4 fun j => if j < k then C.getD ((x).getD j 0#8).toNat 0#8 else (x).getD j 0#8)) 127, .row (bS (List.replicate 4 0#8)) 127]) 4 ?_ ?_
    · refine ⟨0, rfl, by simp [frC], ?_⟩
      simp only [Nat.not_lt_zero, if_false]
      rw [← gl_self hx]
    · rintro n ts _ ⟨k, hk, hf, rfl⟩
      obtain ⟨f, rfl⟩ := frC_open _ _ 0 hf
      clear hf
      (refine top_in ?_; simp -implicitDefEqProofs only [go_sem, -List.reduceReplicate, ↓L_gdZ_tt, ↓L_gdZ_tf, ↓L_gdZ_ft, ↓L_gdZ_ff, ↓T_and, ↓T_imp, ↓T_all, get_lt hm, hC, hCl, e8, e4, q8, hx, c8]; try simp only [top_out])
      refine ⟨fun h => ?_, fun h => ?_⟩
      · have h256 := BitVec.isLt ((x).getD k 0#8)
        repeat' refine And.intro ?_ ?_
        any_goals omega
        refine ⟨n - 1, by omega, k + 1, by omega, by rw [w64 (by omega) (by omega)]; rfl, ?_⟩
        rw [gl_set]
        refine congrArg (fun l => M ++ [Blk.row (bS l) 127, Blk.row (bS (List.replicate 4 0#8)) 127]) (gl_ext fun i hi => ?_)
        split
        · subst_vars; rw [if_pos (by omega)]
        · split
          · rw [if_pos (by omega)]
          · rw [if_neg (by omega)]
      · obtain rfl : k = 4 := by omega
        have e : (gl 4 fun j => if j < 4 then C.getD (x.getD j 0#8).toNat 0#8 else x.getD j 0#8) = subL C x := gl_ext fun i hi => if_pos hi
        rw [e]
        refine dropC_append hM (bS_lt _ _) ?_
        rw [turnL, if_neg (by omega), if_pos (by omega)] at hK
        exact hK
  · have j8 := beqF c8
    have j4 := beqF c4
    refine ⟨fun h => absurd (beqT h) j8, fun _ => dropC_append hM (bS_lt _ _) ?_⟩
    rw [turnL, if_neg (by omega), if_neg (by omega)] at hK
    exact hK
def mixL (x : List (BitVec 8)) : List (BitVec 8) := gl 4 fun i => mul8L 8 2#8 (x.getD i 0#8) 0#8 ^^^ mul8L 8 3#8 (x.getD ((i + 1) % 4) 0#8) 0#8 ^^^ x.getD ((i + 2) % 4) 0#8 ^^^ x.getD ((i + 3) % 4) 0#8
theorem mixL_len (x : List (BitVec 8)) : (mixL x).length = 4 := gl_len
theorem mixed_ok (x : List (BitVec 8)) (hx : x.length = 4) (M : List Blk) (K : SV → List Blk → Prop) (hK : K (.agg (bS (mixL x))) M) :
    callVC Tryz.prog 173 [.agg (bS x)] M K := by
  refine fn_rule tabOK Tryz.func173 rfl Tryz.call173 (by kernel_rfl) (fun hM => ?_)
  (refine top_in ?_; simp -implicitDefEqProofs only [Tryz.ntmps173, Tryz.results173, go_sem, -List.reduceReplicate, ↓L_gdZ_tt, ↓L_gdZ_tf, ↓L_gdZ_ft, ↓L_gdZ_ff, ↓T_and, ↓T_imp, ↓T_all, hx]; try simp only [top_out])
  refine loop_code tabOK (by kernel_rfl) (fun n ts M' => ∃ (k : Nat), k + n = 4 ∧ frC [none, some (.p M.length 0), some (.p (M.length + 1) 0), some (.p (M.length + 2) 0), none, none, none, some (.agg (bS x)), some (.i .i64 k), none, none, none, none, none, none, none, none, none, none, none, none, none, none, none, none, none, none, none, none, none, none, none, none, none, none, none, none, none] ts ∧
     M' = M ++ [.row (bS x) 229, .row (bS (List.replicate 4 0#8)) 229, .row (bS (gl 4 fun j => if j < k then (mixL x).getD j 0#8 else 0#8)) 229]) 4 ?_ ?_
  · refine ⟨0, rfl, by simp [frC], ?_⟩
    simp only [Nat.not_lt_zero, if_false, gl_const]
  · rintro n ts _ ⟨k, hk, hf, rfl⟩
    have em : ∀ a : Nat, a ≤ 3 → k < 4 → (IntKind.i64.wrap ((k : Int) + a)).tmod 4 = (((k + a) % 4 : Nat) : Int) := fun a ha hk => by
      rw [w64 (by omega) (by omega), Int.tmod_eq_emod_of_nonneg (by omega)]; omega
    obtain ⟨f, rfl⟩ := frC_open _ _ 0 hf
    clear hf
    (refine top_in ?_; simp -implicitDefEqProofs only [go_sem, -List.reduceReplicate, ↓L_gdZ_tt, ↓L_gdZ_tf, ↓L_gdZ_ft, ↓L_gdZ_ff, ↓T_and, ↓T_imp, ↓T_all, hx]; try simp only [top_out])
    refine ⟨fun h => ?_, fun h => ?_⟩
    · have hk4 : k < 4 := by omega
      have m1 := em 1 (by omega) hk4
      have m2 := em 2 (by omega) hk4
      have m3 := em 3 (by omega) hk4
      simp only [Int.cast_ofNat_Int] at m1 m2 m3
      have g0 : (mixL x).getD k 0#8 = mul8L 8 2#8 (x.getD k 0#8) 0#8 ^^^ mul8L 8 3#8 (x.getD ((k + 1) % 4) 0#8) 0#8 ^^^ x.getD ((k + 2) % 4) 0#8 ^^^ x.getD ((k + 3) % 4) 0#8 := gl_getD hk4 _
      have gs : (gl 4 fun j => if j < k then (mixL x).getD j 0#8 else 0#8).set k ((mixL x).getD k 0#8) = gl 4 fun j => if j < k + 1 then (mixL x).getD j 0#8 else 0#8 := by
        rw [gl_set]
        refine gl_ext fun i hi => ?_
        split
        · subst_vars; rw [if_pos (by omega)]
        · split
          · rw [if_pos (by omega)]
          · rw [if_neg (by omega)]
      rw [g0] at gs
      simp only [m1, m2, m3, Int.toNat_natCast]
      refine ⟨by omega, by omega, by omega, by omega, by omega, by omega, by omega, ?_⟩
      refine draw_rule tabOK (by kernel_rfl : _) (.p 0 (.p 1 (.p 3 (.p 6 (.p 7 (.p 8 (.p 9 (.p 10 (.p 12 (.p 13 (.p 14 (.p 15 (.p 16 (.e 2 [9, 10, 15, 16] (.e 4 [9, 10, 15, 16] (.p 5 (.p 11 (.p 17 (.p 18 (.e 19 [] .nil .no))))) .no) .no)))))))))))))) (by kernel_rfl) (by kernel_rfl) ?_
      (refine top_in ?_; simp -implicitDefEqProofs only [go_sem, -List.reduceReplicate, ↓L_gdZ_tt, ↓L_gdZ_tf, ↓L_gdZ_ft, ↓L_gdZ_ff, ↓T_and, ↓T_imp, ↓T_all, hx, m1, m2, m3]; try simp only [top_out])
      refine ⟨by omega, by omega, by omega, by omega, by omega, by omega, by omega, by omega, ?_⟩
      refine mul8_ok _ _ _ _ ?_
      (refine top_in ?_; simp -implicitDefEqProofs only [go_sem, -List.reduceReplicate, ↓L_gdZ_tt, ↓L_gdZ_tf, ↓L_gdZ_ft, ↓L_gdZ_ff, ↓T_and, ↓T_imp, ↓T_all, hx, m1, m2, m3]; try simp only [top_out])
      refine ⟨by omega, ?_⟩
      refine mul8_ok _ _ _ _ ?_
      (refine top_in ?_; simp -implicitDefEqProofs only [go_sem, -List.reduceReplicate, ↓L_gdZ_tt, ↓L_gdZ_tf, ↓L_gdZ_ft, ↓L_gdZ_ff, ↓T_and, ↓T_imp, ↓T_all, hx, m1, m2, m3]; try simp only [top_out])
      refine ⟨by omega, by omega, by omega, by omega, by omega, n - 1, by omega, k + 1, by omega, by rw [w64 (by omega) (by omega)]; rfl, ?_⟩
      rw [gs]
    · obtain rfl : k = 4 := by omega
      refine dropC_append hM (bS_lt _ _) ?_
      have : (gl 4 fun j => if j < 4 then (mixL x).getD j 0#8 else 0#8) = mixL x := by
        conv => rhs; rw [gl_self (mixL_len x) 0#8]
        exact gl_ext fun i hi => if_pos hi
      rw [this]
      exact hK
def shiftL (C b : List (BitVec 8)) : List (BitVec 8) := gl 16 fun i => C.getD (b.getD (4 * ((i / 4 + i % 4) % 4) + i % 4) 0#8).toNat 0#8
theorem shiftL_len (C b : List (BitVec 8)) : (shiftL C b).length = 16 := gl_len
theorem shifted_ok (m : Nat) (C : List (BitVec 8)) (ty : TypeId) (x : List (BitVec 8)) (M : List Blk) (K : SV → List Blk → Prop) (hC : M[m]? = some (.row (bS C) ty)) (hCl : C.length = 496) (hx : x.length = 16)
    (hK : K (.agg (bS (shiftL C x))) M) : callVC Tryz.prog 172 [.p m 0, .agg (bS x)] M K := by
  have hm : m < M.length := (List.getElem?_eq_some_iff.1 hC).1
  refine fn_rule tabOK Tryz.func172 rfl Tryz.call172 (by kernel_rfl) (fun hM => ?_)
  (refine top_in ?_; simp -implicitDefEqProofs only [Tryz.ntmps172, Tryz.results172, go_sem, -List.reduceReplicate, ↓L_gdZ_tt, ↓L_gdZ_tf, ↓L_gdZ_ft, ↓L_gdZ_ff, ↓T_and, ↓T_imp, ↓T_all, hx]; try simp only [top_out])
  refine loop_code tabOK (by kernel_rfl) (fun n ts M' => ∃ (k : Nat), k + n = 16 ∧ frC [some (.p m 0), none, none, some (.p M.length 0), some (.p (M.length + 1) 0), some (.p (M.length + 2) 0), none, none, none, some (.i .i64 k), none, none, none, none, none, none, none, none, none, none, none, none, none, none, none, none, none, none, none, none, none, none, none, none] ts ∧
     M' = M ++ [.row (bS x) 121, .row (bS (List.replicate 16 0#8)) 121, .row (bS (gl 16 fun j => if j < k then C.getD (x.getD (4 * ((j / 4 + j % 4) % 4) + j % 4) 0#8).toNat 0#8 else 0#8)) 121]) 16 ?_ ?_
  · refine ⟨0, rfl, by simp [frC], ?_⟩
    simp only [Nat.not_lt_zero, if_false, gl_const]
  · rintro n ts _ ⟨k, hk, hf, rfl⟩
    have e1 : (k : Int).tdiv 4 = ((k / 4 : Nat) : Int) := by rw [Int.tdiv_eq_ediv_of_nonneg (by omega)]; omega
    have e2 : (k : Int).tmod 4 = ((k % 4 : Nat) : Int) := by rw [Int.tmod_eq_emod_of_nonneg (by omega)]; omega
    have w1 : IntKind.i64.wrap ((k / 4 : Nat) : Int) = ((k / 4 : Nat) : Int) := w64 (by omega) (by omega)
    have e3 : (IntKind.i64.wrap (((k / 4 : Nat) : Int) + ((k % 4 : Nat) : Int))).tmod 4 = (((k / 4 + k % 4) % 4 : Nat) : Int) := by
      rw [w64 (by omega) (by omega), Int.tmod_eq_emod_of_nonneg (by omega)]; omega
    obtain ⟨f, rfl⟩ := frC_open _ _ 0 hf
    clear hf
    (refine top_in ?_; simp -implicitDefEqProofs only [go_sem, -List.reduceReplicate, ↓L_gdZ_tt, ↓L_gdZ_tf, ↓L_gdZ_ft, ↓L_gdZ_ff, ↓T_and, ↓T_imp, ↓T_all, get_lt hm, hC, hCl, hx, e1, e2, w1, e3]; try simp only [top_out])
    refine ⟨fun h => ?_, fun h => ?_⟩
    · have h256 := BitVec.isLt (x.getD (4 * ((k / 4 + k % 4) % 4) + k % 4) 0#8)
      have w2 : IntKind.i64.wrap (IntKind.i64.wrap (4 * (((k / 4 + k % 4) % 4 : Nat) : Int)) + ((k % 4 : Nat) : Int)) = ((4 * ((k / 4 + k % 4) % 4) + k % 4 : Nat) : Int) := by
        rw [w64 (x := 4 * _) (by omega) (by omega), w64 (by omega) (by omega)]; omega
      refine draw_rule tabOK (by kernel_rfl : _) (.p 0 (.p 1 (.p 2 (.p 3 (.p 4 (.p 5 (.p 6 (.p 7 (.p 8 (.p 9 (.p 10 (.p 11 (.p 12 (.p 13 (.p 14 (.p 15 (.e 16 [] .nil .no))))))))))))))))) (by kernel_rfl) (by kernel_rfl) ?_
      (refine top_in ?_; simp -implicitDefEqProofs only [go_sem, -List.reduceReplicate, ↓L_gdZ_tt, ↓L_gdZ_tf, ↓L_gdZ_ft, ↓L_gdZ_ff, ↓T_and, ↓T_imp, ↓T_all, get_lt hm, hC, hCl, hx, e1, e2, e3, w2]; try simp only [top_out])
      repeat' refine And.intro ?_ ?_
      any_goals omega
      refine ⟨n - 1, by omega, k + 1, by omega, by rw [w64 (by omega) (by omega)]; rfl, ?_⟩
      rw [gl_set]
      refine congrArg (fun l => M ++ [Blk.row (bS x) 121, Blk.row (bS (List.replicate 16 0#8)) 121, Blk.row (bS l) 121]) (gl_ext fun i hi => ?_)
      split
      · subst_vars; rw [if_pos (by omega)]
      · split
        · rw [if_pos (by omega)]
        · rw [if_neg (by omega)]
    · obtain rfl : k = 16 := by omega
      refine dropC_append hM (bS_lt _ _) ?_
      have : (gl 16 fun j => if j < 16 then C.getD (x.getD (4 * ((j / 4 + j % 4) % 4) + j % 4) 0#8).toNat 0#8 else 0#8) = shiftL C x := gl_ext fun i hi => if_pos hi
      rw [this]
      exact hK
def keyAt (C : List (BitVec 8)) (r : Nat) : List (BitVec 8) := (C.drop (256 + 16 * r)).take 16
def mixK (s : List (BitVec 8)) (k : Nat) : List (BitVec 8) := gl 16 fun j => if j < 4 * k then (mixL ((s.drop (4 * (j / 4))).take 4)).getD (j % 4) 0#8 else s.getD j 0#8
theorem mixK_len (s : List (BitVec 8)) (k : Nat) : (mixK s k).length = 16 := gl_len
def aesR (C b : List (BitVec 8)) (r : Nat) : List (BitVec 8) := xorL (if r < 14 then mixK (shiftL C b) 4 else shiftL C b) (keyAt C r)
def aesN (C x : List (BitVec 8)) : Nat → List (BitVec 8)
  | 0 => xorL x (keyAt C 0)
  | k + 1 => aesR C (aesN C x k) (k + 1)
theorem aesN_len (C x : List (BitVec 8)) : ∀ k, (aesN C x k).length = 16
  | 0 => xorL_len _ _
  | _ + 1 => xorL_len _ _
theorem keyAt_len {C : List (BitVec 8)} (hC : C.length = 496) {r : Nat} (hr : r < 15) : (keyAt C r).length = 16 := by unfold keyAt; simp; omega
theorem mix_step {s : List (BitVec 8)} (hs : s.length = 16) {j : Nat} (hj : j < 4) :
    (mixK s j).take (4 * j) ++ (mixL (((mixK s j).drop (4 * j)).take 4)).take (16 - 4 * j) ++ (mixK s j).drop (4 * j + Nat.min (mixL (((mixK s j).drop (4 * j)).take 4)).length (16 - 4 * j)) = mixK s (j + 1) := by
  match s, hs with
  | [a0, a1, a2, a3, a4, a5, a6, a7, a8, a9, a10, a11, a12, a13, a14, a15], _ =>
    rcases (by omega : j = 0 ∨ j = 1 ∨ j = 2 ∨ j = 3) with rfl | rfl | rfl | rfl <;> rfl
set_option maxHeartbeats 1000000 in
theorem block_ok (m : Nat) (C : List (BitVec 8)) (ty : TypeId) (x : List (BitVec 8)) (M : List Blk) (K : SV → List Blk → Prop) (hC : M[m]? = some (.row (bS C) ty)) (hCl : C.length = 496) (hx : x.length = 16)
    (hK : K (.agg (bS (aesN C x 14))) M) : callVC Tryz.prog 117 [.p m 0, .agg (bS x)] M K := by
  have hm : m < M.length := (List.getElem?_eq_some_iff.1 hC).1
  refine fn_rule tabOK Tryz.func117 rfl Tryz.call117 (by kernel_rfl) (fun hM => ?_)
  (refine top_in ?_; simp -implicitDefEqProofs only [Tryz.ntmps117, Tryz.results117, go_sem, -List.reduceReplicate, ↓L_gdZ_tt, ↓L_gdZ_tf, ↓L_gdZ_ft, ↓L_gdZ_ff, ↓T_and, ↓T_imp, ↓T_all, get_lt hm, hC, hCl, hx]; try simp only [top_out])
  have k0 : (keyAt C 0).length = 16 := keyAt_len hCl (by omega)
  have ka : List.take 16 (List.drop 256 C) = keyAt C 0 := rfl
  have x0 := xorL_len x (keyAt C 0)
  refine draw_rule tabOK (by kernel_rfl : _) (.p 0 (.p 1 (.p 2 (.p 3 (.p 4 (.p 5 (.e 6 [] (.e 7 [0, 2, 3, 4, 5] (.e 8 [] .nil .no) .no) (.e 7 [0, 2, 3, 4, 5] (.e 6 [] (.e 8 [] .nil .no) .no) .no)))))))) (by kernel_rfl) (by kernel_rfl) ?_
  (refine top_in ?_; simp -implicitDefEqProofs only [go_sem, -List.reduceReplicate, ↓L_gdZ_tt, ↓L_gdZ_tf, ↓L_gdZ_ft, ↓L_gdZ_ff, ↓T_and, ↓T_imp, ↓T_all, get_lt hm, hC, hCl, hx, ka, k0]; try simp only [top_out])
  refine ⟨?_, ?_⟩
  all_goals
    refine xor_ok x (keyAt C 0) hx k0 _ _ ?_
    (refine top_in ?_; simp -implicitDefEqProofs only [go_sem, -List.reduceReplicate, ↓L_gdZ_tt, ↓L_gdZ_tf, ↓L_gdZ_ft, ↓L_gdZ_ff, ↓T_and, ↓T_imp, ↓T_all, get_lt hm, hC, hCl, hx, ka, k0, x0]; try simp only [top_out])
    refine loop_code tabOK (by kernel_rfl) (fun n ts M' => ∃ (k : Nat), k + n = 14 ∧ frC [some (.p m 0), none, none, some (.p M.length 0), some (.p (M.length + 1) 0), some (.p (M.length + 2) 0), some (.i .i64 (k + 1 : Nat)), none, none, none, none, none, none, none, none, none, none, none, none, none, none, none, none, none, none, none, none, none, none, none, none, none, none, none, none, none, none, none, none, none, none, none, none, none, none, none, none, none, none, none, none] ts ∧
      M' = M ++ [.row (bS x) 113, .row (bS (List.replicate 16 0#8)) 113, .row (bS (aesN C x k)) 121]) 14 ?_ ?_
    · exact ⟨0, rfl, by simp [frC], rfl⟩
    · rintro n ts _ ⟨k, hk, hf, rfl⟩
      have hb := aesN_len C x k
      generalize hs : aesN C x k = b at hb
      obtain ⟨f, rfl⟩ := frC_open _ _ 0 hf
      clear hf
      (refine top_in ?_; simp -implicitDefEqProofs only [go_sem, -List.reduceReplicate, ↓L_gdZ_tt, ↓L_gdZ_tf, ↓L_gdZ_ft, ↓L_gdZ_ff, ↓T_and, ↓T_imp, ↓T_all, get_lt hm, hC, hCl, hx, hb]; try simp only [top_out])
      refine ⟨fun h => ?_, fun h => ?_⟩
      · have hsl := shiftL_len C b
        refine shifted_ok m C ty b _ _ (by rw [get_lt hm]; exact hC) hCl hb ?_
        (refine top_in ?_; simp -implicitDefEqProofs only [go_sem, -List.reduceReplicate, ↓L_gdZ_tt, ↓L_gdZ_tf, ↓L_gdZ_ft, ↓L_gdZ_ff, ↓T_and, ↓T_imp, ↓T_all, get_lt hm, hC, hCl, hx, hb, hsl]; try simp only [top_out])
        generalize hss : shiftL C b = s at hsl
        refine loop_gc tabOK (by kernel_rfl) (fun i ts M' => ∃ j : Nat, j + i = 4 ∧ (k + 1 < 14 ∨ j = 0) ∧ frC [some (.p m 0), none, none, some (.p M.length 0), some (.p (M.length + 1) 0), some (.p (M.length + 2) 0), some (.i .i64 (k + 1 : Nat)), some (.i .i64 (4 * j : Nat)), none, none, none, none, none, none, none, none, none, none, none, none, none, none, none, none, none, none, none, none, none, none, none, none, none, none, none, none, none, none, none, none, none, none, none, none, none, none, none, none, none, none, none] ts ∧
          M' = M ++ [.row (bS x) 113, .row (bS (List.replicate 16 0#8)) 113, .row (bS (mixK s j)) 121]) 4 ?_ ?_
        · refine covF_self ⟨0, rfl, .inr rfl, by simp [frC], ?_⟩
          have e : mixK s 0 = s := by
            conv => rhs; rw [gl_self hsl 0#8]
            exact gl_ext fun i hi => by rw [if_neg (by omega)]
          rw [e]
        · rintro i ts _ ⟨j, hj, hr, hf, rfl⟩
          have hml := mixK_len s j
          obtain ⟨f, rfl⟩ := frC_open _ _ 0 hf
          clear hf
          (refine top_in ?_; simp -implicitDefEqProofs only [go_sem, -List.reduceReplicate, ↓L_gdZ_tt, ↓L_gdZ_tf, ↓L_gdZ_ft, ↓L_gdZ_ff, ↓T_and, ↓T_imp, ↓T_all, get_lt hm, hC, hCl, hx, hml]; try simp only [top_out])
          have exitC : ¬ (j < 4 ∧ k + 1 < 14) → mixK s j = if k + 1 < 14 then mixK s 4 else s := by
            intro h
            by_cases h14 : k + 1 < 14
            · rw [if_pos h14, show j = 4 by omega]
            · rw [if_neg h14, show j = 0 by omega]
              conv => rhs; rw [gl_self hsl 0#8]
              exact gl_ext fun i hi => by rw [if_neg (by omega)]
          refine ⟨fun h4 => ⟨fun h14 => ?_, fun h14 => ?_⟩, fun h4 => ?_⟩
          · have hj4 : j < 4 := by omega
            have c0 : (16 = 4 * j) = False := by simp; omega
            have cl : (((mixK s j).drop (4 * j)).take 4).length = 4 := by simp [hml]; omega
            have hst := mix_step hsl hj4
            have h2 := mixL_len (((mixK s j).drop (4 * j)).take 4)
            have wj : IntKind.i64.wrap (((4 * j : Nat) : Int) + 4) = ((4 * (j + 1) : Nat) : Int) := by rw [w64 (by omega) (by omega)]; omega
            simp only [c0, if_false, wj]
            refine ⟨by omega, by omega, by omega, by omega, by omega, by omega, ?_⟩
            refine mixed_ok _ cl _ _ ?_
            (refine top_in ?_; simp -implicitDefEqProofs only [go_sem, -List.reduceReplicate, ↓L_gdZ_tt, ↓L_gdZ_tf, ↓L_gdZ_ft, ↓L_gdZ_ff, ↓T_and, ↓T_imp, ↓T_all, hml, h2, c0, if_false]; try simp only [top_out])
            refine draw_rule tabOK (by kernel_rfl : _) (.p 0 (.p 1 (.p 2 (.e 3 [] .nil .no)))) (by kernel_rfl) (by kernel_rfl) ?_
            (refine top_in ?_; simp -implicitDefEqProofs only [go_sem, -List.reduceReplicate, ↓L_gdZ_tt, ↓L_gdZ_tf, ↓L_gdZ_ft, ↓L_gdZ_ff, ↓T_and, ↓T_imp, ↓T_all, hml, h2, c0, if_false]; try simp only [top_out])
            refine ⟨by omega, by omega, ?_⟩
            refine copy8 (M.length + 2) (4 * j) (mixK s j) (mixL (((mixK s j).drop (4 * j)).take 4)) 121 rfl (by rw [get_app]; rfl) (by omega) (src_row (z := []) (ty := 229) (by rw [get_app, List.append_nil]; rfl) h2.symm) ?_
            rw [hst]
            (refine top_in ?_; simp -implicitDefEqProofs only [go_sem, -List.reduceReplicate, ↓L_gdZ_tt, ↓L_gdZ_tf, ↓L_gdZ_ft, ↓L_gdZ_ff, ↓T_and, ↓T_imp, ↓T_all, hml, h2, c0, if_false, wj]; try simp only [top_out])
            refine covF_gc hM [some 0, some 1, some 2] [some (.p m 0), none, none, some (.p M.length 0), some (.p (M.length + 1) 0), some (.p (M.length + 2) 0), some (.i .i64 (k + 1 : Nat)), some (.i .i64 (4 * (j + 1) : Nat)), none, none, none, none, none, none, none, none, none, none, none, none, none, none, none, none, none, none, none, none, none, none, none, none, none, none, none, none, none, none, none, none, none, none, none, none, none, none, none, none, none, none, none] [.row (bS x) 113, .row (bS (List.replicate 16 0#8)) 113, .row (bS (mixK s (j + 1))) 121] rfl ⟨keep8 rfl, keep8 rfl, keep8 rfl, trivial⟩ (by simp only [List.all_cons, List.all_nil, lt_row, Bool.and_true]) ?_ ?_ (fun ts' h => ⟨i - 1, by omega, j + 1, by omega, .inl (by omega), h, rfl⟩)
            · simp only [Int.natCast_add, cast_lit, Nat.add_assoc, rnSl_n, frRn_nil, frRn_s, frRn_n, frLt_nil, frLt_s, frLt_n, rn_i, rn_u8, rn_u32, rn_u64, rn_b, rn_str, rn_sn, rn_pn, rn_agg, rn_tup, rnL_nil, rnL_cons, rn_bS, rn_nil, rn_sl_at, rn_sl_at0, rn_p_at, rn_p_at0, rnSl_s, rnP_s, lt_i, lt_u8, lt_u32, lt_u64, lt_b, lt_sl, lt_p, lt_agg, lt_tup, ltL_nil', ltL_cons, bS_lt, List.getElem?_cons_succ, List.getElem?_cons_zero, Option.join_some, Nat.add_zero, Nat.zero_add, implies_true, and_self, and_true, true_and, Bool.and_true, Bool.true_and, Bool.and_self, List.length_cons, List.length_nil, List.length_append, decide_eq_true_eq, Bool.and_eq_true, rn_p hm]
            · simp only [Int.natCast_add, cast_lit, Nat.add_assoc, rnSl_n, frRn_nil, frRn_s, frRn_n, frLt_nil, frLt_s, frLt_n, rn_i, rn_u8, rn_u32, rn_u64, rn_b, rn_str, rn_sn, rn_pn, rn_agg, rn_tup, rnL_nil, rnL_cons, rn_bS, rn_nil, rn_sl_at, rn_sl_at0, rn_p_at, rn_p_at0, rnSl_s, rnP_s, lt_i, lt_u8, lt_u32, lt_u64, lt_b, lt_sl, lt_p, lt_agg, lt_tup, ltL_nil', ltL_cons, bS_lt, List.getElem?_cons_succ, List.getElem?_cons_zero, Option.join_some, Nat.add_zero, Nat.zero_add, implies_true, and_self, and_true, true_and, Bool.and_true, Bool.true_and, Bool.and_self, List.length_cons, List.length_nil, List.length_append, decide_eq_true_eq, Bool.and_eq_true]; omega
          · rw [exitC (by omega)]
            have kr := keyAt_len hCl (r := k + 1) (by omega)
            have kq : List.take 16 (List.drop (256 + (k + 1) * 16) C) = keyAt C (k + 1) := by rw [Nat.mul_comm (k + 1) 16]; rfl
            have hif : (if k + 1 < 14 then mixK s 4 else s).length = 16 := by split; exact mixK_len _ _; exact hsl
            have hr : aesN C x (k + 1) = xorL (if k + 1 < 14 then mixK s 4 else s) (keyAt C (k + 1)) := by rw [← hss, ← hs]; rfl
            have hrl := aesN_len C x (k + 1)
            refine draw_rule tabOK (by kernel_rfl : _) (.p 0 (.p 1 (.p 2 (.p 3 (.p 4 (.p 5 (.p 6 (.e 7 [] (.e 8 [] .nil .no) .no)))))))) (by kernel_rfl) (by kernel_rfl) ?_
            (refine top_in ?_; simp -implicitDefEqProofs only [go_sem, -List.reduceReplicate, ↓L_gdZ_tt, ↓L_gdZ_tf, ↓L_gdZ_ft, ↓L_gdZ_ff, ↓T_and, ↓T_imp, ↓T_all, get_lt hm, hC, hCl, hx, hif, kq, kr]; try simp only [top_out])
            refine ⟨by omega, by omega, by omega, by omega, ?_⟩
            refine xor_ok _ (keyAt C (k + 1)) hif kr _ _ ?_
            rw [← hr]
            (refine top_in ?_; simp -implicitDefEqProofs only [go_sem, -List.reduceReplicate, ↓L_gdZ_tt, ↓L_gdZ_tf, ↓L_gdZ_ft, ↓L_gdZ_ff, ↓T_and, ↓T_imp, ↓T_all, get_lt hm, hC, hCl, hx, hif, kq, kr, hrl]; try simp only [top_out])
            exact ⟨n - 1, by omega, k + 1, by omega, by rw [w64 (by omega) (by omega)]; rfl, rfl⟩
          · rw [exitC (by omega)]
            have kr := keyAt_len hCl (r := k + 1) (by omega)
            have kq : List.take 16 (List.drop (256 + (k + 1) * 16) C) = keyAt C (k + 1) := by rw [Nat.mul_comm (k + 1) 16]; rfl
            have hif : (if k + 1 < 14 then mixK s 4 else s).length = 16 := by split; exact mixK_len _ _; exact hsl
            have hr : aesN C x (k + 1) = xorL (if k + 1 < 14 then mixK s 4 else s) (keyAt C (k + 1)) := by rw [← hss, ← hs]; rfl
            have hrl := aesN_len C x (k + 1)
            refine draw_rule tabOK (by kernel_rfl : _) (.p 0 (.p 1 (.p 2 (.p 3 (.p 4 (.p 5 (.p 6 (.e 7 [] (.e 8 [] .nil .no) .no)))))))) (by kernel_rfl) (by kernel_rfl) ?_
            (refine top_in ?_; simp -implicitDefEqProofs only [go_sem, -List.reduceReplicate, ↓L_gdZ_tt, ↓L_gdZ_tf, ↓L_gdZ_ft, ↓L_gdZ_ff, ↓T_and, ↓T_imp, ↓T_all, get_lt hm, hC, hCl, hx, hif, kq, kr]; try simp only [top_out])
            refine ⟨by omega, by omega, by omega, by omega, ?_⟩
            refine xor_ok _ (keyAt C (k + 1)) hif kr _ _ ?_
            rw [← hr]
            (refine top_in ?_; simp -implicitDefEqProofs only [go_sem, -List.reduceReplicate, ↓L_gdZ_tt, ↓L_gdZ_tf, ↓L_gdZ_ft, ↓L_gdZ_ff, ↓T_and, ↓T_imp, ↓T_all, get_lt hm, hC, hCl, hx, hif, kq, kr, hrl]; try simp only [top_out])
            exact ⟨n - 1, by omega, k + 1, by omega, by rw [w64 (by omega) (by omega)]; rfl, rfl⟩
      · obtain rfl : k = 14 := by omega
        subst hs
        exact dropC_append hM (bS_lt _ _) hK
end Go.Proofs.YtdkdbeamimkljaaGreatDoor.Eng
