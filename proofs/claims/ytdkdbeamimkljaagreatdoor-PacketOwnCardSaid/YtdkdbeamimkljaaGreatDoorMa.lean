/- Joined texts: T4, T3, T8, T5, T6, T7, U1, U0. -/
import Derived.Test.YtdkdbeamimkljaaGreatDoorTab
import Derived.Test.YtdkdbeamimkljaaGreatDoorEngS
import Derived.Test.YtdkdbeamimkljaaGreatDoorEngM
namespace Go.Proofs.YtdkdbeamimkljaaGreatDoor.Eng
set_option linter.unusedSimpArgs false
set_option linter.unusedVariables false
open Go Go.RowKit
def xorL (x y : List (BitVec 8)) : List (BitVec 8) := gl 16 fun j => x.getD j 0#8 ^^^ y.getD j 0#8
@[go_sem] theorem xorL_len (x y : List (BitVec 8)) : (xorL x y).length = 16 := gl_len
theorem xor_ok (x y : List (BitVec 8)) (hx : x.length = 16) (hy : y.length = 16) (M : List Blk) (K : SV → List Blk → Prop) (hK : K (.agg (bS (xorL x y))) M) :
    callVC Tryz.prog 116 [.agg (bS x), .agg (bS y)] M K := by
  refine fn_rule tabOK Tryz.func116 rfl Tryz.call116 (by kernel_rfl) (fun hM => ?_)
  (refine top_in ?_; simp -implicitDefEqProofs only [Tryz.ntmps116, Tryz.results116, go_sem, -List.reduceReplicate, ↓L_gdZ_tt, ↓L_gdZ_tf, ↓L_gdZ_ft, ↓L_gdZ_ff, ↓T_and, ↓T_imp, ↓T_all, hx, hy]; try simp only [top_out])
  refine loop_code tabOK (by kernel_rfl) (fun n ts M' => ∃ (k : Nat), k + n = 16 ∧ frC [none, none, some (.p M.length 0), some (.p (M.length + 1) 0), some (.p (M.length + 2) 0), none, some (.i .i64 k), none, none, none, none, none, none, none, none, none, none, none, none] ts ∧
     M' = M ++ [.row (bS (gl 16 fun j => if j < k then x.getD j 0#8 ^^^ y.getD j 0#8 else x.getD j 0#8)) 113, .row (bS y) 113, .row (bS (List.replicate 16 0#8)) 113]) 16 ?_ ?_
  · refine ⟨0, rfl, by simp [frC], ?_⟩
    simp only [Nat.not_lt_zero, if_false]
    rw [← gl_self hx]
  · rintro n ts _ ⟨k, hk, hf, rfl⟩
    obtain ⟨f, rfl⟩ := frC_open _ _ 0 hf
    clear hf
    (refine top_in ?_; simp -implicitDefEqProofs only [go_sem, -List.reduceReplicate, ↓L_gdZ_tt, ↓L_gdZ_tf, ↓L_gdZ_ft, ↓L_gdZ_ff, ↓T_and, ↓T_imp, ↓T_all]; try simp only [top_out])
    refine ⟨fun h => ?_, fun h => ?_⟩
    · refine draw_rule tabOK (by kernel_rfl : _) (.p 0 (.p 1 (.p 2 (.p 3 (.p 4 (.p 5 (.p 6 (.p 7 (.e 8 [] .nil .no))))))))) (by kernel_rfl) (by kernel_rfl) ?_
      (refine top_in ?_; simp -implicitDefEqProofs only [go_sem, -List.reduceReplicate, ↓L_gdZ_tt, ↓L_gdZ_tf, ↓L_gdZ_ft, ↓L_gdZ_ff, ↓T_and, ↓T_imp, ↓T_all, hx, hy]; try simp only [top_out])
      repeat' refine And.intro ?_ ?_
      any_goals omega
      refine ⟨n - 1, by omega, k + 1, by omega, by rw [w64 (by omega) (by omega)]; simp [frC], ?_⟩
      rw [gl_set, gl_getD (by omega), if_neg (by omega)]
      refine congrArg (fun l => M ++ [Blk.row (bS l) 113, Blk.row (bS y) 113, Blk.row (bS (List.replicate 16 0#8)) 113]) (gl_ext fun i hi => ?_)
      split
      · subst_vars; rw [if_pos (by omega)]
      · split
        · rw [if_pos (by omega)]
        · rw [if_neg (by omega)]
    · obtain rfl : k = 16 := by omega
      refine dropC_append hM (bS_lt _ _) ?_
      have : (gl 16 fun j => if j < 16 then x.getD j 0#8 ^^^ y.getD j 0#8 else x.getD j 0#8) = xorL x y := gl_ext fun i hi => if_pos hi
      rw [this]
      exact hK
def xt (a : BitVec 8) : BitVec 8 := if (a &&& 128#8) != 0#8 then (a <<< 1) ^^^ 27#8 else a <<< 1
def mul8L : Nat → BitVec 8 → BitVec 8 → BitVec 8 → BitVec 8
  | 0, _, _, p => p
  | n + 1, a, b, p => mul8L n (xt a) (b >>> 1) (if (b &&& 1#8) != 0#8 then p ^^^ a else p)
theorem mul8_ok (a b : BitVec 8) (M : List Blk) (K : SV → List Blk → Prop) (hK : K (.u8 (mul8L 8 a b 0#8)) M) : callVC Tryz.prog 184 [.u8 a, .u8 b] M K := by
  refine fn_rule tabOK Tryz.func184 rfl Tryz.call184 (by kernel_rfl) (fun hM => ?_)
  (refine top_in ?_; simp -implicitDefEqProofs only [Tryz.ntmps184, Tryz.results184, go_sem, -List.reduceReplicate, ↓L_gdZ_tt, ↓L_gdZ_tf, ↓L_gdZ_ft, ↓L_gdZ_ff, ↓T_and, ↓T_imp, ↓T_all]; try simp only [top_out])
  refine loop_code tabOK (by kernel_rfl) (fun n ts M' => M' = M ∧ ∃ (k : Nat) (a' b' p' : BitVec 8), k + n = 8 ∧ frC [some (.u8 a'), some (.u8 b'), none, none, none, some (.u8 p'), none, some (.i .i64 k), none, none, none, none, none, none, none, none, none, none, none, none, none, none, none, none, none, none, none] ts ∧ mul8L n a' b' p' = mul8L 8 a b 0#8) 8 ?_ ?_
  · exact ⟨rfl, 0, a, b, 0#8, rfl, by simp [frC], rfl⟩
  · rintro n ts _ ⟨rfl, k, a', b', p', hk, hf, hm⟩
    obtain ⟨f, rfl⟩ := frC_open _ _ 0 hf
    clear hf
    (refine top_in ?_; simp -implicitDefEqProofs only [go_sem, -List.reduceReplicate, ↓L_gdZ_tt, ↓L_gdZ_tf, ↓L_gdZ_ft, ↓L_gdZ_ff, ↓T_and, ↓T_imp, ↓T_all]; try simp only [top_out])
    refine ⟨fun hlt => ?_, fun hge => ?_⟩
    · obtain ⟨n, rfl⟩ : ∃ m, n = m + 1 := ⟨n - 1, by omega⟩
      refine ⟨fun h1 => ⟨fun h2 => ?_, fun h2 => ?_⟩, fun h1 => ⟨fun h2 => ?_, fun h2 => ?_⟩⟩
      all_goals
        refine ⟨n, by omega, k + 1, xt a', b' >>> 1, (if (b' &&& 1#8) != 0#8 then p' ^^^ a' else p'), by omega, ?_, hm⟩
        rw [w64 (by omega) (by omega)]
        simp [xt, h1, h2]
    · have : n = 0 := by omega
      subst this
      rw [← hm] at hK
      exact dropC_self hM rfl hK
def accN (a b : BitVec 8) : Nat → BitVec 64
  | 0 => 0#64
  | k + 1 => if ((b >>> k) &&& 1#8) = 1#8 then accN a b k ^^^ (a.setWidth 64 <<< k) else accN a b k
def inv8N (a : BitVec 8) : Nat → BitVec 8 × BitVec 8
  | 0 => (a, 1#8)
  | k + 1 => let a' := mul8L 8 (inv8N a k).1 (inv8N a k).1 0#8; (a', mul8L 8 (inv8N a k).2 a' 0#8)
def inv8 (a : BitVec 8) : BitVec 8 := (inv8N a 7).2
theorem inv8_ok (a : BitVec 8) (M : List Blk) (K : SV → List Blk → Prop) (hK : K (.u8 (inv8 a)) M) :
    callVC Tryz.prog 170 [.u8 a] M K := by
  refine fn_rule tabOK Tryz.func170 rfl Tryz.call170 (by kernel_rfl) (fun hM => ?_)
  (refine top_in ?_; simp -implicitDefEqProofs only [Tryz.ntmps170, Tryz.results170, go_sem, -List.reduceReplicate, ↓L_gdZ_tt, ↓L_gdZ_tf, ↓L_gdZ_ft, ↓L_gdZ_ff, ↓T_and, ↓T_imp, ↓T_all]; try simp only [top_out])
  refine loop_code tabOK (by kernel_rfl) (fun n ts M' => M = M' ∧ ∃ k : Nat, k + n = 7 ∧ frC [some (.u8 (inv8N a k).1), none, none, some (.u8 (inv8N a k).2), some (.i .i64 k), none, none, none, none, none, none, none, none, none] ts) 7 ?_ ?_
  · exact ⟨rfl, 0, rfl, by simp [frC, inv8N]⟩
  · rintro n ts _ ⟨rfl, k, hk, hf⟩
    obtain ⟨f, rfl⟩ := frC_open _ _ 0 hf
    clear hf
    (refine top_in ?_; simp -implicitDefEqProofs only [go_sem, -List.reduceReplicate, ↓L_gdZ_tt, ↓L_gdZ_tf, ↓L_gdZ_ft, ↓L_gdZ_ff, ↓T_and, ↓T_imp, ↓T_all]; try simp only [top_out])
    refine ⟨fun h => ?_, fun h => ?_⟩
    · have hw := w64 (x := (k : Int) + 1) (by omega) (by omega)
      refine mul8_ok _ _ _ _ ?_
      (refine top_in ?_; simp -implicitDefEqProofs only [go_sem, -List.reduceReplicate, ↓L_gdZ_tt, ↓L_gdZ_tf, ↓L_gdZ_ft, ↓L_gdZ_ff, ↓T_and, ↓T_imp, ↓T_all]; try simp only [top_out])
      refine mul8_ok _ _ _ _ ?_
      (refine top_in ?_; simp -implicitDefEqProofs only [go_sem, -List.reduceReplicate, ↓L_gdZ_tt, ↓L_gdZ_tf, ↓L_gdZ_ft, ↓L_gdZ_ff, ↓T_and, ↓T_imp, ↓T_all, hw]; try simp only [top_out])
      exact ⟨n - 1, by omega, k + 1, by omega, rfl, rfl, rfl⟩
    · obtain rfl : k = 7 := by omega
      exact dropC_self hM rfl hK
def halfN (x : List (BitVec 8)) (o : Nat) : Nat → BitVec 64
  | 0 => 0#64
  | k + 1 => halfN x o k <<< 8 ||| (x.getD (o + k) 0#8).setWidth 64
theorem half_ok (x : List (BitVec 8)) (hx : x.length = 16) (o : Nat) (ho : o ≤ 8) (M : List Blk) (K : SV → List Blk → Prop) (hK : K (.u64 (halfN x o 8)) M) :
    callVC Tryz.prog 174 [.agg (bS x), .i .i64 o] M K := by
  refine fn_rule tabOK Tryz.func174 rfl Tryz.call174 (by kernel_rfl) (fun hM => ?_)
  (refine top_in ?_; simp -implicitDefEqProofs only [Tryz.ntmps174, Tryz.results174, go_sem, -List.reduceReplicate, ↓L_gdZ_tt, ↓L_gdZ_tf, ↓L_gdZ_ft, ↓L_gdZ_ff, ↓T_and, ↓T_imp, ↓T_all, hx]; try simp only [top_out])
  refine loop_code tabOK (by kernel_rfl) (fun n ts M' => ∃ (k : Nat), k + n = 8 ∧ frC [none, some (.i .i64 o), some (.p M.length 0), none, none, some (.u64 (halfN x o k)), none, some (.i .i64 k), none, none, none, none, none, none, none, none, none, none, none, none, none] ts ∧
     M' = M ++ [.row (bS x) 113]) 8 ?_ ?_
  · exact ⟨0, rfl, by simp [frC, halfN], rfl⟩
  · rintro n ts _ ⟨k, hk, hf, rfl⟩
    obtain ⟨f, rfl⟩ := frC_open _ _ 0 hf
    clear hf
    (refine top_in ?_; simp -implicitDefEqProofs only [go_sem, -List.reduceReplicate, ↓L_gdZ_tt, ↓L_gdZ_tf, ↓L_gdZ_ft, ↓L_gdZ_ff, ↓T_and, ↓T_imp, ↓T_all, hx]; try simp only [top_out])
    refine ⟨fun h => ?_, fun h => ?_⟩
    · rw [w64 (x := (o : Int) + k) (by omega) (by omega), show ((o : Int) + k) = ((o + k : Nat) : Int) by omega, Int.toNat_natCast]
      repeat' refine And.intro ?_ ?_
      any_goals omega
      exact ⟨n - 1, by omega, k + 1, by omega, rfl, by rw [w64 (by omega) (by omega)]; rfl⟩
    · obtain rfl : k = 8 := by omega
      exact dropC_append hM rfl hK
def tA (a b : BitVec 64) : BitVec 64 := if (b &&& 1#64) != 0#64 then (a >>> 1) ^^^ 16212958658533785600#64 else a >>> 1
def tB (a b : BitVec 64) : BitVec 64 := b >>> 1 ||| a <<< 63
def xb (x : List (BitVec 8)) (i : Nat) : Bool := ((x.getD (i / 8) 0#8 >>> (7 - i % 8)) &&& 1#8) != 0#8
def mulN (x : List (BitVec 8)) (a b : BitVec 64) : Nat → BitVec 64 × BitVec 64 × BitVec 64 × BitVec 64
  | 0 => (0#64, 0#64, a, b)
  | k + 1 =>
    let s := mulN x a b k
    (if xb x k then s.1 ^^^ s.2.2.1 else s.1, if xb x k then s.2.1 ^^^ s.2.2.2 else s.2.1, tA s.2.2.1 s.2.2.2, tB s.2.2.1 s.2.2.2)
def outL (hi lo : BitVec 64) : List (BitVec 8) := gl 16 fun j => if j < 8 then (hi >>> (56 - 8 * j)).setWidth 8 else (lo >>> (56 - 8 * (j - 8))).setWidth 8
def mulL (x y : List (BitVec 8)) : List (BitVec 8) :=
  outL (mulN x (halfN y 0 8) (halfN y 8 8) 128).1 (mulN x (halfN y 0 8) (halfN y 8 8) 128).2.1
theorem mul128_ok (x y : List (BitVec 8)) (hx : x.length = 16) (hy : y.length = 16) (M : List Blk) (K : SV → List Blk → Prop) (hK : K (.agg (bS (mulL x y))) M) :
    callVC Tryz.prog 119 [.agg (bS x), .agg (bS y)] M K := by
  refine fn_rule tabOK Tryz.func119 rfl Tryz.call119 (by kernel_rfl) (fun hM => ?_)
  (refine top_in ?_; simp -implicitDefEqProofs only [Tryz.ntmps119, Tryz.results119, go_sem, -List.reduceReplicate, ↓L_gdZ_tt, ↓L_gdZ_tf, ↓L_gdZ_ft, ↓L_gdZ_ff, ↓T_and, ↓T_imp, ↓T_all, hx, hy]; try simp only [top_out])
  refine draw_rule tabOK (by kernel_rfl : _) (.p 0 (.p 2 (.e 1 [2] (.e 3 [] (.p 4 (.p 5 .nil)) .no) .no))) (by kernel_rfl) (by kernel_rfl) ?_
  (refine top_in ?_; simp -implicitDefEqProofs only [go_sem, -List.reduceReplicate, ↓L_gdZ_tt, ↓L_gdZ_tf, ↓L_gdZ_ft, ↓L_gdZ_ff, ↓T_and, ↓T_imp, ↓T_all, hx, hy]; try simp only [top_out])
  refine half_ok y hy 0 (by omega) _ _ ?_
  (refine top_in ?_; simp -implicitDefEqProofs only [go_sem, -List.reduceReplicate, ↓L_gdZ_tt, ↓L_gdZ_tf, ↓L_gdZ_ft, ↓L_gdZ_ff, ↓T_and, ↓T_imp, ↓T_all, hx, hy]; try simp only [top_out])
  refine half_ok y hy 8 (by omega) _ _ ?_
  (refine top_in ?_; simp -implicitDefEqProofs only [go_sem, -List.reduceReplicate, ↓L_gdZ_tt, ↓L_gdZ_tf, ↓L_gdZ_ft, ↓L_gdZ_ff, ↓T_and, ↓T_imp, ↓T_all, hx, hy]; try simp only [top_out])
  refine loop_code tabOK (by kernel_rfl) (fun n ts M' => ∃ (k : Nat), k + n = 128 ∧ frC (none :: none :: some (.p M.length 0) :: none :: some (.p (M.length + 2) 0) :: some (.u64 (mulN x (halfN y 0 8) (halfN y 8 8) k).1) :: some (.u64 (mulN x (halfN y 0 8) (halfN y 8 8) k).2.1) :: some (.u64 (mulN x (halfN y 0 8) (halfN y 8 8) k).2.2.1) :: some (.u64 (mulN x (halfN y 0 8) (halfN y 8 8) k).2.2.2) :: none :: none :: none :: none :: none :: none :: none :: none :: some (.i .i64 k) :: none :: none :: none :: none :: none :: none :: none :: none :: none :: none :: none :: none :: none :: none :: none :: none :: none :: none :: none :: none :: none :: none :: none :: none :: none :: none :: none :: none :: none :: none :: none :: none :: none :: none :: none :: none :: none :: none :: none :: none :: none :: none :: none :: none :: none :: none :: none :: none :: none :: none :: none :: none :: none :: none :: []) ts ∧
     M' = M ++ [.row (bS x) 113, .row (bS y) 113, .row (bS (List.replicate 16 0#8)) 113]) 128 ?_ ?_
  · exact ⟨0, rfl, by simp [frC, mulN], rfl⟩
  · rintro n ts _ ⟨k, hk, hf, rfl⟩
    generalize hs : mulN x (halfN y 0 8) (halfN y 8 8) k = s at hf
    obtain ⟨f, rfl⟩ := frC_open _ _ 0 hf
    clear hf
    (refine top_in ?_; simp -implicitDefEqProofs only [go_sem, -List.reduceReplicate, ↓L_gdZ_tt, ↓L_gdZ_tf, ↓L_gdZ_ft, ↓L_gdZ_ff, ↓T_and, ↓T_imp, ↓T_all, hx, hy]; try simp only [top_out])
    refine ⟨fun h => ?_, fun h => ?_⟩
    · have hr : mulN x (halfN y 0 8) (halfN y 8 8) (k + 1) = (if xb x k then s.1 ^^^ s.2.2.1 else s.1, if xb x k then s.2.1 ^^^ s.2.2.2 else s.2.1, tA s.2.2.1 s.2.2.2, tB s.2.2.1 s.2.2.2) := by rw [← hs]; rfl
      rw [Int.tdiv_eq_ediv_of_nonneg (by omega), Int.tmod_eq_emod_of_nonneg (by omega), w64 (x := (k : Int) / 8) (by omega) (by omega), w64 (x := 7 - (k : Int) % 8) (by omega) (by omega), w64 (x := (k : Int) + 1) (by omega) (by omega),
        show ((k : Int) / 8) = ((k / 8 : Nat) : Int) by omega, show 7 - (k : Int) % 8 = ((7 - k % 8 : Nat) : Int) by omega, Int.toNat_natCast, Int.toNat_natCast]
      refine ⟨by omega, by omega, by omega, by omega, by omega, fun h1 => ⟨fun h2 => ?_, fun h2 => ?_⟩, fun h1 => ⟨fun h2 => ?_, fun h2 => ?_⟩⟩
      all_goals
        refine ⟨n - 1, by omega, k + 1, by omega, ?_⟩
        rw [hr]
        have h1' := h1
        change xb x k = _ at h1'
        simp only [h1', tA, tB, h2]
        simp
    · obtain rfl : k = 128 := by omega
      refine loop_code tabOK (by kernel_rfl) (fun n ts M' => ∃ (k : Nat), k + n = 8 ∧ frC (none :: none :: none :: none :: some (.p (M.length + 2) 0) :: some (.u64 s.1) :: some (.u64 s.2.1) :: none :: none :: none :: none :: some (.p (M.length + 3) 0) :: none :: none :: none :: none :: none :: none :: none :: none :: none :: none :: none :: none :: none :: none :: none :: none :: none :: none :: none :: none :: none :: none :: none :: none :: none :: none :: none :: none :: none :: none :: none :: none :: none :: none :: none :: none :: none :: none :: some (.i .i64 k) :: none :: none :: none :: none :: none :: none :: none :: none :: none :: none :: none :: none :: none :: none :: none :: none :: none :: none :: none :: none :: none :: []) ts ∧
        M' = M ++ [.row (bS x) 113, .row (bS y) 113, .row (bS (List.replicate 16 0#8)) 113,
          .row (bS (gl 16 fun j => if j < 8 then (if j < k then (s.1 >>> (56 - 8 * j)).setWidth 8 else 0#8) else if j - 8 < k then (s.2.1 >>> (56 - 8 * (j - 8))).setWidth 8 else 0#8)) 113]) 8 ?_ ?_
      · refine ⟨0, rfl, by simp [frC], ?_⟩
        simp only [Nat.not_lt_zero, if_false, ite_self, gl_const]
      · clear hk h f
        rintro n ts _ ⟨k, hk, hf, rfl⟩
        obtain ⟨f, rfl⟩ := frC_open _ _ 0 hf
        clear hf
        (refine top_in ?_; simp -implicitDefEqProofs only [go_sem, -List.reduceReplicate, ↓L_gdZ_tt, ↓L_gdZ_tf, ↓L_gdZ_ft, ↓L_gdZ_ff, ↓T_and, ↓T_imp, ↓T_all, hx, hy]; try simp only [top_out])
        refine ⟨fun h => ?_, fun h => ?_⟩
        · rw [w64 (x := 8 * (k : Int)) (by omega) (by omega), w64 (x := 56 - 8 * (k : Int)) (by omega) (by omega), w64 (x := (8 : Int) + k) (by omega) (by omega), w64 (x := (k : Int) + 1) (by omega) (by omega),
            show 56 - 8 * (k : Int) = ((56 - 8 * k : Nat) : Int) by omega, show (8 : Int) + k = ((8 + k : Nat) : Int) by omega, Int.toNat_natCast, Int.toNat_natCast]
          repeat' refine And.intro ?_ ?_
          any_goals omega
          refine ⟨n - 1, by omega, k + 1, by omega, by omega, ?_⟩
          rw [gl_set, gl_set]
          refine congrArg (fun l => M ++ [Blk.row (bS x) 113, Blk.row (bS y) 113, Blk.row (bS (List.replicate 16 0#8)) 113, Blk.row (bS l) 113]) (gl_ext fun i hi => ?_)
          by_cases h8 : i < 8
          · rw [if_neg (by omega), if_pos h8, if_pos h8]
            by_cases hk : i = k
            · subst hk; rw [if_pos rfl, if_pos (by omega)]
            · rw [if_neg hk]
              by_cases hl : i < k
              · rw [if_pos hl, if_pos (by omega)]
              · rw [if_neg hl, if_neg (by omega)]
          · rw [if_neg h8, if_neg h8]
            by_cases hk : i = 8 + k
            · rw [if_pos hk, if_pos (by omega)]
              congr 3
              omega
            · rw [if_neg hk, if_neg (by omega)]
              by_cases hl : i - 8 < k
              · rw [if_pos hl, if_pos (by omega)]
              · rw [if_neg hl, if_neg (by omega)]
        · obtain rfl : k = 8 := by omega
          refine dropC_append hM (bS_lt _ _) ?_
          have : (gl 16 fun j => if j < 8 then (if j < 8 then (s.1 >>> (56 - 8 * j)).setWidth 8 else 0#8) else if j - 8 < 8 then (s.2.1 >>> (56 - 8 * (j - 8))).setWidth 8 else 0#8) = mulL x y := by
            unfold mulL outL
            rw [hs]
            refine gl_ext fun i hi => ?_
            by_cases h8 : i < 8
            · rw [if_pos h8, if_pos h8, if_pos h8]
            · rw [if_neg h8, if_neg h8, if_pos (by omega)]
          rw [this]
          exact hK
theorem beqT {a b : Int} (h : (a == b) = true) : a = b := by simpa using h
theorem beqF {a b : Int} (h : (a == b) = false) : a ≠ b := by simpa using h
theorem bneT {a b : Int} (h : (a != b) = true) : a ≠ b := by simpa using h
theorem bneF {a b : Int} (h : (a != b) = false) : a = b := by simpa using h
theorem take_snoc {l : List (BitVec 8)} {k : Nat} (h : k < l.length) : l.take (k + 1) = l.take k ++ [l.getD k 0#8] := by
  rw [List.take_succ_eq_append_getElem h, List.getD_eq_getElem?_getD, List.getElem?_eq_getElem h]; rfl
theorem same_take {a b : List (BitVec 8)} (h : a.length = b.length) (ha : a.take a.length = b.take a.length) : a = b := by
  rw [List.take_length, h, List.take_length] at ha; exact ha
theorem same_ok (n off cap n' off' cap' : Nat) (a b : List (BitVec 8)) (M : List Blk) (K : SV → List Blk → Prop) (ha : BAt M n off a) (hb : BAt M n' off' b) (hla : a.length ≤ 140737488355328) (hlb : b.length ≤ 140737488355328) (hK : K (.b (a == b)) M) :
    callVC Tryz.prog 9 [.sl n off a.length cap, .sl n' off' b.length cap'] M K := by
  refine fn_rule tabOK Tryz.func9 rfl Tryz.call9 (by kernel_rfl) (fun hM => ?_)
  (refine top_in ?_; simp -implicitDefEqProofs only [Tryz.ntmps9, Tryz.results9, go_sem, -List.reduceReplicate, ↓L_gdZ_tt, ↓L_gdZ_tf, ↓L_gdZ_ft, ↓L_gdZ_ff, ↓T_and, ↓T_imp, ↓T_all]; try simp only [top_out])
  refine ⟨fun h => ?_, fun h => ?_⟩
  · refine dropC_self hM rfl ?_
    have : (a == b) = false := by
      rw [beq_eq_false_iff_ne]; intro e; subst e; simp at h
    rw [this] at hK; exact hK
  · have hl : a.length = b.length := by simp at h; omega
    clear h
    refine loop_code tabOK (by kernel_rfl) (fun m ts M' => ∃ k : Nat, k + m = a.length ∧ a.take k = b.take k ∧ M' = M ∧ frC [some (.sl n off a.length cap), some (.sl n' off' b.length cap'), none, none, none, some (.i .i64 k), none, none, none, none, none, none, none, none, none, none, none, none, none, none, none, none, none, none, none, none] ts) a.length ?_ ?_
    · exact ⟨0, by omega, rfl, rfl, by simp [frC]⟩
    · rintro m ts _ ⟨k, hk, he, rfl, hf⟩
      obtain ⟨f, rfl⟩ := frC_open _ _ 0 hf
      clear hf
      (refine top_in ?_; simp -implicitDefEqProofs only [go_sem, -List.reduceReplicate, ↓L_gdZ_tt, ↓L_gdZ_tf, ↓L_gdZ_ft, ↓L_gdZ_ff, ↓T_and, ↓T_imp, ↓T_all]; try simp only [top_out])
      refine ⟨fun h => ?_, fun h => ?_⟩
      · refine draw_rule tabOK (by kernel_rfl : _) (.p 0 (.p 1 (.p 2 (.p 3 (.p 4 (.p 5 (.p 6 (.p 7 (.p 8 .nil))))))))) (by kernel_rfl) (by kernel_rfl) ?_
        (refine top_in ?_; simp -implicitDefEqProofs only [go_sem, -List.reduceReplicate, ↓L_gdZ_tt, ↓L_gdZ_tf, ↓L_gdZ_ft, ↓L_gdZ_ff, ↓T_and, ↓T_imp, ↓T_all, ha.is8 (show k < a.length by omega), hb.is8 (show k < b.length by omega), ha.cell8 (show k < a.length by omega), hb.cell8 (show k < b.length by omega), ha.le (show k + 1 ≤ a.length by omega), hb.le (show k + 1 ≤ b.length by omega)]; try simp only [top_out])
        refine ⟨by omega, by omega, by omega, by omega, fun h1 => dropC_self hM rfl ?_, fun h1 => ⟨m - 1, by omega, k + 1, by omega, ?_, w64 (by omega) (by omega)⟩⟩
        · have : (a == b) = false := by
            rw [beq_eq_false_iff_ne]; intro e; subst e; simp at h1
          rw [this] at hK; exact hK
        · rw [take_snoc (by omega), take_snoc (by omega), he]
          rw [eq_of_beq (by simpa using h1 : (a.getD k 0#8 == b.getD k 0#8) = true)]
      · have hka : k = a.length := by omega
        subst hka
        have e := same_take hl he
        subst e
        refine dropC_self hM rfl ?_
        simpa using hK
theorem bytes_ok (n off cap : Nat) (l : List (BitVec 8)) (M : List Blk) (K : SV → List Blk → Prop) (ha : BAt M n off l) (hl : l.length ≤ 140737488355327)
    (hK : ∀ z ty, K (.sl M.length 0 l.length (l.length + z.length)) (M ++ [.row (bS (l ++ z)) ty])) :
    callVC Tryz.prog 12 [.sl n off l.length cap] M K := by
  refine fn_rule tabOK Tryz.func12 rfl Tryz.call12 (by kernel_rfl) (fun hM => ?_)
  (refine top_in ?_; simp -implicitDefEqProofs only [Tryz.ntmps12, Tryz.results12, go_sem, -List.reduceReplicate, ↓L_gdZ_tt, ↓L_gdZ_tf, ↓L_gdZ_ft, ↓L_gdZ_ff, ↓T_and, ↓T_imp, ↓T_all]; try simp only [top_out])
  refine loop_gc tabOK (by kernel_rfl) (fun m ts M' => ∃ (k : Nat) (z : List (BitVec 8)) (ty : TypeId), k + m = l.length ∧ M' = M ++ [.row (bS (l.take k ++ z)) ty] ∧ frC [some (.sl n off l.length cap), none, none, some (.sl M.length 0 k (k + z.length)), some (.i .i64 k), none, none, none, none, none, none, none, none, none, none, none, none, none, none] ts) l.length ?_ ?_
  · refine covF_gc0 hM [none] [some (.sl n off l.length cap), none, none, some (.sl M.length 0 0 0), some (.i .i64 0), none, none, none, none, none, none, none, none, none, none, none, none, none, none] [.row (bS []) 0] rfl ⟨rfl, trivial⟩ rfl ?_ ?_ (fun ts' h => ⟨0, [], 0, by omega, rfl, h⟩)
    · simp only [Int.natCast_add, cast_lit, Nat.add_assoc, rnSl_n, frRn_nil, frRn_s, frRn_n, frLt_nil, frLt_s, frLt_n, rn_i, rn_u8, rn_u32, rn_u64, rn_b, rn_str, rn_sn, rn_pn, rn_agg, rn_tup, rnL_nil, rnL_cons, rn_bS, rn_nil, rn_sl_at, rn_sl_at0, rn_p_at, rn_p_at0, rnSl_s, rnP_s, lt_i, lt_u8, lt_u32, lt_u64, lt_b, lt_sl, lt_p, lt_agg, lt_tup, ltL_nil', ltL_cons, bS_lt, List.getElem?_cons_succ, List.getElem?_cons_zero, Option.join_some, Nat.add_zero, Nat.zero_add, implies_true, and_self, and_true, true_and, Bool.and_true, Bool.true_and, Bool.and_self, List.length_cons, List.length_nil, List.length_append, decide_eq_true_eq, Bool.and_eq_true, rn_sl ha.lt]
    · have := ha.lt
      simp only [Int.natCast_add, cast_lit, Nat.add_assoc, rnSl_n, frRn_nil, frRn_s, frRn_n, frLt_nil, frLt_s, frLt_n, rn_i, rn_u8, rn_u32, rn_u64, rn_b, rn_str, rn_sn, rn_pn, rn_agg, rn_tup, rnL_nil, rnL_cons, rn_bS, rn_nil, rn_sl_at, rn_sl_at0, rn_p_at, rn_p_at0, rnSl_s, rnP_s, lt_i, lt_u8, lt_u32, lt_u64, lt_b, lt_sl, lt_p, lt_agg, lt_tup, ltL_nil', ltL_cons, bS_lt, List.getElem?_cons_succ, List.getElem?_cons_zero, Option.join_some, Nat.add_zero, Nat.zero_add, implies_true, and_self, and_true, true_and, Bool.and_true, Bool.true_and, Bool.and_self, List.length_cons, List.length_nil, List.length_append, decide_eq_true_eq, Bool.and_eq_true]; omega
  · rintro m ts _ ⟨k, z, ty, hk, rfl, hf⟩
    obtain ⟨f, rfl⟩ := frC_open _ _ 0 hf
    clear hf
    (refine top_in ?_; simp -implicitDefEqProofs only [go_sem, -List.reduceReplicate, ↓L_gdZ_tt, ↓L_gdZ_tf, ↓L_gdZ_ft, ↓L_gdZ_ff, ↓T_and, ↓T_imp, ↓T_all, get_lt ha.lt]; try simp only [top_out])
    refine ⟨fun h => ?_, fun h => ?_⟩
    · rw [ha.is8 (by omega), ha.cell8 (by omega)]
      refine ⟨by omega, by omega, ha.le (by omega), rfl, by decide, ?_⟩
      refine app8 M.length (l.take k) z [l.getD k 0#8] ty rfl rfl rfl (by simp [get_app0]) (by simp; omega) (by simp; omega) (src_u8 (by rw [get_app]; rfl)) (by simp; omega) ?_
      intro z' ty'
      (refine top_in ?_; simp -implicitDefEqProofs only [go_sem, -List.reduceReplicate, ↓L_gdZ_tt, ↓L_gdZ_tf, ↓L_gdZ_ft, ↓L_gdZ_ff, ↓T_and, ↓T_imp, ↓T_all]; try simp only [top_out])
      have hmin : min k l.length = k := by omega
      rw [w64 (by omega) (by omega), List.length_take, hmin]
      refine covF_gc hM [some 2] [some (.sl n off l.length cap), none, none, some (.sl M.length 0 (k + 1) (k + 1 + z'.length)), some (.i .i64 (k + 1 : Nat)), none, none, none, none, none, none, none, none, none, none, none, none, none, none] [.row (bS (l.take k ++ l.getD k 0#8 :: z')) ty'] rfl ⟨keep8 rfl, trivial⟩ (by simp [lt_row]) ?_ ?_ (fun ts' h => ⟨m - 1, by omega, k + 1, z', ty', by omega, by rw [take_snoc (by omega)]; simp, h⟩)
      · simp only [Int.natCast_add, cast_lit, Nat.add_assoc, rnSl_n, frRn_nil, frRn_s, frRn_n, frLt_nil, frLt_s, frLt_n, rn_i, rn_u8, rn_u32, rn_u64, rn_b, rn_str, rn_sn, rn_pn, rn_agg, rn_tup, rnL_nil, rnL_cons, rn_bS, rn_nil, rn_sl_at, rn_sl_at0, rn_p_at, rn_p_at0, rnSl_s, rnP_s, lt_i, lt_u8, lt_u32, lt_u64, lt_b, lt_sl, lt_p, lt_agg, lt_tup, ltL_nil', ltL_cons, bS_lt, List.getElem?_cons_succ, List.getElem?_cons_zero, Option.join_some, Nat.add_zero, Nat.zero_add, implies_true, and_self, and_true, true_and, Bool.and_true, Bool.true_and, Bool.and_self, List.length_cons, List.length_nil, List.length_append, decide_eq_true_eq, Bool.and_eq_true, rn_sl ha.lt]
      · have := ha.lt
        simp only [Int.natCast_add, cast_lit, Nat.add_assoc, rnSl_n, frRn_nil, frRn_s, frRn_n, frLt_nil, frLt_s, frLt_n, rn_i, rn_u8, rn_u32, rn_u64, rn_b, rn_str, rn_sn, rn_pn, rn_agg, rn_tup, rnL_nil, rnL_cons, rn_bS, rn_nil, rn_sl_at, rn_sl_at0, rn_p_at, rn_p_at0, rnSl_s, rnP_s, lt_i, lt_u8, lt_u32, lt_u64, lt_b, lt_sl, lt_p, lt_agg, lt_tup, ltL_nil', ltL_cons, bS_lt, List.getElem?_cons_succ, List.getElem?_cons_zero, Option.join_some, Nat.add_zero, Nat.zero_add, implies_true, and_self, and_true, true_and, Bool.and_true, Bool.true_and, Bool.and_self, List.length_cons, List.length_nil, List.length_append, decide_eq_true_eq, Bool.and_eq_true]; omega
    · obtain rfl : k = l.length := by omega
      rw [List.take_length]
      exact dropC_all (by simp) (hK z ty)
theorem same_ok2 (n off cap n' off' cap' la lb : Nat) (a b : List (BitVec 8)) (M : List Blk) (K : SV → List Blk → Prop) (ha : BAt M n off a) (hb : BAt M n' off' b) (hla : a.length ≤ 140737488355328) (hlb : b.length ≤ 140737488355328) (ea : la = a.length) (eb : lb = b.length) (hK : K (.b (a == b)) M) :
    callVC Tryz.prog 9 [.sl n off la cap, .sl n' off' lb cap'] M K := by
  subst ea eb; exact same_ok n off cap n' off' cap' a b M K ha hb hla hlb hK
theorem dropB {M L : List Blk} {b b' : Bool} {K : SV → List Blk → Prop} (hM : ∀ (n : Nat) (B : Blk), M[n]? = some B → B.lt M.length = true) (hK : K (.b b) M) (h : b = b') : dropC M.length (.b b') (M ++ L) K :=
  dropC_append hM rfl (h ▸ hK)
theorem dropB0 {M : List Blk} {b b' : Bool} {K : SV → List Blk → Prop} (hM : ∀ (n : Nat) (B : Blk), M[n]? = some B → B.lt M.length = true) (hK : K (.b b) M) (h : b = b') : dropC M.length (.b b') M K :=
  dropC_self hM rfl (h ▸ hK)
theorem callVC_drop {P : Program} {f : FuncId} {args : List SV} {M : List Blk} {K : SV → List Blk → Prop} (h : callVC P f args M (fun v M' => dropC M.length v M' K)) : callVC P f args M K := by
  rcases h with h | ⟨e, hc, hsem⟩
  · exact .inl ⟨h.1, fun G ρ w hs hl => (h.2 G ρ w hs hl).mono fun _ _ ⟨ρ', v, M', h1, h2, h3, h4, h5, h6⟩ => by
      obtain ⟨ρ2, v2, M2, g1, g2, g3, g4, g5, g6⟩ := h6 G ρ' _ hs.base h3 h4
      exact ⟨ρ2, v2, M2, h1.trans g1 (Nat.le_refl _), g2, g3, g4, by rw [g5]; exact h5, g6⟩⟩
  · refine .inr ⟨e, hc, fun hl G ρ w hs => ?_⟩
    obtain ⟨ρ', v, M', w', hr, h1, h2, h3, h4, h6⟩ := hsem hl G ρ w hs
    obtain ⟨ρ2, v2, M2, g1, g2, g3, g4, g5, g6⟩ := h6 G ρ' _ hs.base h3 h4
    exact ⟨ρ2, v2, M2, w', by rw [g5]; exact hr, h1.trans g1 (Nat.le_refl _), g2, g3, g4, g6⟩
theorem drop8n0 {M : List Blk} {K : SV → List Blk → Prop} {ty : TypeId} (hM : ∀ (n : Nat) (B : Blk), M[n]? = some B → B.lt M.length = true)
    (hK : K (.sl M.length 0 0 0) (M ++ [.row (bS []) ty])) : dropC M.length .sn M K := by
  have := drop8n (L := []) (ty := ty) hM hK
  rwa [List.append_nil] at this
theorem drop8nt {M : List Blk} {K : SV → List Blk → Prop} {ty : TypeId} {e : Int} (hM : ∀ (n : Nat) (B : Blk), M[n]? = some B → B.lt M.length = true)
    (hK : K (.tup [.sl M.length 0 0 0, .i .i64 e]) (M ++ [.row (bS []) ty])) : dropC M.length (.tup [.sn, .i .i64 e]) M K := by
  have := dropC_gc (L := []) (v := .tup [.sn, .i .i64 e]) (K := K) hM [none] (.tup [.sl M.length 0 0 0, .i .i64 e]) [.row [] ty] rfl ⟨rfl, trivial⟩ (by simp [Blk.lt, ltL]) (by simp [SV.lt, ltL]) (fun ρ => ?_) hK
  · rwa [List.append_nil] at this
  · have h0 : den ρ ((SV.sl M.length 0 0 0).rn (tau M.length [none])) = den ρ .sn := rn_nil
    simp only [rn_tup, rnL_cons, rnL_nil, rn_i]
    simp only [den, denL] at h0 ⊢
    rw [h0]
theorem callVC_names {P : Program} {f : FuncId} {args : List SV} {M : List Blk} {K : SV → List Blk → Prop} (h : (∀ (n : Nat) (B : Blk), M[n]? = some B → B.lt M.length = true) → callVC P f args M K) (hc : ∀ xs w, (callFunc f xs).run P w = .ok (.enter f xs) w) : callVC P f args M K :=
  .inl ⟨hc, fun G ρ w hs hl => (callVC_E hc (h hs.lt)).2 G ρ w hs hl⟩
theorem drop8nb {M : List Blk} {K : SV → List Blk → Prop} {ty : TypeId} {e : Bool} (hM : ∀ (n : Nat) (B : Blk), M[n]? = some B → B.lt M.length = true)
    (hK : K (.tup [.sl M.length 0 0 0, .b e]) (M ++ [.row (bS []) ty])) : dropC M.length (.tup [.sn, .b e]) M K := by
  have := dropC_gc (L := []) (v := .tup [.sn, .b e]) (K := K) hM [none] (.tup [.sl M.length 0 0 0, .b e]) [.row [] ty] rfl ⟨rfl, trivial⟩ (by simp [Blk.lt, ltL]) (by simp [SV.lt, ltL]) (fun ρ => ?_) hK
  · rwa [List.append_nil] at this
  · have h0 : den ρ ((SV.sl M.length 0 0 0).rn (tau M.length [none])) = den ρ .sn := rn_nil
    simp only [rn_tup, rnL_cons, rnL_nil, rn_b]
    simp only [den, denL] at h0 ⊢
    rw [h0]
end Go.Proofs.YtdkdbeamimkljaaGreatDoor.Eng
