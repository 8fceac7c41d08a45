/- Joined texts: U2, U3, U4. -/
import Derived.Test.YtdkdbeamimkljaaGreatDoorMa
namespace Go.Proofs.YtdkdbeamimkljaaGreatDoor.Eng
set_option linter.unusedSimpArgs false
set_option linter.unusedVariables false
open Go Go.RowKit
def beL (n : Nat) (x : BitVec 64) : List (BitVec 8) := gl n fun j => (x >>> (8 * (n - 1 - j))).setWidth 8
@[go_sem] theorem beL_len (n : Nat) (x : BitVec 64) : (beL n x).length = n := gl_len
theorem set_right {α : Type} (l r : List α) (j : Nat) (v : α) : (l ++ r).set (l.length + j) v = l ++ r.set j v := by
  rw [List.set_append_right _ _ (by omega)]; congr 2; omega
theorem width_uint8 (M : List Blk) (K : SV → List Blk → Prop) (hK : K (.i .i64 1) M) : callVC Tryz.prog 48 [] M K := by
  refine fn_rule tabOK Tryz.func48 rfl Tryz.call48 (by kernel_rfl) (fun hM => ?_)
  (refine top_in ?_; simp -implicitDefEqProofs only [Tryz.ntmps48, Tryz.results48, go_sem, -List.reduceReplicate, ↓L_gdZ_tt, ↓L_gdZ_tf, ↓L_gdZ_ft, ↓L_gdZ_ff, ↓T_and, ↓T_imp, ↓T_all]; try simp only [top_out])
  refine loop_code tabOK (by kernel_rfl) (fun m ts M' => ∃ k : Nat, k + m = 1 ∧ M' = M ∧ frC [none, some (.i .i64 k), some (.u64 (255#64 >>> (8 * k))), none, none, none, none, none, none, none, none, none, none] ts) 1 ?_ ?_
  · exact ⟨0, rfl, rfl, by simp only [frC]; exact ⟨rfl, rfl, trivial⟩⟩
  · rintro m ts _ ⟨k, hk, rfl, hf⟩
    obtain ⟨f, rfl⟩ := frC_open _ _ 0 hf
    clear hf
    (refine top_in ?_; simp -implicitDefEqProofs only [go_sem, -List.reduceReplicate, ↓L_gdZ_tt, ↓L_gdZ_tf, ↓L_gdZ_ft, ↓L_gdZ_ff, ↓T_and, ↓T_imp, ↓T_all]; try simp only [top_out])
    refine ⟨fun h => ?_, fun h => ?_⟩
    · have hlt : k < 1 := (by decide : ∀ k, k < 2 → ((255#64 >>> (8 * k)) != 0#64) = true → k < 1) k (by omega) h
      refine ⟨m - 1, by omega, k + 1, by omega, w64 (by omega) (by omega), ?_⟩
      rw [← BitVec.shiftRight_add, Nat.mul_add]
    · have hlt : k = 1 := (by decide : ∀ k, k < 2 → ((255#64 >>> (8 * k)) != 0#64) = false → k = 1) k (by omega) h
      subst hlt
      exact dropC_self hM rfl hK
theorem width_uint32 (M : List Blk) (K : SV → List Blk → Prop) (hK : K (.i .i64 4) M) : callVC Tryz.prog 56 [] M K := by
  refine fn_rule tabOK Tryz.func56 rfl Tryz.call56 (by kernel_rfl) (fun hM => ?_)
  (refine top_in ?_; simp -implicitDefEqProofs only [Tryz.ntmps56, Tryz.results56, go_sem, -List.reduceReplicate, ↓L_gdZ_tt, ↓L_gdZ_tf, ↓L_gdZ_ft, ↓L_gdZ_ff, ↓T_and, ↓T_imp, ↓T_all]; try simp only [top_out])
  refine loop_code tabOK (by kernel_rfl) (fun m ts M' => ∃ k : Nat, k + m = 4 ∧ M' = M ∧ frC [none, some (.i .i64 k), some (.u64 (4294967295#64 >>> (8 * k))), none, none, none, none, none, none, none, none, none, none] ts) 4 ?_ ?_
  · exact ⟨0, rfl, rfl, by simp only [frC]; exact ⟨rfl, rfl, trivial⟩⟩
  · rintro m ts _ ⟨k, hk, rfl, hf⟩
    obtain ⟨f, rfl⟩ := frC_open _ _ 0 hf
    clear hf
    (refine top_in ?_; simp -implicitDefEqProofs only [go_sem, -List.reduceReplicate, ↓L_gdZ_tt, ↓L_gdZ_tf, ↓L_gdZ_ft, ↓L_gdZ_ff, ↓T_and, ↓T_imp, ↓T_all]; try simp only [top_out])
    refine ⟨fun h => ?_, fun h => ?_⟩
    · have hlt : k < 4 := (by decide : ∀ k, k < 5 → ((4294967295#64 >>> (8 * k)) != 0#64) = true → k < 4) k (by omega) h
      refine ⟨m - 1, by omega, k + 1, by omega, w64 (by omega) (by omega), ?_⟩
      rw [← BitVec.shiftRight_add, Nat.mul_add]
    · have hlt : k = 4 := (by decide : ∀ k, k < 5 → ((4294967295#64 >>> (8 * k)) != 0#64) = false → k = 4) k (by omega) h
      subst hlt
      exact dropC_self hM rfl hK
theorem width_uint64 (M : List Blk) (K : SV → List Blk → Prop) (hK : K (.i .i64 8) M) : callVC Tryz.prog 55 [] M K := by
  refine fn_rule tabOK Tryz.func55 rfl Tryz.call55 (by kernel_rfl) (fun hM => ?_)
  (refine top_in ?_; simp -implicitDefEqProofs only [Tryz.ntmps55, Tryz.results55, go_sem, -List.reduceReplicate, ↓L_gdZ_tt, ↓L_gdZ_tf, ↓L_gdZ_ft, ↓L_gdZ_ff, ↓T_and, ↓T_imp, ↓T_all]; try simp only [top_out])
  refine loop_code tabOK (by kernel_rfl) (fun m ts M' => ∃ k : Nat, k + m = 8 ∧ M' = M ∧ frC [none, some (.i .i64 k), some (.u64 (18446744073709551615#64 >>> (8 * k))), none, none, none, none, none, none, none, none, none] ts) 8 ?_ ?_
  · exact ⟨0, rfl, rfl, by simp only [frC]; exact ⟨rfl, rfl, trivial⟩⟩
  · rintro m ts _ ⟨k, hk, rfl, hf⟩
    obtain ⟨f, rfl⟩ := frC_open _ _ 0 hf
    clear hf
    (refine top_in ?_; simp -implicitDefEqProofs only [go_sem, -List.reduceReplicate, ↓L_gdZ_tt, ↓L_gdZ_tf, ↓L_gdZ_ft, ↓L_gdZ_ff, ↓T_and, ↓T_imp, ↓T_all]; try simp only [top_out])
    refine ⟨fun h => ?_, fun h => ?_⟩
    · have hlt : k < 8 := (by decide : ∀ k, k < 9 → ((18446744073709551615#64 >>> (8 * k)) != 0#64) = true → k < 8) k (by omega) h
      refine ⟨m - 1, by omega, k + 1, by omega, w64 (by omega) (by omega), ?_⟩
      rw [← BitVec.shiftRight_add, Nat.mul_add]
    · have hlt : k = 8 := (by decide : ∀ k, k < 9 → ((18446744073709551615#64 >>> (8 * k)) != 0#64) = false → k = 8) k (by omega) h
      subst hlt
      exact dropC_self hM rfl hK
theorem put32_ok (n off cap : Nat) (l : List (BitVec 8)) (x : BitVec 32) (M : List Blk) (K : SV → List Blk → Prop) (ha : BAt M n off l) (hl : l.length ≤ 140737488355000)
    (hK : ∀ ty, K (.sl M.length 0 (l.length + 4) (l.length + 4)) (M ++ [.row (bS (l ++ beL 4 (x.setWidth 64))) ty])) :
    callVC Tryz.prog 38 [.sl n off l.length cap, .u32 x] M K := by
  have wl : IntKind.i64.wrap ((l.length : Int) + 4) = ((l.length + 4 : Nat) : Int) := by rw [w64 (by omega) (by omega)]; simp
  refine fn_rule tabOK Tryz.func38 rfl Tryz.call38 (by kernel_rfl) (fun hM => ?_)
  (refine top_in ?_; simp -implicitDefEqProofs only [Tryz.ntmps38, Tryz.results38, go_sem, -List.reduceReplicate, ↓L_gdZ_tt, ↓L_gdZ_tf, ↓L_gdZ_ft, ↓L_gdZ_ff, ↓T_and, ↓T_imp, ↓T_all]; try simp only [top_out])
  refine width_uint32 _ _ ?_
  (refine top_in ?_; simp -implicitDefEqProofs only [go_sem, -List.reduceReplicate, ↓L_gdZ_tt, ↓L_gdZ_tf, ↓L_gdZ_ft, ↓L_gdZ_ff, ↓T_and, ↓T_imp, ↓T_all, wl]; try simp only [top_out])
  refine ⟨by omega, by omega, by omega, by omega, ?_⟩
  refine copy8 M.length 0 (List.replicate (l.length + 4) 0#8) l 5 rfl (by simp [get_app0]) (by simp) ha.app.src ?_
  have e0 : (List.replicate (l.length + 4) 0#8).take 0 ++ l.take (l.length + 4) ++ (List.replicate (l.length + 4) 0#8).drop (0 + Nat.min l.length (l.length + 4)) = l ++ List.replicate 4 0#8 := by
    rw [show Nat.min l.length (l.length + 4) = l.length from Nat.min_eq_left (by omega), List.take_of_length_le (by omega : l.length ≤ l.length + 4), List.take_zero, List.nil_append, List.drop_replicate]
    congr 2; omega
  rw [e0]
  (refine top_in ?_; simp -implicitDefEqProofs only [go_sem, -List.reduceReplicate, ↓L_gdZ_tt, ↓L_gdZ_tf, ↓L_gdZ_ft, ↓L_gdZ_ff, ↓T_and, ↓T_imp, ↓T_all]; try simp only [top_out])
  refine loop_code tabOK (by kernel_rfl) (fun m ts M' => ∃ k : Nat, k + m = 4 ∧ M' = M ++ [.row (bS (l ++ gl 4 fun j => if 4 ≤ j + k then ((x.setWidth 64) >>> (8 * (4 - 1 - j))).setWidth 8 else 0#8)) 5] ∧
    frC [none, some (.u32 x), none, none, none, none, some (.sl M.length 0 (l.length + 4) (l.length + 4)), none, none, none, none, none, none, none, none, none, none, some (.i .i64 4), some (.i .i64 k), none, none, none, none, none, none, none, none, none, none, none, none, none, none, none, none, none] ts) 4 ?_ ?_
  · refine ⟨0, rfl, ?_, by simp [frC]⟩
    rw [← gl_const]
    refine congrArg (fun r => M ++ [Blk.row (bS (l ++ r)) 5]) (gl_ext fun j hj => ?_)
    rw [if_neg (by omega)]
  · rintro m ts _ ⟨k, hk, rfl, hf⟩
    obtain ⟨f, rfl⟩ := frC_open _ _ 0 hf
    clear hf
    (refine top_in ?_; simp -implicitDefEqProofs only [go_sem, -List.reduceReplicate, ↓L_gdZ_tt, ↓L_gdZ_tf, ↓L_gdZ_ft, ↓L_gdZ_ff, ↓T_and, ↓T_imp, ↓T_all]; try simp only [top_out])
    refine ⟨fun h => ?_, fun h => ?_⟩
    · rw [w64 (x := 8 * (k : Int)) (by omega) (by omega), w64 (x := ((l.length + 4 : Nat) : Int) - 1) (by omega) (by omega), w64 (x := ((l.length + 4 : Nat) : Int) - 1 - k) (by omega) (by omega), w64 (x := (k : Int) + 1) (by omega) (by omega),
        show ((l.length + 4 : Nat) : Int) - 1 - k = ((l.length + (3 - k) : Nat) : Int) by omega, show 8 * (k : Int) = ((8 * k : Nat) : Int) by omega, Int.toNat_natCast, Int.toNat_natCast, set_right, gl_set]
      refine ⟨by omega, by omega, by omega, by omega, by omega, m - 1, by omega, k + 1, by omega, ?_, by omega⟩
      refine congrArg (fun r => M ++ [Blk.row (bS (l ++ r)) 5]) (gl_ext fun j hj => ?_)
      by_cases hjk : j = 3 - k
      · rw [if_pos hjk, if_pos (by omega)]; congr 2; omega
      · rw [if_neg hjk]
        by_cases hl : 4 ≤ j + k
        · rw [if_pos hl, if_pos (by omega)]
        · rw [if_neg hl, if_neg (by omega)]
    · obtain rfl : k = 4 := by omega
      refine dropC_all (by simp) ?_
      have : (gl 4 fun j => if 4 ≤ j + 4 then ((x.setWidth 64) >>> (8 * (3 - j))).setWidth 8 else 0#8) = beL 4 (x.setWidth 64) := gl_ext fun j hj => by rw [if_pos (by omega)]
      rw [this]
      exact hK _
theorem put64_ok (n off cap : Nat) (l : List (BitVec 8)) (x : BitVec 64) (M : List Blk) (K : SV → List Blk → Prop) (ha : BAt M n off l) (hl : l.length ≤ 140737488355000)
    (hK : ∀ ty, K (.sl M.length 0 (l.length + 8) (l.length + 8)) (M ++ [.row (bS (l ++ beL 8 x)) ty])) :
    callVC Tryz.prog 37 [.sl n off l.length cap, .u64 x] M K := by
  have wl : IntKind.i64.wrap ((l.length : Int) + 8) = ((l.length + 8 : Nat) : Int) := by rw [w64 (by omega) (by omega)]; simp
  refine fn_rule tabOK Tryz.func37 rfl Tryz.call37 (by kernel_rfl) (fun hM => ?_)
  (refine top_in ?_; simp -implicitDefEqProofs only [Tryz.ntmps37, Tryz.results37, go_sem, -List.reduceReplicate, ↓L_gdZ_tt, ↓L_gdZ_tf, ↓L_gdZ_ft, ↓L_gdZ_ff, ↓T_and, ↓T_imp, ↓T_all]; try simp only [top_out])
  refine width_uint64 _ _ ?_
  (refine top_in ?_; simp -implicitDefEqProofs only [go_sem, -List.reduceReplicate, ↓L_gdZ_tt, ↓L_gdZ_tf, ↓L_gdZ_ft, ↓L_gdZ_ff, ↓T_and, ↓T_imp, ↓T_all, wl]; try simp only [top_out])
  refine ⟨by omega, by omega, by omega, by omega, ?_⟩
  refine copy8 M.length 0 (List.replicate (l.length + 8) 0#8) l 5 rfl (by simp [get_app0]) (by simp) ha.app.src ?_
  have e0 : (List.replicate (l.length + 8) 0#8).take 0 ++ l.take (l.length + 8) ++ (List.replicate (l.length + 8) 0#8).drop (0 + Nat.min l.length (l.length + 8)) = l ++ List.replicate 8 0#8 := by
    rw [show Nat.min l.length (l.length + 8) = l.length from Nat.min_eq_left (by omega), List.take_of_length_le (by omega : l.length ≤ l.length + 8), List.take_zero, List.nil_append, List.drop_replicate]
    congr 2; omega
  rw [e0]
  (refine top_in ?_; simp -implicitDefEqProofs only [go_sem, -List.reduceReplicate, ↓L_gdZ_tt, ↓L_gdZ_tf, ↓L_gdZ_ft, ↓L_gdZ_ff, ↓T_and, ↓T_imp, ↓T_all]; try simp only [top_out])
  refine loop_code tabOK (by kernel_rfl) (fun m ts M' => ∃ k : Nat, k + m = 8 ∧ M' = M ++ [.row (bS (l ++ gl 8 fun j => if 8 ≤ j + k then (x >>> (8 * (8 - 1 - j))).setWidth 8 else 0#8)) 5] ∧
    frC [none, some (.u64 x), none, none, none, none, some (.sl M.length 0 (l.length + 8) (l.length + 8)), none, none, none, none, none, none, none, none, none, none, some (.i .i64 8), some (.i .i64 k), none, none, none, none, none, none, none, none, none, none, none, none, none, none, none, none] ts) 8 ?_ ?_
  · refine ⟨0, rfl, ?_, by simp [frC]⟩
    rw [← gl_const]
    refine congrArg (fun r => M ++ [Blk.row (bS (l ++ r)) 5]) (gl_ext fun j hj => ?_)
    rw [if_neg (by omega)]
  · rintro m ts _ ⟨k, hk, rfl, hf⟩
    obtain ⟨f, rfl⟩ := frC_open _ _ 0 hf
    clear hf
    (refine top_in ?_; simp -implicitDefEqProofs only [go_sem, -List.reduceReplicate, ↓L_gdZ_tt, ↓L_gdZ_tf, ↓L_gdZ_ft, ↓L_gdZ_ff, ↓T_and, ↓T_imp, ↓T_all]; try simp only [top_out])
    refine ⟨fun h => ?_, fun h => ?_⟩
    · rw [w64 (x := 8 * (k : Int)) (by omega) (by omega), w64 (x := ((l.length + 8 : Nat) : Int) - 1) (by omega) (by omega), w64 (x := ((l.length + 8 : Nat) : Int) - 1 - k) (by omega) (by omega), w64 (x := (k : Int) + 1) (by omega) (by omega),
        show ((l.length + 8 : Nat) : Int) - 1 - k = ((l.length + (7 - k) : Nat) : Int) by omega, show 8 * (k : Int) = ((8 * k : Nat) : Int) by omega, Int.toNat_natCast, Int.toNat_natCast, set_right, gl_set]
      refine ⟨by omega, by omega, by omega, by omega, by omega, m - 1, by omega, k + 1, by omega, ?_, by omega⟩
      refine congrArg (fun r => M ++ [Blk.row (bS (l ++ r)) 5]) (gl_ext fun j hj => ?_)
      by_cases hjk : j = 7 - k
      · rw [if_pos hjk, if_pos (by omega)]; congr 2; omega
      · rw [if_neg hjk]
        by_cases hl : 8 ≤ j + k
        · rw [if_pos hl, if_pos (by omega)]
        · rw [if_neg hl, if_neg (by omega)]
    · obtain rfl : k = 8 := by omega
      refine dropC_all (by simp) ?_
      have : (gl 8 fun j => if 8 ≤ j + 8 then (x >>> (8 * (7 - j))).setWidth 8 else 0#8) = beL 8 x := gl_ext fun j hj => by rw [if_pos (by omega)]
      rw [this]
      exact hK _
theorem put32n_ok (x : BitVec 32) (M : List Blk) (K : SV → List Blk → Prop) (hK : ∀ ty, K (.sl (M.length + 1) 0 4 4) (M ++ [.row [] 0, .row (bS (beL 4 (x.setWidth 64))) ty])) :
    callVC Tryz.prog 38 [.sn, .u32 x] M K := by
  refine call_nil (a := []) 0 ?_
  refine put32_ok M.length 0 0 [] x _ _ (BAt.row (z := []) (ty := 0) (by rw [get_app0]; rfl)) (by simp) (fun ty => ?_)
  have := hK ty
  simpa using this
theorem put64n_ok (x : BitVec 64) (M : List Blk) (K : SV → List Blk → Prop) (hK : ∀ ty, K (.sl (M.length + 1) 0 8 8) (M ++ [.row [] 0, .row (bS (beL 8 x)) ty])) :
    callVC Tryz.prog 37 [.sn, .u64 x] M K := by
  refine call_nil (a := []) 0 ?_
  refine put64_ok M.length 0 0 [] x _ _ (BAt.row (z := []) (ty := 0) (by rw [get_app0]; rfl)) (by simp) (fun ty => ?_)
  have := hK ty
  simpa using this
def headB (t l g : Int) (c : BitVec 64) : Bool := decide (1 ≤ t) && decide (t ≤ 3) && decide (1 ≤ l) && decide (l ≤ 4294967295) && decide (1 ≤ g) && decide (g ≤ 2147483647) && decide (c.toNat ≤ 18446744073709551614)
def hdS (t l g : Int) (c : BitVec 64) : SV := .agg [.i .i64 t, .i .i64 l, .i .i64 g, .u64 c]
theorem isHead_ok (t l g : Int) (c : BitVec 64) (M : List Blk) (K : SV → List Blk → Prop) (hK : K (.b (headB t l g c)) M) : callVC Tryz.prog 29 [hdS t l g c] M K := by
  unfold hdS
  refine fn_rule tabOK Tryz.func29 rfl Tryz.call29 (by kernel_rfl) (fun hM => ?_)
  (refine top_in ?_; simp -implicitDefEqProofs only [Tryz.ntmps29, Tryz.results29, go_sem, -List.reduceReplicate, ↓L_gdZ_tt, ↓L_gdZ_tf, ↓L_gdZ_ft, ↓L_gdZ_ff, ↓T_and, ↓T_imp, ↓T_all]; try simp only [top_out])
  repeat' (with_reducible first | refine And.intro ?_ ?_ | intro)
  all_goals
    refine dropB hM hK ?_
    simp [headB, *]
def fitsB (k n : Int) : Bool := if k = 3 then decide (9 ≤ n) && decide (n ≤ 1280) else decide (n = 12)
theorem fits_ok (k n : Int) (M : List Blk) (K : SV → List Blk → Prop) (hK : K (.b (fitsB k n)) M) : callVC Tryz.prog 30 [.i .i64 k, .i .i64 n] M K := by
  refine fn_rule tabOK Tryz.func30 rfl Tryz.call30 (by kernel_rfl) (fun hM => ?_)
  (refine top_in ?_; simp -implicitDefEqProofs only [Tryz.ntmps30, Tryz.results30, go_sem, -List.reduceReplicate, ↓L_gdZ_tt, ↓L_gdZ_tf, ↓L_gdZ_ft, ↓L_gdZ_ff, ↓T_and, ↓T_imp, ↓T_all]; try simp only [top_out])
  repeat' (with_reducible first | refine And.intro ?_ ?_ | intro)
  all_goals
    refine dropB0 hM hK ?_
    unfold fitsB
    first
      | (rw [if_pos (by simpa using ‹(k == 3) = true›)]; simp [*]; done)
      | (rw [if_neg (by simpa using ‹(k == 3) = false›)]; rfl)
theorem num_ok (x : Int) (M : List Blk) (K : SV → List Blk → Prop) (hK : K (.i .i64 x) M) : callVC Tryz.prog 11 [.i .i64 x] M K := by
  refine fn_rule tabOK Tryz.func11 rfl Tryz.call11 (by kernel_rfl) (fun hM => ?_)
  (refine top_in ?_; simp -implicitDefEqProofs only [Tryz.ntmps11, Tryz.results11, go_sem, -List.reduceReplicate, ↓L_gdZ_tt, ↓L_gdZ_tf, ↓L_gdZ_ft, ↓L_gdZ_ff, ↓T_and, ↓T_imp, ↓T_all]; try simp only [top_out])
  exact dropC_self hM rfl hK
def sameHB (t l g : Int) (c : BitVec 64) (t' l' g' : Int) (c' : BitVec 64) : Bool := t == t' && l == l' && g == g' && c == c'
theorem sameHead_ok (t l g : Int) (c : BitVec 64) (t' l' g' : Int) (c' : BitVec 64) (M : List Blk) (K : SV → List Blk → Prop) (hK : K (.b (sameHB t l g c t' l' g' c')) M) : callVC Tryz.prog 21 [hdS t l g c, hdS t' l' g' c'] M K := by
  unfold hdS
  refine fn_rule tabOK Tryz.func21 rfl Tryz.call21 (by kernel_rfl) (fun hM => ?_)
  (refine top_in ?_; simp -implicitDefEqProofs only [Tryz.ntmps21, Tryz.results21, go_sem, -List.reduceReplicate, ↓L_gdZ_tt, ↓L_gdZ_tf, ↓L_gdZ_ft, ↓L_gdZ_ff, ↓T_and, ↓T_imp, ↓T_all]; try simp only [top_out])
  repeat' (with_reducible first | refine And.intro ?_ ?_ | intro)
  all_goals
    refine dropB hM hK ?_
    simp_all [sameHB]
def nonceB (s g : Int) (c : BitVec 64) : Bool := (s == 0 || s == 1) && decide (1 ≤ g) && decide (g ≤ 2147483647) && decide (c.toNat ≤ 18446744073709551614)
def nonceL (s g : Int) (c : BitVec 64) : List (BitVec 8) := beL 4 (BitVec.ofInt 64 g + (if s = 1 then 2147483648#64 else 0#64)) ++ beL 8 c
theorem nonceL_len (s g : Int) (c : BitVec 64) : (nonceL s g c).length = 12 := by simp [nonceL, beL_len]
theorem nonce32 {s g : Int} (hs : s = 0 ∨ s = 1) (h0 : 1 ≤ g) (h1 : g ≤ 2147483647) : (BitVec.ofInt 32 s <<< 31 + BitVec.ofInt 32 g).setWidth 64 = BitVec.ofInt 64 g + (if s = 1 then 2147483648#64 else 0#64) := by
  obtain ⟨n, rfl⟩ := Int.eq_ofNat_of_zero_le (show 0 ≤ g by omega)
  have e0 : BitVec.ofInt 32 0 <<< 31 = 0#32 := by decide
  have e1 : BitVec.ofInt 32 1 <<< 31 = 2147483648#32 := by decide
  have a : (2147483648#32).toNat = 2147483648 := rfl
  have b : (2147483648#64).toNat = 2147483648 := rfl
  have c : (BitVec.ofNat 32 n).toNat = n := by rw [BitVec.toNat_ofNat]; exact Nat.mod_eq_of_lt (by omega)
  have d : (BitVec.ofNat 64 n).toNat = n := by rw [BitVec.toNat_ofNat]; exact Nat.mod_eq_of_lt (by omega)
  apply BitVec.eq_of_toNat_eq
  rcases hs with rfl | rfl
  · rw [e0, if_neg (by decide), BitVec.ofInt_natCast, BitVec.ofInt_natCast, BitVec.zero_add, BitVec.add_zero, BitVec.toNat_setWidth, c, d]
    exact Nat.mod_eq_of_lt (by omega)
  · rw [e1, if_pos rfl, BitVec.ofInt_natCast, BitVec.ofInt_natCast]
    rw [BitVec.toNat_setWidth, BitVec.toNat_add, BitVec.toNat_add, a, b, c, d, Nat.mod_eq_of_lt (by omega : 2147483648 + n < 2 ^ 32), Nat.mod_eq_of_lt (by omega : 2147483648 + n < 2 ^ 64), Nat.mod_eq_of_lt (by omega : n + 2147483648 < 2 ^ 64), Nat.add_comm]
theorem nonceB_true {s g : Int} {c : BitVec 64} (h : nonceB s g c = true) : (s = 0 ∨ s = 1) ∧ 1 ≤ g ∧ g ≤ 2147483647 ∧ c.toNat ≤ 18446744073709551614 := by
  simp only [nonceB, Bool.and_eq_true, Bool.or_eq_true, beq_iff_eq, decide_eq_true_eq] at h
  exact ⟨h.1.1.1, h.1.1.2, h.1.2, h.2⟩
theorem nonceB_of {s g : Int} {c : BitVec 64} (h : nonceB s g c = false) (hs : s = 0 ∨ s = 1) (h1 : 1 ≤ g) (h2 : g ≤ 2147483647) (h3 : c.toNat ≤ 18446744073709551614) : False := by
  have : nonceB s g c = true := by
    simp only [nonceB, Bool.and_eq_true, Bool.or_eq_true, beq_iff_eq, decide_eq_true_eq]
    exact ⟨⟨⟨hs, h1⟩, h2⟩, h3⟩
  rw [this] at h; cases h
theorem nonce_ok (s g : Int) (c : BitVec 64) (M : List Blk) (K : SV → List Blk → Prop) (h1 : nonceB s g c = true → ∀ z ty, K (.sl M.length 0 12 (12 + z.length)) (M ++ [.row (bS (nonceL s g c ++ z)) ty])) (h0 : nonceB s g c = false → K .sn M) :
    callVC Tryz.prog 15 [.i .i64 s, .i .i64 g, .u64 c] M K := by
  cases h : nonceB s g c
  · refine fn_rule tabOK Tryz.func15 rfl Tryz.call15 (by kernel_rfl) (fun hM => ?_)
    (refine top_in ?_; simp -implicitDefEqProofs only [Tryz.ntmps15, Tryz.results15, go_sem, -List.reduceReplicate, ↓L_gdZ_tt, ↓L_gdZ_tf, ↓L_gdZ_ft, ↓L_gdZ_ff, ↓T_and, ↓T_imp, ↓T_all]; try simp only [top_out])
    repeat' (with_reducible first | refine And.intro ?_ ?_ | intro)
    all_goals first
      | exact dropC_self hM rfl (h0 h)
      | (exfalso
         refine nonceB_of h ?_ (by omega) (by omega) (by omega)
         first | exact .inl (by simpa using ‹(s != 0) = false›) | exact .inr (by simpa using ‹(s != 1) = false›))
  · obtain ⟨hs, g1, g2, hc⟩ := nonceB_true h
    have a1 : (g < 1) = False := by simp; omega
    have a2 : (2147483647 < g) = False := by simp; omega
    have a3 : (18446744073709551614 < c.toNat) = False := by simp; omega
    have key : ∀ M' : List Blk, M' = M → callVC Tryz.prog 15 [.i .i64 s, .i .i64 g, .u64 c] M' K := by
      rintro M rfl
      refine fn_rule tabOK Tryz.func15 rfl Tryz.call15 (by kernel_rfl) (fun hM => ?_)
      (refine top_in ?_; simp -implicitDefEqProofs only [Tryz.ntmps15, Tryz.results15, go_sem, -List.reduceReplicate, ↓L_gdZ_tt, ↓L_gdZ_tf, ↓L_gdZ_ft, ↓L_gdZ_ff, ↓T_and, ↓T_imp, ↓T_all, a1, a2, a3]; try simp only [top_out])
      repeat' (with_reducible first | refine And.intro ?_ ?_ | intro)
      all_goals first
        | (exfalso
           have e1 : (s != 0) = true := by assumption
           have e2 : (s != 1) = true := by assumption
           rcases hs with rfl | rfl
           · cases e1
           · cases e2)
        | (refine put32n_ok _ _ _ ?_
           intro ty
           (refine top_in ?_; simp -implicitDefEqProofs only [go_sem, -List.reduceReplicate, ↓L_gdZ_tt, ↓L_gdZ_tf, ↓L_gdZ_ft, ↓L_gdZ_ff, ↓T_and, ↓T_imp, ↓T_all]; try simp only [top_out])
           refine put64_ok (M.length + 1) 0 4 (beL 4 ((BitVec.ofInt 32 s <<< 31 + BitVec.ofInt 32 g).setWidth 64)) c _ _ (BAt.row (z := []) (by rw [get_app, List.append_nil]; rfl)) (by rw [beL_len]; omega) ?_
           intro ty'
           (refine top_in ?_; simp -implicitDefEqProofs only [go_sem, -List.reduceReplicate, ↓L_gdZ_tt, ↓L_gdZ_tf, ↓L_gdZ_ft, ↓L_gdZ_ff, ↓T_and, ↓T_imp, ↓T_all]; try simp only [top_out])
           rw [nonce32 hs g1 g2]
           refine drop8 2 hM rfl rfl ?_
           have := h1 h [] ty'
           rw [List.append_nil] at this
           exact this)
    exact key M rfl
def headL (t l g : Int) (c : BitVec 64) : List (BitVec 8) := [BitVec.ofInt 8 t, 0#8, 0#8, 0#8] ++ beL 4 (BitVec.ofInt 64 l) ++ beL 4 (BitVec.ofInt 64 g) ++ beL 8 c
theorem headL_len (t l g : Int) (c : BitVec 64) : (headL t l g c).length = 20 := by simp [headL, beL_len]
theorem headB_true {t l g : Int} {c : BitVec 64} (h : headB t l g c = true) : 1 ≤ t ∧ t ≤ 3 ∧ 1 ≤ l ∧ l ≤ 4294967295 ∧ 1 ≤ g ∧ g ≤ 2147483647 ∧ c.toNat ≤ 18446744073709551614 := by
  simp only [headB, Bool.and_eq_true, decide_eq_true_eq] at h
  omega
theorem w32_64 {l : Int} (h0 : 0 ≤ l) (h1 : l ≤ 4294967295) : (BitVec.ofInt 32 l).setWidth 64 = BitVec.ofInt 64 l := by
  obtain ⟨n, rfl⟩ := Int.eq_ofNat_of_zero_le h0
  have c : (BitVec.ofNat 32 n).toNat = n := by rw [BitVec.toNat_ofNat]; exact Nat.mod_eq_of_lt (by omega)
  have d : (BitVec.ofNat 64 n).toNat = n := by rw [BitVec.toNat_ofNat]; exact Nat.mod_eq_of_lt (by omega)
  apply BitVec.eq_of_toNat_eq
  rw [BitVec.ofInt_natCast, BitVec.ofInt_natCast, BitVec.toNat_setWidth, c, d]
  exact Nat.mod_eq_of_lt (by omega)
theorem putHead_ok (t l g : Int) (c : BitVec 64) (M : List Blk) (K : SV → List Blk → Prop) (h1 : headB t l g c = true → ∀ z ty, K (.tup [.sl M.length 0 20 (20 + z.length), .i .i64 0]) (M ++ [.row (bS (headL t l g c ++ z)) ty]))
    (h0 : headB t l g c = false → K (.tup [.sn, .i .i64 90]) M) : callVC Tryz.prog 16 [hdS t l g c] M K := by
  unfold hdS
  refine fn_rule tabOK Tryz.func16 rfl Tryz.call16 (by kernel_rfl) (fun hM => ?_)
  (refine top_in ?_; simp -implicitDefEqProofs only [Tryz.ntmps16, Tryz.results16, go_sem, -List.reduceReplicate, ↓L_gdZ_tt, ↓L_gdZ_tf, ↓L_gdZ_ft, ↓L_gdZ_ff, ↓T_and, ↓T_imp, ↓T_all]; try simp only [top_out])
  refine isHead_ok t l g c _ _ ?_
  (refine top_in ?_; simp -implicitDefEqProofs only [go_sem, -List.reduceReplicate, ↓L_gdZ_tt, ↓L_gdZ_tf, ↓L_gdZ_ft, ↓L_gdZ_ff, ↓T_and, ↓T_imp, ↓T_all]; try simp only [top_out])
  refine ⟨fun h => dropC_append hM rfl (h0 (by simpa using h)), fun h => ⟨by decide, ?_⟩⟩
  have h : headB t l g c = true := by simpa using h
  obtain ⟨g1, g2, g3, g4, g5, g6, g7⟩ := headB_true h
  refine put32_ok (M.length + 1) 0 4 [BitVec.ofInt 8 t, 0#8, 0#8, 0#8] _ _ _ (BAt.row (z := []) (ty := 5) (by rw [get_app]; rfl)) (by simp) (fun ty => ?_)
  rw [w32_64 (by omega) g4]
  (refine top_in ?_; simp -implicitDefEqProofs only [go_sem, -List.reduceReplicate, ↓L_gdZ_tt, ↓L_gdZ_tf, ↓L_gdZ_ft, ↓L_gdZ_ff, ↓T_and, ↓T_imp, ↓T_all]; try simp only [top_out])
  refine put32_ok (M.length + 2) 0 8 ([BitVec.ofInt 8 t, 0#8, 0#8, 0#8] ++ beL 4 (BitVec.ofInt 64 l)) _ _ _ (BAt.row (z := []) (ty := ty) (by rw [get_app]; simp)) (by simp [beL_len]) (fun ty => ?_)
  rw [w32_64 (by omega) (by omega)]
  (refine top_in ?_; simp -implicitDefEqProofs only [go_sem, -List.reduceReplicate, ↓L_gdZ_tt, ↓L_gdZ_tf, ↓L_gdZ_ft, ↓L_gdZ_ff, ↓T_and, ↓T_imp, ↓T_all]; try simp only [top_out])
  refine put64_ok (M.length + 3) 0 12 ([BitVec.ofInt 8 t, 0#8, 0#8, 0#8] ++ beL 4 (BitVec.ofInt 64 l) ++ beL 4 (BitVec.ofInt 64 g)) _ _ _ (BAt.row (z := []) (ty := ty) (by rw [get_app]; simp)) (by simp [beL_len]) (fun ty => ?_)
  (refine top_in ?_; simp -implicitDefEqProofs only [go_sem, -List.reduceReplicate, ↓L_gdZ_tt, ↓L_gdZ_tf, ↓L_gdZ_ft, ↓L_gdZ_ff, ↓T_and, ↓T_imp, ↓T_all]; try simp only [top_out])
  refine drop8t 4 hM rfl rfl ?_
  have := h1 h [] ty
  simpa [headL] using this
def rdS (nb len cap : Nat) (at_ : Nat) (err : Int) : List SV := [.sl nb 0 len cap, .i .i64 at_, .i .i64 err]
def rok (len at_ : Nat) (err : Int) (n : Nat) : Bool := err == 0 && decide (at_ + n ≤ len)
def rerr (len at_ : Nat) (err : Int) (n : Nat) : Int := if err = 0 then (if at_ + n ≤ len then 0 else 10) else err
def rat (len at_ : Nat) (err : Int) (n : Nat) : Nat := if err = 0 ∧ at_ + n ≤ len then at_ + n else at_
theorem newReader_ok (n off cap : Nat) (l : List (BitVec 8)) (M : List Blk) (K : SV → List Blk → Prop) (ha : BAt M n off l) (hl : l.length ≤ 140737488355000)
    (hK : K (.p (M.length + 1) 0) (M ++ [.row (bS l) 5, .row (rdS M.length l.length l.length 0 0) 105])) :
    callVC Tryz.prog 23 [.sl n off l.length cap] M K := by
  refine fn_rule tabOK Tryz.func23 rfl Tryz.call23 (by kernel_rfl) (fun hM => ?_)
  (refine top_in ?_; simp -implicitDefEqProofs only [Tryz.ntmps23, Tryz.results23, go_sem, -List.reduceReplicate, ↓L_gdZ_tt, ↓L_gdZ_tf, ↓L_gdZ_ft, ↓L_gdZ_ff, ↓T_and, ↓T_imp, ↓T_all]; try simp only [top_out])
  refine ⟨by omega, by omega, by omega, by omega, ?_⟩
  refine copy8 M.length 0 (List.replicate l.length 0#8) l 5 rfl (by rw [get_app0]; rfl) (by simp) ha.app.src ?_
  have e0 : (List.replicate l.length 0#8).take 0 ++ l.take l.length ++ (List.replicate l.length 0#8).drop (0 + Nat.min l.length l.length) = l := by
    rw [show Nat.min l.length l.length = l.length from Nat.min_self _, List.take_length, List.take_zero, List.nil_append, List.drop_replicate]
    simp
  rw [e0]
  (refine top_in ?_; simp -implicitDefEqProofs only [go_sem, -List.reduceReplicate, ↓L_gdZ_tt, ↓L_gdZ_tf, ↓L_gdZ_ft, ↓L_gdZ_ff, ↓T_and, ↓T_imp, ↓T_all]; try simp only [top_out])
  exact dropC_all (by simp) hK
theorem set_self {M : List Blk} {m : Nat} {B : Blk} (h : M[m]? = some B) : M.set m B = M := by
  apply List.ext_getElem?
  intro j
  by_cases hj : m = j
  · subst hj; rw [List.getElem?_set_self (List.getElem?_eq_some_iff.1 h).1, h]
  · rw [List.getElem?_set_ne hj]
theorem take_ok (m nb cap : Nat) (l : List (BitVec 8)) (at_ : Nat) (err : Int) (n : Nat) (M : List Blk) (K : SV → List Blk → Prop) (hR : M[m]? = some (.row (rdS nb l.length cap at_ err) 105)) (ha : BAt M nb 0 l)
    (hat : at_ ≤ l.length) (hl : l.length ≤ 140737488355000) (hcap : l.length ≤ cap) (hn : n ≤ 140737488355000)
    (hK : K (.tup [if rok l.length at_ err n = true then .sl nb (if n = 0 then 0 else at_) n n else .sn, .b (rok l.length at_ err n)]) (M.set m (.row (rdS nb l.length cap (rat l.length at_ err n) (rerr l.length at_ err n)) 105))) :
    callVC Tryz.prog 47 [.p m 0, .i .i64 n] M K := by
  unfold rdS at hR
  refine fn_rule tabOK Tryz.func47 rfl Tryz.call47 (by kernel_rfl) (fun hM => ?_)
  (refine top_in ?_; simp -implicitDefEqProofs only [Tryz.ntmps47, Tryz.results47, go_sem, -List.reduceReplicate, ↓L_gdZ_tt, ↓L_gdZ_tf, ↓L_gdZ_ft, ↓L_gdZ_ff, ↓T_and, ↓T_imp, ↓T_all, hR]; try simp only [top_out])
  refine ⟨fun h => ?_, fun h => ⟨fun h1 => ?_, fun h1 => ?_⟩⟩
  · refine dropC_all (Nat.le_refl _) ?_
    have he : err ≠ 0 := by simpa using h
    have e1 : rok l.length at_ err n = false := by simp [rok, he]
    rw [e1, if_neg (by simp), show rat l.length at_ err n = at_ from if_neg (fun h => he h.1), show rerr l.length at_ err n = err from if_neg he, show rdS nb l.length cap at_ err = [.sl nb 0 l.length cap, .i .i64 at_, .i .i64 err] from rfl, set_self hR] at hK
    exact hK
  · omega
  · have he : err = 0 := by simpa using h
    subst he
    refine draw_rule tabOK (by kernel_rfl : _) (.p 0 (.p 1 (.p 2 (.p 3 (.p 4 (.p 5 (.p 6 (.p 7 (.p 8 (.p 9 (.p 10 (.p 11 (.p 12 .nil))))))))))))) (by kernel_rfl) (by kernel_rfl) ?_
    (refine top_in ?_; simp -implicitDefEqProofs only [go_sem, -List.reduceReplicate, ↓L_gdZ_tt, ↓L_gdZ_tf, ↓L_gdZ_ft, ↓L_gdZ_ff, ↓T_and, ↓T_imp, ↓T_all, hR]; try simp only [top_out])
    rw [w64 (by omega) (by omega)]
    refine ⟨fun h2 => ?_, fun h2 => ?_⟩
    · refine dropC_all (by simp) ?_
      have e1 : rok l.length at_ 0 n = false := by simp [rok]; omega
      rw [e1, if_neg (by simp), show rat l.length at_ 0 n = at_ from if_neg (fun h => by omega), show rerr l.length at_ 0 n = 10 by unfold rerr; rw [if_pos rfl, if_neg (by omega)]] at hK
      exact hK
    · refine draw_rule tabOK (by kernel_rfl : _) (.p 0 (.p 1 (.p 2 (.p 3 (.p 4 (.p 5 (.p 6 (.p 7 (.p 8 (.p 9 (.p 10 (.p 11 (.p 12 (.p 13 (.p 14 (.p 15 (.p 16 (.p 17 (.p 18 (.p 19 (.p 20 (.p 21 .nil)))))))))))))))))))))) (by kernel_rfl) (by kernel_rfl) ?_
      (refine top_in ?_; simp -implicitDefEqProofs only [go_sem, -List.reduceReplicate, ↓L_gdZ_tt, ↓L_gdZ_tf, ↓L_gdZ_ft, ↓L_gdZ_ff, ↓T_and, ↓T_imp, ↓T_all, hR]; try simp only [top_out])
      have e1 : rok l.length at_ 0 n = true := by simp [rok]; omega
      rw [e1, if_pos rfl, show rat l.length at_ 0 n = at_ + n from if_pos ⟨rfl, by omega⟩, show rerr l.length at_ 0 n = 0 by unfold rerr; rw [if_pos rfl, if_pos (by omega)]] at hK
      rw [w64 (by omega) (by omega), show (at_ : Int) + n = ((at_ + n : Nat) : Int) by omega, Int.toNat_natCast, show at_ + n - at_ = n by omega]
      refine ⟨by omega, by omega, by omega, by omega, by omega, by omega, dropC_all (by simp) ?_⟩
      rw [show (if at_ + n = at_ then 0 else at_) = (if n = 0 then 0 else at_) by by_cases h0 : n = 0 <;> simp [h0]]
      exact hK
theorem BAt.set {M : List Blk} {n m off : Nat} {l : List (BitVec 8)} {B : Blk} (h : BAt M n off l) (hne : m ≠ n) : BAt (M.set m B) n off l := by
  have e : cellsAt (M.set m B) n = cellsAt M n := by unfold cellsAt; rw [List.getElem?_set_ne hne]
  exact ⟨by simpa using h.lt, by rw [e]; exact h.len, by rw [e]; exact h.cells⟩
def numB (l : List (BitVec 8)) : BitVec 64 := l.foldl (fun x c => x <<< 8 ||| c.setWidth 64) 0#64
def getV (l : List (BitVec 8)) (at_ : Nat) (err : Int) (n : Nat) : BitVec 64 := if rok l.length at_ err n = true then numB ((l.drop at_).take n) else 0#64
theorem numB_take {l : List (BitVec 8)} {k : Nat} (h : k < l.length) : numB (l.take (k + 1)) = numB (l.take k) <<< 8 ||| (l.getD k 0#8).setWidth 64 := by
  rw [take_snoc h, numB, List.foldl_append]; rfl
theorem get8_ok (m nb cap : Nat) (l : List (BitVec 8)) (at_ : Nat) (err : Int) (M : List Blk) (K : SV → List Blk → Prop) (hR : M[m]? = some (.row (rdS nb l.length cap at_ err) 105)) (ha : BAt M nb 0 l) (hne : m ≠ nb)
    (hat : at_ ≤ l.length) (hl : l.length ≤ 140737488355000) (hcap : l.length ≤ cap)
    (hK : K (.u8 ((getV l at_ err 1).setWidth 8)) (M.set m (.row (rdS nb l.length cap (rat l.length at_ err 1) (rerr l.length at_ err 1)) 105))) :
    callVC Tryz.prog 24 [.p m 0] M K := by
  refine fn_rule tabOK Tryz.func24 rfl Tryz.call24 (by kernel_rfl) (fun hM => ?_)
  (refine top_in ?_; simp -implicitDefEqProofs only [Tryz.ntmps24, Tryz.results24, go_sem, -List.reduceReplicate, ↓L_gdZ_tt, ↓L_gdZ_tf, ↓L_gdZ_ft, ↓L_gdZ_ff, ↓T_and, ↓T_imp, ↓T_all]; try simp only [top_out])
  refine width_uint8 _ _ ?_
  (refine top_in ?_; simp -implicitDefEqProofs only [go_sem, -List.reduceReplicate, ↓L_gdZ_tt, ↓L_gdZ_tf, ↓L_gdZ_ft, ↓L_gdZ_ff, ↓T_and, ↓T_imp, ↓T_all]; try simp only [top_out])
  refine take_ok m nb cap l at_ err 1 M _ hR ha hat hl hcap (by omega) ?_
  cases hr : rok l.length at_ err 1
  · (refine top_in ?_; simp -implicitDefEqProofs only [go_sem, -List.reduceReplicate, ↓L_gdZ_tt, ↓L_gdZ_tf, ↓L_gdZ_ft, ↓L_gdZ_ff, ↓T_and, ↓T_imp, ↓T_all, Bool.false_eq_true]; try simp only [top_out])
    refine dropC_all (by simp) ?_
    rw [getV, hr, if_neg (by simp)] at hK
    exact hK
  · have hlen : at_ + 1 ≤ l.length := by simp [rok] at hr; omega
    (refine top_in ?_; simp -implicitDefEqProofs only [go_sem, -List.reduceReplicate, ↓L_gdZ_tt, ↓L_gdZ_tf, ↓L_gdZ_ft, ↓L_gdZ_ff, ↓T_and, ↓T_imp, ↓T_all, Nat.reduceEqDiff]; try simp only [top_out])
    rw [getV, hr, if_pos rfl] at hK
    have hb : BAt (M.set m (Blk.row (rdS nb l.length cap (rat l.length at_ err 1) (rerr l.length at_ err 1)) 105)) nb at_ ((l.drop at_).take 1) := by
      have := (ha.set (B := .row (rdS nb l.length cap (rat l.length at_ err 1) (rerr l.length at_ err 1)) 105) hne).sub (a := at_) (k := 1) hlen
      rwa [Nat.zero_add] at this
    have hbl : ((l.drop at_).take 1).length = 1 := by simp; omega
    have hml : M.length ≤ (M.set m (Blk.row (rdS nb l.length cap (rat l.length at_ err 1) (rerr l.length at_ err 1)) 105)).length := by simp
    revert hK hb hml
    generalize M.set m (Blk.row (rdS nb l.length cap (rat l.length at_ err 1) (rerr l.length at_ err 1)) 105) = M1
    generalize (l.drop at_).take 1 = b at hbl
    intro hK hb hml
    refine loop_code tabOK (by kernel_rfl) (fun n ts M' => ∃ k : Nat, k + n = 1 ∧ M' = M1 ∧ frC [none, none, none, none, none, some (.u64 (numB (b.take k))), none, none, none, none, none, none, none, none, none, none, some (.sl nb at_ 1 1), some (.i .i64 1), some (.i .i64 k), none, none, none, none, none, none, none, none, none, none, none] ts) 1 ?_ ?_
    · exact ⟨0, rfl, rfl, by simp [frC, numB]⟩
    · rintro n ts _ ⟨k, hk, rfl, hf⟩
      obtain ⟨f, rfl⟩ := frC_open _ _ 0 hf
      clear hf
      (refine top_in ?_; simp -implicitDefEqProofs only [go_sem, -List.reduceReplicate, ↓L_gdZ_tt, ↓L_gdZ_tf, ↓L_gdZ_ft, ↓L_gdZ_ff, ↓T_and, ↓T_imp, ↓T_all]; try simp only [top_out])
      refine ⟨fun h => ?_, fun h => ?_⟩
      · rw [hb.is8 (by omega), hb.cell8 (by omega)]
        refine ⟨by omega, by omega, hb.le (by omega), rfl, n - 1, by omega, k + 1, by omega, ?_, by rw [w64 (by omega) (by omega)]; simp⟩
        rw [numB_take (by omega)]
      · obtain rfl : k = 1 := by omega
        rw [List.take_of_length_le (by omega)]
        exact dropC_all hml hK
theorem get32_ok (m nb cap : Nat) (l : List (BitVec 8)) (at_ : Nat) (err : Int) (M : List Blk) (K : SV → List Blk → Prop) (hR : M[m]? = some (.row (rdS nb l.length cap at_ err) 105)) (ha : BAt M nb 0 l) (hne : m ≠ nb)
    (hat : at_ ≤ l.length) (hl : l.length ≤ 140737488355000) (hcap : l.length ≤ cap)
    (hK : K (.u32 ((getV l at_ err 4).setWidth 32)) (M.set m (.row (rdS nb l.length cap (rat l.length at_ err 4) (rerr l.length at_ err 4)) 105))) :
    callVC Tryz.prog 49 [.p m 0] M K := by
  refine fn_rule tabOK Tryz.func49 rfl Tryz.call49 (by kernel_rfl) (fun hM => ?_)
  (refine top_in ?_; simp -implicitDefEqProofs only [Tryz.ntmps49, Tryz.results49, go_sem, -List.reduceReplicate, ↓L_gdZ_tt, ↓L_gdZ_tf, ↓L_gdZ_ft, ↓L_gdZ_ff, ↓T_and, ↓T_imp, ↓T_all]; try simp only [top_out])
  refine width_uint32 _ _ ?_
  (refine top_in ?_; simp -implicitDefEqProofs only [go_sem, -List.reduceReplicate, ↓L_gdZ_tt, ↓L_gdZ_tf, ↓L_gdZ_ft, ↓L_gdZ_ff, ↓T_and, ↓T_imp, ↓T_all]; try simp only [top_out])
  refine take_ok m nb cap l at_ err 4 M _ hR ha hat hl hcap (by omega) ?_
  cases hr : rok l.length at_ err 4
  · (refine top_in ?_; simp -implicitDefEqProofs only [go_sem, -List.reduceReplicate, ↓L_gdZ_tt, ↓L_gdZ_tf, ↓L_gdZ_ft, ↓L_gdZ_ff, ↓T_and, ↓T_imp, ↓T_all, Bool.false_eq_true]; try simp only [top_out])
    refine dropC_all (by simp) ?_
    rw [getV, hr, if_neg (by simp)] at hK
    exact hK
  · have hlen : at_ + 4 ≤ l.length := by simp [rok] at hr; omega
    (refine top_in ?_; simp -implicitDefEqProofs only [go_sem, -List.reduceReplicate, ↓L_gdZ_tt, ↓L_gdZ_tf, ↓L_gdZ_ft, ↓L_gdZ_ff, ↓T_and, ↓T_imp, ↓T_all, Nat.reduceEqDiff]; try simp only [top_out])
    rw [getV, hr, if_pos rfl] at hK
    have hb : BAt (M.set m (Blk.row (rdS nb l.length cap (rat l.length at_ err 4) (rerr l.length at_ err 4)) 105)) nb at_ ((l.drop at_).take 4) := by
      have := (ha.set (B := .row (rdS nb l.length cap (rat l.length at_ err 4) (rerr l.length at_ err 4)) 105) hne).sub (a := at_) (k := 4) hlen
      rwa [Nat.zero_add] at this
    have hbl : ((l.drop at_).take 4).length = 4 := by simp; omega
    have hml : M.length ≤ (M.set m (Blk.row (rdS nb l.length cap (rat l.length at_ err 4) (rerr l.length at_ err 4)) 105)).length := by simp
    revert hK hb hml
    generalize M.set m (Blk.row (rdS nb l.length cap (rat l.length at_ err 4) (rerr l.length at_ err 4)) 105) = M1
    generalize (l.drop at_).take 4 = b at hbl
    intro hK hb hml
    refine loop_code tabOK (by kernel_rfl) (fun n ts M' => ∃ k : Nat, k + n = 4 ∧ M' = M1 ∧ frC [none, none, none, none, none, some (.u64 (numB (b.take k))), none, none, none, none, none, none, none, none, none, none, some (.sl nb at_ 4 4), some (.i .i64 4), some (.i .i64 k), none, none, none, none, none, none, none, none, none, none, none] ts) 4 ?_ ?_
    · exact ⟨0, rfl, rfl, by simp [frC, numB]⟩
    · rintro n ts _ ⟨k, hk, rfl, hf⟩
      obtain ⟨f, rfl⟩ := frC_open _ _ 0 hf
      clear hf
      (refine top_in ?_; simp -implicitDefEqProofs only [go_sem, -List.reduceReplicate, ↓L_gdZ_tt, ↓L_gdZ_tf, ↓L_gdZ_ft, ↓L_gdZ_ff, ↓T_and, ↓T_imp, ↓T_all]; try simp only [top_out])
      refine ⟨fun h => ?_, fun h => ?_⟩
      · rw [hb.is8 (by omega), hb.cell8 (by omega)]
        refine ⟨by omega, by omega, hb.le (by omega), rfl, n - 1, by omega, k + 1, by omega, ?_, by rw [w64 (by omega) (by omega)]; simp⟩
        rw [numB_take (by omega)]
      · obtain rfl : k = 4 := by omega
        rw [List.take_of_length_le (by omega)]
        exact dropC_all hml hK
theorem get64_ok (m nb cap : Nat) (l : List (BitVec 8)) (at_ : Nat) (err : Int) (M : List Blk) (K : SV → List Blk → Prop) (hR : M[m]? = some (.row (rdS nb l.length cap at_ err) 105)) (ha : BAt M nb 0 l) (hne : m ≠ nb)
    (hat : at_ ≤ l.length) (hl : l.length ≤ 140737488355000) (hcap : l.length ≤ cap)
    (hK : K (.u64 (getV l at_ err 8)) (M.set m (.row (rdS nb l.length cap (rat l.length at_ err 8) (rerr l.length at_ err 8)) 105))) :
    callVC Tryz.prog 50 [.p m 0] M K := by
  refine fn_rule tabOK Tryz.func50 rfl Tryz.call50 (by kernel_rfl) (fun hM => ?_)
  (refine top_in ?_; simp -implicitDefEqProofs only [Tryz.ntmps50, Tryz.results50, go_sem, -List.reduceReplicate, ↓L_gdZ_tt, ↓L_gdZ_tf, ↓L_gdZ_ft, ↓L_gdZ_ff, ↓T_and, ↓T_imp, ↓T_all]; try simp only [top_out])
  refine width_uint64 _ _ ?_
  (refine top_in ?_; simp -implicitDefEqProofs only [go_sem, -List.reduceReplicate, ↓L_gdZ_tt, ↓L_gdZ_tf, ↓L_gdZ_ft, ↓L_gdZ_ff, ↓T_and, ↓T_imp, ↓T_all]; try simp only [top_out])
  refine take_ok m nb cap l at_ err 8 M _ hR ha hat hl hcap (by omega) ?_
  cases hr : rok l.length at_ err 8
  · (refine top_in ?_; simp -implicitDefEqProofs only [go_sem, -List.reduceReplicate, ↓L_gdZ_tt, ↓L_gdZ_tf, ↓L_gdZ_ft, ↓L_gdZ_ff, ↓T_and, ↓T_imp, ↓T_all, Bool.false_eq_true]; try simp only [top_out])
    refine dropC_all (by simp) ?_
    rw [getV, hr, if_neg (by simp)] at hK
    exact hK
  · have hlen : at_ + 8 ≤ l.length := by simp [rok] at hr; omega
    (refine top_in ?_; simp -implicitDefEqProofs only [go_sem, -List.reduceReplicate, ↓L_gdZ_tt, ↓L_gdZ_tf, ↓L_gdZ_ft, ↓L_gdZ_ff, ↓T_and, ↓T_imp, ↓T_all, Nat.reduceEqDiff]; try simp only [top_out])
    rw [getV, hr, if_pos rfl] at hK
    have hb : BAt (M.set m (Blk.row (rdS nb l.length cap (rat l.length at_ err 8) (rerr l.length at_ err 8)) 105)) nb at_ ((l.drop at_).take 8) := by
      have := (ha.set (B := .row (rdS nb l.length cap (rat l.length at_ err 8) (rerr l.length at_ err 8)) 105) hne).sub (a := at_) (k := 8) hlen
      rwa [Nat.zero_add] at this
    have hbl : ((l.drop at_).take 8).length = 8 := by simp; omega
    have hml : M.length ≤ (M.set m (Blk.row (rdS nb l.length cap (rat l.length at_ err 8) (rerr l.length at_ err 8)) 105)).length := by simp
    revert hK hb hml
    generalize M.set m (Blk.row (rdS nb l.length cap (rat l.length at_ err 8) (rerr l.length at_ err 8)) 105) = M1
    generalize (l.drop at_).take 8 = b at hbl
    intro hK hb hml
    refine loop_code tabOK (by kernel_rfl) (fun n ts M' => ∃ k : Nat, k + n = 8 ∧ M' = M1 ∧ frC [none, none, none, none, none, some (.u64 (numB (b.take k))), none, none, none, none, none, none, none, none, none, none, some (.sl nb at_ 8 8), some (.i .i64 8), some (.i .i64 k), none, none, none, none, none, none, none, none, none, none] ts) 8 ?_ ?_
    · exact ⟨0, rfl, rfl, by simp [frC, numB]⟩
    · rintro n ts _ ⟨k, hk, rfl, hf⟩
      obtain ⟨f, rfl⟩ := frC_open _ _ 0 hf
      clear hf
      (refine top_in ?_; simp -implicitDefEqProofs only [go_sem, -List.reduceReplicate, ↓L_gdZ_tt, ↓L_gdZ_tf, ↓L_gdZ_ft, ↓L_gdZ_ff, ↓T_and, ↓T_imp, ↓T_all]; try simp only [top_out])
      refine ⟨fun h => ?_, fun h => ?_⟩
      · rw [hb.is8 (by omega), hb.cell8 (by omega)]
        refine ⟨by omega, by omega, hb.le (by omega), rfl, n - 1, by omega, k + 1, by omega, ?_, by rw [w64 (by omega) (by omega)]; simp⟩
        rw [numB_take (by omega)]
      · obtain rfl : k = 8 := by omega
        rw [List.take_of_length_le (by omega)]
        exact dropC_all hml hK
theorem err_ok (m nb cap : Nat) (len : Nat) (at_ : Nat) (err : Int) (M : List Blk) (K : SV → List Blk → Prop) (hR : M[m]? = some (.row (rdS nb len cap at_ err) 105)) (hK : K (.tup [.i .i64 err, .i .i64 at_]) M) :
    callVC Tryz.prog 26 [.p m 0] M K := by
  unfold rdS at hR
  refine fn_rule tabOK Tryz.func26 rfl Tryz.call26 (by kernel_rfl) (fun hM => ?_)
  (refine top_in ?_; simp -implicitDefEqProofs only [Tryz.ntmps26, Tryz.results26, go_sem, -List.reduceReplicate, ↓L_gdZ_tt, ↓L_gdZ_tf, ↓L_gdZ_ft, ↓L_gdZ_ff, ↓T_and, ↓T_imp, ↓T_all, hR]; try simp only [top_out])
  refine draw_rule tabOK (by kernel_rfl : _) (.p 0 (.p 1 (.p 2 (.p 3 (.p 4 (.p 5 (.p 6 (.p 7 (.p 8 (.p 9 .nil)))))))))) (by kernel_rfl) (by kernel_rfl) ?_
  (refine top_in ?_; simp -implicitDefEqProofs only [go_sem, -List.reduceReplicate, ↓L_gdZ_tt, ↓L_gdZ_tf, ↓L_gdZ_ft, ↓L_gdZ_ff, ↓T_and, ↓T_imp, ↓T_all, hR]; try simp only [top_out])
  exact dropC_all (Nat.le_refl _) hK
def zerosB (l : List (BitVec 8)) : Bool := l.all (· == 0#8)
theorem zeros_ok (m nb cap : Nat) (l : List (BitVec 8)) (at_ : Nat) (err : Int) (n : Nat) (M : List Blk) (K : SV → List Blk → Prop) (hR : M[m]? = some (.row (rdS nb l.length cap at_ err) 105)) (ha : BAt M nb 0 l) (hne : m ≠ nb)
    (hat : at_ ≤ l.length) (hl : l.length ≤ 140737488355000) (hcap : l.length ≤ cap) (hn : n ≤ 140737488355000)
    (hn0 : 0 < n) (hK : ∀ (at' : Nat) (err' : Int), at' ≤ l.length → (err' = 0 ↔ (rok l.length at_ err n = true ∧ zerosB ((l.drop at_).take n) = true)) → (err' = 0 → at' = at_ + n) →
      K (.tup []) (M.set m (.row (rdS nb l.length cap at' err') 105))) :
    callVC Tryz.prog 54 [.p m 0, .i .i64 n] M K := by
  refine fn_rule tabOK Tryz.func54 rfl Tryz.call54 (by kernel_rfl) (fun hM => ?_)
  (refine top_in ?_; simp -implicitDefEqProofs only [Tryz.ntmps54, Tryz.results54, go_sem, -List.reduceReplicate, ↓L_gdZ_tt, ↓L_gdZ_tf, ↓L_gdZ_ft, ↓L_gdZ_ff, ↓T_and, ↓T_imp, ↓T_all]; try simp only [top_out])
  refine take_ok m nb cap l at_ err n M _ hR ha hat hl hcap hn ?_
  cases hr : rok l.length at_ err n
  · (refine top_in ?_; simp -implicitDefEqProofs only [go_sem, -List.reduceReplicate, ↓L_gdZ_tt, ↓L_gdZ_tf, ↓L_gdZ_ft, ↓L_gdZ_ff, ↓T_and, ↓T_imp, ↓T_all, Bool.false_eq_true]; try simp only [top_out])
    have hK := hK (rat l.length at_ err n) (rerr l.length at_ err n) (by unfold rat; split <;> omega) (by
      rw [hr]
      refine ⟨fun h => ?_, fun h => by cases h.1⟩
      exfalso
      simp [rok] at hr
      unfold rerr at h
      by_cases he : err = 0
      · rw [if_pos he, if_neg (by have := hr he; omega)] at h; cases h
      · rw [if_neg he] at h; exact he h) (fun h => by
      exfalso
      simp [rok] at hr
      unfold rerr at h
      by_cases he : err = 0
      · rw [if_pos he, if_neg (by have := hr he; omega)] at h; cases h
      · rw [if_neg he] at h; exact he h)
    refine loop_rounds tabOK (by kernel_rfl) 1 ?_
    (refine top_in ?_; simp -implicitDefEqProofs only [go_sem, -List.reduceReplicate, ↓L_gdZ_tt, ↓L_gdZ_tf, ↓L_gdZ_ft, ↓L_gdZ_ff, ↓T_and, ↓T_imp, ↓T_all]; try simp only [top_out])
    exact dropC_all (by simp) hK
  · have he : err = 0 ∧ at_ + n ≤ l.length := by simpa [rok] using hr
    obtain ⟨rfl, hlen⟩ := he
    have e1 : rat l.length at_ 0 n = at_ + n := if_pos ⟨rfl, hlen⟩
    have e2 : rerr l.length at_ 0 n = 0 := by unfold rerr; rw [if_pos rfl, if_pos hlen]
    have hn' : (n = 0) = False := by simp; omega
    (refine top_in ?_; simp -implicitDefEqProofs only [go_sem, -List.reduceReplicate, ↓L_gdZ_tt, ↓L_gdZ_tf, ↓L_gdZ_ft, ↓L_gdZ_ff, ↓T_and, ↓T_imp, ↓T_all, e1, e2, hn']; try simp only [top_out])
    have hb : BAt (M.set m (Blk.row (rdS nb l.length cap (at_ + n) 0) 105)) nb at_ ((l.drop at_).take n) := by
      have := (ha.set (B := .row (rdS nb l.length cap (at_ + n) 0) 105) hne).sub (a := at_) (k := n) hlen
      rwa [Nat.zero_add] at this
    have hbl : ((l.drop at_).take n).length = n := by simp; omega
    have hlt : m < M.length := (List.getElem?_eq_some_iff.1 hR).1
    revert hK hb
    generalize (l.drop at_).take n = b at hbl
    intro hK hb
    refine loop_code tabOK (by kernel_rfl) (fun i ts M' => ∃ k : Nat, k + i = n ∧ zerosB (b.take k) = true ∧ M' = M.set m (Blk.row (rdS nb l.length cap (at_ + n) 0) 105) ∧ frC [some (.p m 0), none, none, none, some (.sl nb at_ n n), none, none, none, none, none, none, none, none, none, some (.sl nb at_ n n), some (.i .i64 n), some (.i .i64 k), none, none, none, none, none, none, none, none, none, none, none, none, none, none, none, none, none, none, none, none, none] ts) n ?_ ?_
    · exact ⟨0, by omega, rfl, rfl, by simp [frC]⟩
    · rintro i ts _ ⟨k, hk, hz, rfl, hf⟩
      unfold rdS at hb ⊢
      obtain ⟨f, rfl⟩ := frC_open _ _ 0 hf
      clear hf
      (refine top_in ?_; simp -implicitDefEqProofs only [go_sem, -List.reduceReplicate, ↓L_gdZ_tt, ↓L_gdZ_tf, ↓L_gdZ_ft, ↓L_gdZ_ff, ↓T_and, ↓T_imp, ↓T_all, List.getElem?_set_self hlt, List.set_set]; try simp only [top_out])
      refine ⟨fun h => ?_, fun h => ?_⟩
      · rw [hb.is8 (by omega), hb.cell8 (by omega)]
        refine ⟨by omega, by omega, hb.le (by omega), rfl, fun h1 => ?_, fun h1 => ?_⟩
        · refine dropC_all (by simp) ?_
          rw [w64 (x := (k : Int) - n) (by omega) (by omega), w64 (by omega) (by omega), show ((at_ + n : Nat) : Int) + ((k : Int) - n) = ((at_ + k : Nat) : Int) by omega]
          refine hK (at_ + k) 11 (by omega) ⟨fun h => (by cases h), fun h => ?_⟩ (fun h => (by cases h))
          exfalso
          have := List.all_eq_true.1 h.2 (b.getD k 0#8) (by rw [List.getD_eq_getElem?_getD, List.getElem?_eq_getElem (by omega)]; exact List.getElem_mem _)
          rw [bne, this] at h1; cases h1
        · refine ⟨i - 1, by omega, k + 1, by omega, ?_, w64 (by omega) (by omega)⟩
          rw [take_snoc (by omega), zerosB, List.all_append, ← zerosB, hz]
          simpa using h1
      · obtain rfl : k = n := by omega
        rw [List.take_of_length_le (by omega)] at hz
        exact dropC_all (by simp) (hK (at_ + k) 0 hlen ⟨fun _ => ⟨hr, hz⟩, fun _ => rfl⟩ (fun _ => rfl))
end Go.Proofs.YtdkdbeamimkljaaGreatDoor.Eng
