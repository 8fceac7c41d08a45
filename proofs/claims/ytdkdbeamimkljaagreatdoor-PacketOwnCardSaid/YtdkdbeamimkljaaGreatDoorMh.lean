/- Joined texts: A5, A6, A7, A8. -/
import Derived.Test.YtdkdbeamimkljaaGreatDoorMg
namespace Go.Proofs.YtdkdbeamimkljaaGreatDoor.Eng
set_option linter.unusedSimpArgs false
set_option linter.unusedVariables false
open Go Go.RowKit
def boxL : List (BitVec 8) := gl 256 fun j => sbox (BitVec.ofNat 8 j)
theorem boxL_len : boxL.length = 256 := gl_len
def box0 : List (BitVec 8) := boxL ++ List.replicate 240 0#8
theorem box0_len : box0.length = 496 := by unfold box0; rw [List.length_append, boxL_len, List.length_replicate]
def kw (key l : List (BitVec 8)) (i : Nat) : List (BitVec 8) := if i < 8 then (key.drop (4 * i)).take 4 else sum4 ((l.drop (4 * (i - 8))).take 4) (turnL box0 ((l.drop (4 * (i - 1))).take 4) i)
def kx (key : List (BitVec 8)) : Nat → List (BitVec 8)
  | 0 => []
  | i + 1 => kx key i ++ kw key (kx key i) i
theorem kx_len {key : List (BitVec 8)} (hk : key.length = 32) : ∀ i, i ≤ 60 → (kx key i).length = 4 * i
  | 0, _ => rfl
  | i + 1, h => by
    rw [kx, List.length_append, kx_len hk i (by omega)]
    unfold kw
    split
    · simp; omega
    · rw [sum4_len]; omega
def ciph (key : List (BitVec 8)) : List (BitVec 8) := boxL ++ kx key 60
theorem ciph_len {key : List (BitVec 8)} (hk : key.length = 32) : (ciph key).length = 496 := by unfold ciph; rw [List.length_append, boxL_len, kx_len hk 60 (by omega)]
def wl (key : List (BitVec 8)) (i : Nat) : List (BitVec 8) := kx key i ++ List.replicate (240 - 4 * i) 0#8
theorem wl_len {key : List (BitVec 8)} (hk : key.length = 32) (i : Nat) (h : i ≤ 60) : (wl key i).length = 240 := by unfold wl; rw [List.length_append, kx_len hk i h, List.length_replicate]; omega
theorem kw_len {key l : List (BitVec 8)} (hk : key.length = 32) (i : Nat) : (kw key l i).length = 4 := by
  unfold kw
  split
  · simp; omega
  · rw [sum4_len]
theorem wl_splice {key w : List (BitVec 8)} (hk : key.length = 32) {k : Nat} (h : k < 60) (hw : w = kw key (kx key k) k) : splice (bS (wl key k)) (k * 4) (bS w) = bS (wl key (k + 1)) := by
  have h1 := kx_len hk k (by omega)
  have h2 : w.length = 4 := by rw [hw]; exact kw_len hk k
  unfold splice
  rw [bS_take, bS_drop, bS_append, bS_append, bS_length, h2]
  congr 1
  unfold wl
  rw [List.take_append_of_le_length (by omega), List.take_of_length_le (by omega), List.drop_append, List.drop_eq_nil_of_le (by omega), List.nil_append, List.drop_replicate, h1, kx, ← hw, show 240 - 4 * k - (k * 4 + 4 - 4 * k) = 240 - 4 * (k + 1) by omega]
theorem turnL_len {C x : List (BitVec 8)} (hx : x.length = 4) (i : Nat) : (turnL C x i).length = 4 := by
  unfold turnL
  split
  · unfold rcL; rw [List.length_set]; exact gl_len
  · split
    · exact gl_len
    · exact hx
def cl (key : List (BitVec 8)) (k : Nat) : List (BitVec 8) := boxL ++ ((kx key 60).take (4 * k) ++ List.replicate (240 - 4 * k) 0#8)
theorem cl_len {key : List (BitVec 8)} (hk : key.length = 32) (k : Nat) (h : k ≤ 60) : (cl key k).length = 496 := by
  unfold cl; rw [List.length_append, List.length_append, boxL_len, List.length_take, kx_len hk 60 (by omega), List.length_replicate]; omega
theorem cl_step {key : List (BitVec 8)} (hk : key.length = 32) {k len : Nat} (h : k < 60) (hlen : 4 ≤ len) :
    (cl key k).take (256 + 4 * k) ++ (((wl key 60).drop (k * 4)).take 4).take len ++ (cl key k).drop (256 + 4 * k + 4) = cl key (k + 1) := by
  have h0 := kx_len hk 60 (by omega)
  have hw : ((wl key 60).drop (k * 4)).take 4 = ((kx key 60).drop (4 * k)).take 4 := by
    unfold wl; rw [show 240 - 4 * 60 = 0 from rfl, List.replicate_zero, List.append_nil, Nat.mul_comm]
  have hw4 : (((kx key 60).drop (4 * k)).take 4).take len = ((kx key 60).drop (4 * k)).take 4 := List.take_of_length_le (by rw [List.length_take]; omega)
  have ht : ((kx key 60).take (4 * k)).length = 4 * k := by rw [List.length_take]; omega
  have b1 : boxL.take (256 + 4 * k) = boxL := List.take_of_length_le (by rw [boxL_len]; omega)
  have b2 : boxL.drop (256 + 4 * k + 4) = [] := List.drop_eq_nil_of_le (by rw [boxL_len]; omega)
  have b3 : ((kx key 60).take (4 * k)).take (4 * k) = (kx key 60).take (4 * k) := List.take_of_length_le (by omega)
  have b4 : ((kx key 60).take (4 * k)).drop (4 * k + 4) = [] := List.drop_eq_nil_of_le (by omega)
  rw [hw, hw4]
  unfold cl
  rw [List.take_append, boxL_len, b1, show 256 + 4 * k - 256 = 4 * k by omega, List.take_append_of_le_length (by omega), b3,
    List.drop_append, boxL_len, b2, List.nil_append, show 256 + 4 * k + 4 - 256 = 4 * k + 4 by omega, List.drop_append, ht, b4, List.nil_append, List.drop_replicate,
    show 240 - 4 * k - (4 * k + 4 - 4 * k) = 240 - 4 * (k + 1) by omega, show 4 * (k + 1) = 4 * k + 4 by omega, List.take_add]
  simp only [List.append_assoc]
theorem wl_word {key : List (BitVec 8)} (hk : key.length = 32) {k j : Nat} (h : j < k) (hk6 : k ≤ 60) : ((wl key k).drop (j * 4)).take 4 = ((kx key k).drop (4 * j)).take 4 := by
  have h1 := kx_len hk k hk6
  unfold wl
  rw [List.drop_append_of_le_length (by omega), List.take_append_of_le_length (by simp; omega), Nat.mul_comm]
set_option maxHeartbeats 1000000 in
theorem new_ok (n off cap : Nat) (key : List (BitVec 8)) (M : List Blk) (K : SV → List Blk → Prop) (ha : BAt M n off key) (hl : key.length ≤ 140737488355000) (hcap : key.length ≤ cap)
    (h1 : key.length = 32 → K (.tup [.p M.length 0, .i .i64 0]) (M ++ [.row (bS (ciph key)) 124])) (h0 : key.length ≠ 32 → K (.tup [.pn, .i .i64 40]) M) :
    callVC Tryz.prog 51 [.sl n off key.length cap] M K := by
  refine fn_rule tabOK Tryz.func51 rfl Tryz.call51 (by kernel_rfl) (fun hM => ?_)
  (refine top_in ?_; simp -implicitDefEqProofs only [Tryz.ntmps51, Tryz.results51, go_sem, -List.reduceReplicate, ↓L_gdZ_tt, ↓L_gdZ_tf, ↓L_gdZ_ft, ↓L_gdZ_ff, ↓T_and, ↓T_imp, ↓T_all]; try simp only [top_out])
  refine ⟨fun h => dropC_self hM rfl (h0 ?_), fun h => ?_⟩
  · have := bneT h; omega
  · have hk : key.length = 32 := by have := bneF h; omega
    refine loop_code tabOK (by kernel_rfl) (fun i ts M' => ∃ k : Nat, k + i = 256 ∧ frC (some (.sl n off key.length cap) :: none :: none :: some (.i .i64 0) :: some (.p M.length 0) :: none :: none :: none :: none :: none :: none :: none :: none :: none :: none :: some (.i .i64 k) :: none :: none :: none :: none :: none :: none :: none :: none :: none :: none :: none :: none :: none :: none :: none :: none :: none :: none :: none :: none :: none :: none :: none :: none :: none :: none :: none :: none :: none :: none :: none :: none :: none :: none :: none :: none :: none :: none :: none :: none :: none :: none :: none :: none :: none :: none :: none :: none :: none :: none :: none :: none :: none :: none :: none :: none :: none :: none :: none :: none :: none :: []) ts ∧
      M' = M ++ [.row (bS (gl 496 fun j => if j < k then sbox (BitVec.ofNat 8 j) else 0#8)) 124]) 256 ?_ ?_
    · refine ⟨0, rfl, by simp [frC], ?_⟩
      simp only [Nat.not_lt_zero, if_false, gl_const]
    · rintro i ts _ ⟨k, hki, hf, rfl⟩
      obtain ⟨f, rfl⟩ := frC_open _ _ 0 hf
      clear hf
      (refine top_in ?_; simp -implicitDefEqProofs only [go_sem, -List.reduceReplicate, ↓L_gdZ_tt, ↓L_gdZ_tf, ↓L_gdZ_ft, ↓L_gdZ_ff, ↓T_and, ↓T_imp, ↓T_all]; try simp only [top_out])
      refine ⟨fun h => ?_, fun h => ?_⟩
      · have ek : BitVec.ofInt 8 (k : Int) = BitVec.ofNat 8 k := by rw [BitVec.ofInt_natCast]
        have es : (gl 496 fun j => if j < k then sbox (BitVec.ofNat 8 j) else 0#8).set k (sbox (BitVec.ofNat 8 k)) = gl 496 fun j => if j < k + 1 then sbox (BitVec.ofNat 8 j) else 0#8 := by
          rw [gl_set]
          refine gl_ext fun i hi => ?_
          split
          · subst_vars; rw [if_pos (by omega)]
          · split
            · rw [if_pos (by omega)]
            · rw [if_neg (by omega)]
        refine draw_rule tabOK (by kernel_rfl : _) (.p 0 (.p 1 (.p 2 (.p 3 (.p 5 (.p 6 (.e 4 [5, 6] (.p 7 (.e 8 [] .nil .no)) .no))))))) (by kernel_rfl) (by kernel_rfl) ?_
        (refine top_in ?_; simp -implicitDefEqProofs only [go_sem, -List.reduceReplicate, ↓L_gdZ_tt, ↓L_gdZ_tf, ↓L_gdZ_ft, ↓L_gdZ_ff, ↓T_and, ↓T_imp, ↓T_all, ek]; try simp only [top_out])
        repeat' (first | with_reducible refine And.intro ?_ ?_ | (with_reducible refine sbox_ok _ _ _ ?_; (refine top_in ?_; simp -implicitDefEqProofs only [go_sem, -List.reduceReplicate, ↓L_gdZ_tt, ↓L_gdZ_tf, ↓L_gdZ_ft, ↓L_gdZ_ff, ↓T_and, ↓T_imp, ↓T_all, ek, es]; try simp only [top_out])))
        all_goals first
          | omega
          | exact ⟨i - 1, by omega, k + 1, by omega, by rw [w64 (by omega) (by omega)]; rfl, rfl⟩
      · obtain rfl : k = 256 := by omega
        have e : (gl 496 fun j => if j < 256 then sbox (BitVec.ofNat 8 j) else 0#8) = box0 := by
          refine (gl_eq box0_len 0#8 fun j hj => ?_).symm
          unfold box0
          by_cases h8 : j < 256
          · rw [if_pos h8, List.getD_eq_getElem?_getD, List.getElem?_append_left (by rw [boxL_len]; exact h8), ← List.getD_eq_getElem?_getD]
            exact gl_getD h8 _
          · rw [if_neg h8, List.getD_eq_getElem?_getD, List.getElem?_append_right (by rw [boxL_len]; omega), List.getElem?_replicate]
            split <;> rfl
        rw [e]
        have hb := box0_len
        refine loop_code tabOK (by kernel_rfl) (fun i ts M' => ∃ k : Nat, k + i = 60 ∧ frC (some (.sl n off key.length cap) :: none :: none :: some (.i .i64 0) :: some (.p M.length 0) :: none :: some (.p (M.length + 1) 0) :: none :: none :: none :: none :: none :: none :: none :: none :: none :: none :: none :: none :: none :: none :: none :: none :: none :: none :: none :: none :: some (.i .i64 k) :: none :: none :: none :: none :: none :: none :: none :: none :: none :: none :: none :: none :: none :: none :: none :: none :: none :: none :: none :: none :: none :: none :: none :: none :: none :: none :: none :: none :: none :: none :: none :: none :: none :: none :: none :: none :: none :: none :: none :: none :: none :: none :: none :: none :: none :: none :: none :: none :: none :: []) ts ∧
          M' = M ++ [.row (bS box0) 124, .row (bS (wl key k)) 128]) 60 ?_ ?_
        · exact ⟨0, rfl, by simp [frC], rfl⟩
        · clear hki h f
          rintro i ts _ ⟨k, hki, hf, rfl⟩
          have hwl := wl_len hk k (by omega)
          obtain ⟨f, rfl⟩ := frC_open _ _ 0 hf
          clear hf
          (refine top_in ?_; simp -implicitDefEqProofs only [go_sem, -List.reduceReplicate, ↓L_gdZ_tt, ↓L_gdZ_tf, ↓L_gdZ_ft, ↓L_gdZ_ff, ↓T_and, ↓T_imp, ↓T_all, hb, hwl]; try simp only [top_out])
          refine ⟨fun h => ⟨fun h8 => ?_, fun h8 => ?_⟩, fun h => ?_⟩
          · have w4 : IntKind.i64.wrap (4 * (k : Int)) = ((4 * k : Nat) : Int) := by rw [w64 (by omega) (by omega)]; omega
            have w5 : IntKind.i64.wrap (((4 * k : Nat) : Int) + 4) = ((4 * k + 4 : Nat) : Int) := by rw [w64 (by omega) (by omega)]; omega
            have c0 : (cap = 4 * k) = False := by simp; omega
            have hs4 := ha.sub (a := 4 * k) (k := 4) (by omega)
            have l4 : ((key.drop (4 * k)).take 4).length = 4 := by simp; omega
            have hrd : List.take 4 (List.drop (off + 4 * k) (cellsB M[n]?)) = bS ((key.drop (4 * k)).take 4) := by
              have := hs4.cells; rwa [l4] at this
            have hle := ha.le (j := 4 * k + 4) (by omega)
            simp only [w4, w5, get_lt ha.lt, Int.toNat_natCast, c0, if_false, hrd]
            refine ⟨by omega, by omega, by omega, by omega, by omega, by omega, by omega, by omega, by omega, by rw [bS_length, l4], bS_one _, by omega, i - 1, by omega, k + 1, by omega, by rw [w64 (by omega) (by omega)]; rfl, ?_⟩
            rw [wl_splice hk (by omega) (by rw [kw, if_pos (by omega)])]
          · have w8 : IntKind.i64.wrap ((k : Int) - 8) = ((k - 8 : Nat) : Int) := by rw [w64 (by omega) (by omega)]; omega
            have w1 : IntKind.i64.wrap ((k : Int) - 1) = ((k - 1 : Nat) : Int) := by rw [w64 (by omega) (by omega)]; omega
            have t8 : ((wl key k).drop ((k - 8) * 4)).take 4 = ((kx key k).drop (4 * (k - 8))).take 4 := wl_word hk (by omega) (by omega)
            have t1 : ((wl key k).drop ((k - 1) * 4)).take 4 = ((kx key k).drop (4 * (k - 1))).take 4 := wl_word hk (by omega) (by omega)
            have l8 : (((kx key k).drop (4 * (k - 8))).take 4).length = 4 := by have := kx_len hk k (by omega); simp; omega
            have l1 : (((kx key k).drop (4 * (k - 1))).take 4).length = 4 := by have := kx_len hk k (by omega); simp; omega
            refine draw_rule tabOK (by kernel_rfl : _) (.p 0 (.p 1 (.p 2 (.p 3 (.p 4 (.p 5 (.p 6 (.p 7 (.p 8 (.p 9 (.p 10 (.e 11 [3, 4] (.e 12 [] (.p 13 (.e 14 [] .nil .no)) .no) .no)))))))))))) (by kernel_rfl) (by kernel_rfl) ?_
            (refine top_in ?_; simp -implicitDefEqProofs only [go_sem, -List.reduceReplicate, ↓L_gdZ_tt, ↓L_gdZ_tf, ↓L_gdZ_ft, ↓L_gdZ_ff, ↓T_and, ↓T_imp, ↓T_all, hb, hwl, w8, w1, t8, t1]; try simp only [top_out])
            refine ⟨by omega, by omega, by omega, by omega, by omega, by omega, by omega, by omega, ?_⟩
            refine turned_ok M.length box0 124 _ k _ _ (by rw [get_app0]; rfl) hb l1 (by omega) (by omega) ?_
            (refine top_in ?_; simp -implicitDefEqProofs only [go_sem, -List.reduceReplicate, ↓L_gdZ_tt, ↓L_gdZ_tf, ↓L_gdZ_ft, ↓L_gdZ_ff, ↓T_and, ↓T_imp, ↓T_all, hb, hwl, w8, w1, t8, t1]; try simp only [top_out])
            refine ⟨by omega, ?_⟩
            have lt4 := turnL_len (C := box0) l1 k
            refine sum_ok _ _ l8 lt4 _ _ ?_
            have l44 := sum4_len ((List.drop (4 * (k - 8)) (kx key k)).take 4) (turnL box0 ((List.drop (4 * (k - 1)) (kx key k)).take 4) k)
            have hkw : sum4 ((List.drop (4 * (k - 8)) (kx key k)).take 4) (turnL box0 ((List.drop (4 * (k - 1)) (kx key k)).take 4) k) = kw key (kx key k) k := by rw [kw, if_neg (by omega)]
            (refine top_in ?_; simp -implicitDefEqProofs only [go_sem, -List.reduceReplicate, ↓L_gdZ_tt, ↓L_gdZ_tf, ↓L_gdZ_ft, ↓L_gdZ_ff, ↓T_and, ↓T_imp, ↓T_all, hb, hwl, w8, w1, t8, t1, l44]; try simp only [top_out])
            refine ⟨by omega, by omega, by omega, by omega, i - 1, by omega, k + 1, by omega, by rw [w64 (by omega) (by omega)]; rfl, ?_⟩
            rw [wl_splice hk (by omega) hkw]
          · obtain rfl : k = 60 := by omega
            have hc0 : cl key 0 = box0 := rfl
            rw [← hc0]
            refine loop_gc tabOK (by kernel_rfl) (fun i ts M' => ∃ k : Nat, k + i = 60 ∧ frC (some (.sl n off key.length cap) :: none :: none :: some (.i .i64 0) :: some (.p M.length 0) :: none :: none :: none :: none :: none :: none :: none :: none :: none :: none :: none :: none :: none :: none :: none :: none :: none :: none :: none :: none :: none :: none :: none :: none :: none :: none :: none :: none :: none :: none :: none :: none :: none :: none :: none :: none :: none :: none :: none :: none :: none :: none :: none :: none :: none :: none :: none :: none :: none :: none :: none :: none :: none :: some (.agg (bS (wl key 60))) :: some (.i .i64 k) :: none :: none :: none :: none :: none :: none :: none :: none :: none :: none :: none :: none :: none :: none :: none :: none :: none :: []) ts ∧
              M' = M ++ [.row (bS (cl key k)) 124, .row (bS (wl key 60)) 128]) 60 ?_ ?_
            · exact covF_self ⟨0, rfl, by simp [frC], rfl⟩
            · clear hki h f
              rintro i ts _ ⟨k, hki, hf, rfl⟩
              have hcl := cl_len hk k (by omega)
              obtain ⟨f, rfl⟩ := frC_open _ _ 0 hf
              clear hf
              (refine top_in ?_; simp -implicitDefEqProofs only [go_sem, -List.reduceReplicate, ↓L_gdZ_tt, ↓L_gdZ_tf, ↓L_gdZ_ft, ↓L_gdZ_ff, ↓T_and, ↓T_imp, ↓T_all, hwl, hcl]; try simp only [top_out])
              refine ⟨fun h => ?_, fun h => ?_⟩
              · have q4 : (k : Int).tdiv 4 = ((k / 4 : Nat) : Int) := by rw [Int.tdiv_eq_ediv_of_nonneg (by omega)]; omega
                have r4 : (k : Int).tmod 4 = ((k % 4 : Nat) : Int) := by rw [Int.tmod_eq_emod_of_nonneg (by omega)]; omega
                have wq : IntKind.i64.wrap ((k / 4 : Nat) : Int) = ((k / 4 : Nat) : Int) := w64 (by omega) (by omega)
                have wr : IntKind.i64.wrap (4 * ((k % 4 : Nat) : Int)) = ((4 * (k % 4) : Nat) : Int) := by rw [w64 (by omega) (by omega)]; omega
                have lw : (((wl key 60).drop (k * 4)).take 4).length = 4 := by simp; omega
                rw [splice_all (by rw [bS_length, bS_length, lw, List.length_replicate])]
                refine ⟨by omega, by omega, by omega, lw, ?_⟩
                refine draw_rule tabOK (by kernel_rfl : _) (.p 0 (.p 1 (.p 2 (.p 3 (.p 4 (.p 5 (.p 6 (.p 7 (.p 8 (.p 9 (.p 10 (.e 11 [] .nil .no)))))))))))) (by kernel_rfl) (by kernel_rfl) ?_
                (refine top_in ?_; simp -implicitDefEqProofs only [go_sem, -List.reduceReplicate, ↓L_gdZ_tt, ↓L_gdZ_tf, ↓L_gdZ_ft, ↓L_gdZ_ff, ↓T_and, ↓T_imp, ↓T_all, hwl, hcl, q4, r4, wq, wr, lw]; try simp only [top_out])
                have c16 : (16 = 4 * (k % 4)) = False := by simp; omega
                have off4 : 256 + (k / 4 * 16 + 4 * (k % 4)) = 256 + 4 * k := by omega
                simp only [c16, if_false, off4]
                refine ⟨by omega, by omega, by omega, by omega, by omega, ?_⟩
                have hst := cl_step hk (k := k) (len := 16 - 4 * (k % 4)) (by omega) (by omega)
                have hmn : Nat.min (((wl key 60).drop (k * 4)).take 4).length (16 - 4 * (k % 4)) = 4 := by rw [lw]; exact Nat.min_eq_left (by omega)
                refine copy8 M.length (256 + 4 * k) (cl key k) (((wl key 60).drop (k * 4)).take 4) 124 rfl (by rw [get_app0]; rfl) (by omega) (src_row (z := []) (ty := 127) (by rw [get_app, List.append_nil]; rfl) lw.symm) ?_
                rw [hmn, hst]
                (refine top_in ?_; simp -implicitDefEqProofs only [go_sem, -List.reduceReplicate, ↓L_gdZ_tt, ↓L_gdZ_tf, ↓L_gdZ_ft, ↓L_gdZ_ff, ↓T_and, ↓T_imp, ↓T_all, hwl, hcl, q4, r4, wq, wr, lw, c16, if_false, off4]; try simp only [top_out])
                rw [w64 (x := (k : Int) + 1) (by omega) (by omega)]
                refine covF_gc hM [some 0, some 1] (some (.sl n off key.length cap) :: none :: none :: some (.i .i64 0) :: some (.p M.length 0) :: none :: none :: none :: none :: none :: none :: none :: none :: none :: none :: none :: none :: none :: none :: none :: none :: none :: none :: none :: none :: none :: none :: none :: none :: none :: none :: none :: none :: none :: none :: none :: none :: none :: none :: none :: none :: none :: none :: none :: none :: none :: none :: none :: none :: none :: none :: none :: none :: none :: none :: none :: none :: none :: some (.agg (bS (wl key 60))) :: some (.i .i64 ((k : Int) + 1)) :: none :: none :: none :: none :: none :: none :: none :: none :: none :: none :: none :: none :: none :: none :: none :: none :: none :: []) [.row (bS (cl key (k + 1))) 124, .row (bS (wl key 60)) 128] rfl ⟨keep8 rfl, keep8 rfl, trivial⟩ (by simp only [List.all_cons, List.all_nil, lt_row, Bool.and_true]) ?_ ?_ (fun ts' h => ⟨i - 1, by omega, k + 1, by omega, by simpa using h, rfl⟩)
                · simp only [Int.natCast_add, cast_lit, Nat.add_assoc, rnSl_n, frRn_nil, frRn_s, frRn_n, frLt_nil, frLt_s, frLt_n, rn_i, rn_u8, rn_u32, rn_u64, rn_b, rn_str, rn_sn, rn_pn, rn_agg, rn_tup, rnL_nil, rnL_cons, rn_bS, rn_nil, rn_sl_at, rn_sl_at0, rn_p_at, rn_p_at0, rnSl_s, rnP_s, lt_i, lt_u8, lt_u32, lt_u64, lt_b, lt_sl, lt_p, lt_agg, lt_tup, ltL_nil', ltL_cons, bS_lt, List.getElem?_cons_succ, List.getElem?_cons_zero, Option.join_some, Nat.add_zero, Nat.zero_add, implies_true, and_self, and_true, true_and, Bool.and_true, Bool.true_and, Bool.and_self, List.length_cons, List.length_nil, List.length_append, decide_eq_true_eq, Bool.and_eq_true, rn_sl ha.lt]
                · have := ha.lt
                  simp only [Int.natCast_add, cast_lit, Nat.add_assoc, rnSl_n, frRn_nil, frRn_s, frRn_n, frLt_nil, frLt_s, frLt_n, rn_i, rn_u8, rn_u32, rn_u64, rn_b, rn_str, rn_sn, rn_pn, rn_agg, rn_tup, rnL_nil, rnL_cons, rn_bS, rn_nil, rn_sl_at, rn_sl_at0, rn_p_at, rn_p_at0, rnSl_s, rnP_s, lt_i, lt_u8, lt_u32, lt_u64, lt_b, lt_sl, lt_p, lt_agg, lt_tup, ltL_nil', ltL_cons, bS_lt, List.getElem?_cons_succ, List.getElem?_cons_zero, Option.join_some, Nat.add_zero, Nat.zero_add, implies_true, and_self, and_true, true_and, Bool.and_true, Bool.true_and, Bool.and_self, List.length_cons, List.length_nil, List.length_append, decide_eq_true_eq, Bool.and_eq_true]; omega
              · obtain rfl : k = 60 := by omega
                have e60 : cl key 60 = ciph key := by
                  unfold cl ciph
                  rw [List.take_of_length_le (by rw [kx_len hk 60 (by omega)]; omega), show 240 - 4 * 60 = 0 from rfl, List.replicate_zero, List.append_nil]
                rw [e60]
                refine dropC_gc (L := [.row (bS (ciph key)) 124, .row (bS (wl key 60)) 128]) hM [some 0] (.tup [.p M.length 0, .i .i64 0]) [.row (bS (ciph key)) 124] rfl ⟨keep8 rfl, trivial⟩ (by simp [lt_row]) (by simp [SV.lt, ltL]) (fun ρ => ?_) (h1 hk)
                simp only [rn_tup, rnL_cons, rnL_nil, rn_p_at0, rn_i]
                rfl
end Go.Proofs.YtdkdbeamimkljaaGreatDoor.Eng
