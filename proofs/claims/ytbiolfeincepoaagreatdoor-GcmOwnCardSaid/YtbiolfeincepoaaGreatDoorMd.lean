/- Joined texts: A5, A6, A7, A8, Aq. -/
import Derived.Test.YtbiolfeincepoaaGreatDoorMc
namespace Go.Proofs.YtbiolfeincepoaaGreatDoor.Eng
set_option linter.unusedSimpArgs false
set_option linter.unusedVariables false
open Go Go.RowKit
def boxL : List (BitVec 8) := gl 256 fun j => sbox (BitVec.ofNat 8 j)
theorem boxL_len : boxL.length = 256 := gl_len
def box0 : List (BitVec 8) := boxL ++ List.replicate 240 0#8
theorem box0_len : box0.length = 496 := by unfold box0; rw [List.length_append, boxL_len, List.length_replicate]
def kw (key l : List (BitVec 8)) (i : Nat) : List (BitVec 8) := if i < 8 then (key.drop (4 * i)).take 4 else sum4 ((l.drop (4 * (i - 8))).take 4) (turnL box0 ((l.drop (4 * (i - 1))).take 4) i)
def kx (key : List (BitVec 8)) : Nat → List (BitVec 8)
  | 0 => []
  | i + 1 => kx key i ++ kw key (kx key i) i
theorem kx_len {key : List (BitVec 8)} (hk : key.length = 32) : ∀ i, i ≤ 60 → (kx key i).length = 4 * i
  | 0, _ => rfl
  | i + 1, h => by
    rw [kx, List.length_append, kx_len hk i (by omega)]
    unfold kw
    split
    · simp; omega
    · rw [sum4_len]; omega
def ciph (key : List (BitVec 8)) : List (BitVec 8) := boxL ++ kx key 60
theorem ciph_len {key : List (BitVec 8)} (hk : key.length = 32) : (ciph key).length = 496 := by unfold ciph; rw [List.length_append, boxL_len, kx_len hk 60 (by omega)]
def wl (key : List (BitVec 8)) (i : Nat) : List (BitVec 8) := kx key i ++ List.replicate (240 - 4 * i) 0#8
theorem wl_len {key : List (BitVec 8)} (hk : key.length = 32) (i : Nat) (h : i ≤ 60) : (wl key i).length = 240 := by unfold wl; rw [List.length_append, kx_len hk i h, List.length_replicate]; omega
theorem kw_len {key l : List (BitVec 8)} (hk : key.length = 32) (i : Nat) : (kw key l i).length = 4 := by
  unfold kw
  split
  · simp; omega
  · rw [sum4_len]
theorem wl_splice {key w : List (BitVec 8)} (hk : key.length = 32) {k : Nat} (h : k < 60) (hw : w = kw key (kx key k) k) : splice (bS (wl key k)) (k * 4) (bS w) = bS (wl key (k + 1)) := by
  have h1 := kx_len hk k (by omega)
  have h2 : w.length = 4 := by rw [hw]; exact kw_len hk k
  unfold splice
  rw [bS_take, bS_drop, bS_append, bS_append, bS_length, h2]
  congr 1
  unfold wl
  rw [List.take_append_of_le_length (by omega), List.take_of_length_le (by omega), List.drop_append, List.drop_eq_nil_of_le (by omega), List.nil_append, List.drop_replicate, h1, kx, ← hw, show 240 - 4 * k - (k * 4 + 4 - 4 * k) = 240 - 4 * (k + 1) by omega]
theorem turnL_len {C x : List (BitVec 8)} (hx : x.length = 4) (i : Nat) : (turnL C x i).length = 4 := by
  unfold turnL
  split
  · unfold rcL; rw [List.length_set]; exact gl_len
  · split
    · exact gl_len
    · exact hx
def cl (key : List (BitVec 8)) (k : Nat) : List (BitVec 8) := boxL ++ ((kx key 60).take (4 * k) ++ List.replicate (240 - 4 * k) 0#8)
theorem cl_len {key : List (BitVec 8)} (hk : key.length = 32) (k : Nat) (h : k ≤ 60) : (cl key k).length = 496 := by
  unfold cl; rw [List.length_append, List.length_append, boxL_len, List.length_take, kx_len hk 60 (by omega), List.length_replicate]; omega
theorem cl_step {key : List (BitVec 8)} (hk : key.length = 32) {k len : Nat} (h : k < 60) (hlen : 4 ≤ len) :
    (cl key k).take (256 + 4 * k) ++ (((wl key 60).drop (k * 4)).take 4).take len ++ (cl key k).drop (256 + 4 * k + 4) = cl key (k + 1) := by
  have h0 := kx_len hk 60 (by omega)
  have hw : ((wl key 60).drop (k * 4)).take 4 = ((kx key 60).drop (4 * k)).take 4 := by
    unfold wl; rw [show 240 - 4 * 60 = 0 from rfl, List.replicate_zero, List.append_nil, Nat.mul_comm]
  have hw4 : (((kx key 60).drop (4 * k)).take 4).take len = ((kx key 60).drop (4 * k)).take 4 := List.take_of_length_le (by rw [List.length_take]; omega)
  have ht : ((kx key 60).take (4 * k)).length = 4 * k := by rw [List.length_take]; omega
  have b1 : boxL.take (256 + 4 * k) = boxL := List.take_of_length_le (by rw [boxL_len]; omega)
  have b2 : boxL.drop (256 + 4 * k + 4) = [] := List.drop_eq_nil_of_le (by rw [boxL_len]; omega)
  have b3 : ((kx key 60).take (4 * k)).take (4 * k) = (kx key 60).take (4 * k) := List.take_of_length_le (by omega)
  have b4 : ((kx key 60).take (4 * k)).drop (4 * k + 4) = [] := List.drop_eq_nil_of_le (by omega)
  rw [hw, hw4]
  unfold cl
  rw [List.take_append, boxL_len, b1, show 256 + 4 * k - 256 = 4 * k by omega, List.take_append_of_le_length (by omega), b3,
    List.drop_append, boxL_len, b2, List.nil_append, show 256 + 4 * k + 4 - 256 = 4 * k + 4 by omega, List.drop_append, ht, b4, List.nil_append, List.drop_replicate,
    show 240 - 4 * k - (4 * k + 4 - 4 * k) = 240 - 4 * (k + 1) by omega, show 4 * (k + 1) = 4 * k + 4 by omega, List.take_add]
  simp only [List.append_assoc]
theorem wl_word {key : List (BitVec 8)} (hk : key.length = 32) {k j : Nat} (h : j < k) (hk6 : k ≤ 60) : ((wl key k).drop (j * 4)).take 4 = ((kx key k).drop (4 * j)).take 4 := by
  have h1 := kx_len hk k hk6
  unfold wl
  rw [List.drop_append_of_le_length (by omega), List.take_append_of_le_length (by simp; omega), Nat.mul_comm]
set_option maxHeartbeats 1000000 in
theorem new_ok (n off cap : Nat) (key : List (BitVec 8)) (M : List Blk) (K : SV → List Blk → Prop) (ha : BAt M n off key) (hl : key.length ≤ 140737488355000) (hcap : key.length ≤ cap)
    (h1 : key.length = 32 → K (.tup [.p M.length 0, .i .i64 0]) (M ++ [.row (bS (ciph key)) 74])) (h0 : key.length ≠ 32 → K (.tup [.pn, .i .i64 40]) M) :
    callVC Tryz.prog 16 [.sl n off key.length cap] M K := by
  refine fn_rule tabOK Tryz.func16 rfl Tryz.call16 (by kernel_rfl) (fun hM => ?_)
  (refine top_in ?_; simp -implicitDefEqProofs only [Tryz.ntmps16, Tryz.results16, go_sem, -List.reduceReplicate, ↓L_gdZ_tt, ↓L_gdZ_tf, ↓L_gdZ_ft, ↓L_gdZ_ff, ↓T_and, ↓T_imp, ↓T_all]; try simp only [top_out])
  refine ⟨fun h => dropC_self hM rfl (h0 ?_), fun h => ?_⟩
  · have := bneT h; omega
  · have hk : key.length = 32 := by have := bneF h; omega
    refine loop_code tabOK (by kernel_rfl) (fun i ts M' => ∃ k : Nat, k + i = 256 ∧ frC (some (.sl n off key.length cap) :: none :: none :: some (.i .i64 0) :: some (.p M.length 0) :: none :: none :: none :: none :: none :: none :: none :: none :: none :: none :: some (.i .i64 k) :: none :: none :: none :: none :: none :: none :: none :: none :: none :: none :: none :: none :: none :: none :: none :: none :: none :: none :: none :: none :: none :: none :: none :: none :: none :: none :: none :: none :: none :: none :: none :: none :: none :: none :: none :: none :: none :: none :: none :: none :: none :: none :: none :: none :: none :: none :: none :: none :: none :: none :: none :: none :: none :: none :: none :: none :: none :: none :: none :: none :: none :: []) ts ∧
      M' = M ++ [.row (bS (gl 496 fun j => if j < k then sbox (BitVec.ofNat 8 j) else 0#8)) 74]) 256 ?_ ?_
    · refine ⟨0, rfl, by simp [frC], ?_⟩
      simp only [Nat.not_lt_zero, if_false, gl_const]
    · rintro i ts _ ⟨k, hki, hf, rfl⟩
      obtain ⟨f, rfl⟩ := frC_open _ _ 0 hf
      clear hf
      (refine top_in ?_; simp -implicitDefEqProofs only [go_sem, -List.reduceReplicate, ↓L_gdZ_tt, ↓L_gdZ_tf, ↓L_gdZ_ft, ↓L_gdZ_ff, ↓T_and, ↓T_imp, ↓T_all]; try simp only [top_out])
      refine ⟨fun h => ?_, fun h => ?_⟩
      · have ek : BitVec.ofInt 8 (k : Int) = BitVec.ofNat 8 k := by rw [BitVec.ofInt_natCast]
        have es : (gl 496 fun j => if j < k then sbox (BitVec.ofNat 8 j) else 0#8).set k (sbox (BitVec.ofNat 8 k)) = gl 496 fun j => if j < k + 1 then sbox (BitVec.ofNat 8 j) else 0#8 := by
          rw [gl_set]
          refine gl_ext fun i hi => ?_
          split
          · subst_vars; rw [if_pos (by omega)]
          · split
            · rw [if_pos (by omega)]
            · rw [if_neg (by omega)]
        refine draw_rule tabOK (by kernel_rfl : _) (.p 0 (.p 1 (.p 2 (.p 3 (.p 5 (.p 6 (.e 4 [5, 6] (.p 7 (.e 8 [] .nil .no)) .no))))))) (by kernel_rfl) (by kernel_rfl) ?_
        (refine top_in ?_; simp -implicitDefEqProofs only [go_sem, -List.reduceReplicate, ↓L_gdZ_tt, ↓L_gdZ_tf, ↓L_gdZ_ft, ↓L_gdZ_ff, ↓T_and, ↓T_imp, ↓T_all, ek]; try simp only [top_out])
        repeat' (first | with_reducible refine And.intro ?_ ?_ | (with_reducible refine sbox_ok _ _ _ ?_; (refine top_in ?_; simp -implicitDefEqProofs only [go_sem, -List.reduceReplicate, ↓L_gdZ_tt, ↓L_gdZ_tf, ↓L_gdZ_ft, ↓L_gdZ_ff, ↓T_and, ↓T_imp, ↓T_all, ek, es]; try simp only [top_out])))
        all_goals first
          | omega
          | exact ⟨i - 1, by omega, k + 1, by omega, by rw [w64 (by omega) (by omega)]; rfl, rfl⟩
      · obtain rfl : k = 256 := by omega
        have e : (gl 496 fun j => if j < 256 then sbox (BitVec.ofNat 8 j) else 0#8) = box0 := by
          refine (gl_eq box0_len 0#8 fun j hj => ?_).symm
          unfold box0
          by_cases h8 : j < 256
          · rw [if_pos h8, List.getD_eq_getElem?_getD, List.getElem?_append_left (by rw [boxL_len]; exact h8), ← List.getD_eq_getElem?_getD]
            exact gl_getD h8 _
          · rw [if_neg h8, List.getD_eq_getElem?_getD, List.getElem?_append_right (by rw [boxL_len]; omega), List.getElem?_replicate]
            split <;> rfl
        rw [e]
        have hb := box0_len
        refine loop_code tabOK (by kernel_rfl) (fun i ts M' => ∃ k : Nat, k + i = 60 ∧ frC (some (.sl n off key.length cap) :: none :: none :: some (.i .i64 0) :: some (.p M.length 0) :: none :: some (.p (M.length + 1) 0) :: none :: none :: none :: none :: none :: none :: none :: none :: none :: none :: none :: none :: none :: none :: none :: none :: none :: none :: none :: none :: some (.i .i64 k) :: none :: none :: none :: none :: none :: none :: none :: none :: none :: none :: none :: none :: none :: none :: none :: none :: none :: none :: none :: none :: none :: none :: none :: none :: none :: none :: none :: none :: none :: none :: none :: none :: none :: none :: none :: none :: none :: none :: none :: none :: none :: none :: none :: none :: none :: none :: none :: none :: none :: []) ts ∧
          M' = M ++ [.row (bS box0) 74, .row (bS (wl key k)) 78]) 60 ?_ ?_
        · exact ⟨0, rfl, by simp [frC], rfl⟩
        · clear hki h f
          rintro i ts _ ⟨k, hki, hf, rfl⟩
          have hwl := wl_len hk k (by omega)
          obtain ⟨f, rfl⟩ := frC_open _ _ 0 hf
          clear hf
          (refine top_in ?_; simp -implicitDefEqProofs only [go_sem, -List.reduceReplicate, ↓L_gdZ_tt, ↓L_gdZ_tf, ↓L_gdZ_ft, ↓L_gdZ_ff, ↓T_and, ↓T_imp, ↓T_all, hb, hwl]; try simp only [top_out])
          refine ⟨fun h => ⟨fun h8 => ?_, fun h8 => ?_⟩, fun h => ?_⟩
          · have w4 : IntKind.i64.wrap (4 * (k : Int)) = ((4 * k : Nat) : Int) := by rw [w64 (by omega) (by omega)]; omega
            have w5 : IntKind.i64.wrap (((4 * k : Nat) : Int) + 4) = ((4 * k + 4 : Nat) : Int) := by rw [w64 (by omega) (by omega)]; omega
            have c0 : (cap = 4 * k) = False := by simp; omega
            have hs4 := ha.sub (a := 4 * k) (k := 4) (by omega)
            have l4 : ((key.drop (4 * k)).take 4).length = 4 := by simp; omega
            have hrd : List.take 4 (List.drop (off + 4 * k) (cellsB M[n]?)) = bS ((key.drop (4 * k)).take 4) := by
              have := hs4.cells; rwa [l4] at this
            have hle := ha.le (j := 4 * k + 4) (by omega)
            simp only [w4, w5, get_lt ha.lt, Int.toNat_natCast, c0, if_false, hrd]
            refine ⟨by omega, by omega, by omega, by omega, by omega, by omega, by omega, by omega, by omega, by rw [bS_length, l4], bS_one _, by omega, i - 1, by omega, k + 1, by omega, by rw [w64 (by omega) (by omega)]; rfl, ?_⟩
            rw [wl_splice hk (by omega) (by rw [kw, if_pos (by omega)])]
          · have w8 : IntKind.i64.wrap ((k : Int) - 8) = ((k - 8 : Nat) : Int) := by rw [w64 (by omega) (by omega)]; omega
            have w1 : IntKind.i64.wrap ((k : Int) - 1) = ((k - 1 : Nat) : Int) := by rw [w64 (by omega) (by omega)]; omega
            have t8 : ((wl key k).drop ((k - 8) * 4)).take 4 = ((kx key k).drop (4 * (k - 8))).take 4 := wl_word hk (by omega) (by omega)
            have t1 : ((wl key k).drop ((k - 1) * 4)).take 4 = ((kx key k).drop (4 * (k - 1))).take 4 := wl_word hk (by omega) (by omega)
            have l8 : (((kx key k).drop (4 * (k - 8))).take 4).length = 4 := by have := kx_len hk k (by omega); simp; omega
            have l1 : (((kx key k).drop (4 * (k - 1))).take 4).length = 4 := by have := kx_len hk k (by omega); simp; omega
            refine draw_rule tabOK (by kernel_rfl : _) (.p 0 (.p 1 (.p 2 (.p 3 (.p 4 (.p 5 (.p 6 (.p 7 (.p 8 (.p 9 (.p 10 (.e 11 [3, 4] (.e 12 [] (.p 13 (.e 14 [] .nil .no)) .no) .no)))))))))))) (by kernel_rfl) (by kernel_rfl) ?_
            (refine top_in ?_; simp -implicitDefEqProofs only [go_sem, -List.reduceReplicate, ↓L_gdZ_tt, ↓L_gdZ_tf, ↓L_gdZ_ft, ↓L_gdZ_ff, ↓T_and, ↓T_imp, ↓T_all, hb, hwl, w8, w1, t8, t1]; try simp only [top_out])
            refine ⟨by omega, by omega, by omega, by omega, by omega, by omega, by omega, by omega, ?_⟩
            refine turned_ok M.length box0 74 _ k _ _ (by rw [get_app0]; rfl) hb l1 (by omega) (by omega) ?_
            (refine top_in ?_; simp -implicitDefEqProofs only [go_sem, -List.reduceReplicate, ↓L_gdZ_tt, ↓L_gdZ_tf, ↓L_gdZ_ft, ↓L_gdZ_ff, ↓T_and, ↓T_imp, ↓T_all, hb, hwl, w8, w1, t8, t1]; try simp only [top_out])
            refine ⟨by omega, ?_⟩
            have lt4 := turnL_len (C := box0) l1 k
            refine sum_ok _ _ l8 lt4 _ _ ?_
            have l44 := sum4_len ((List.drop (4 * (k - 8)) (kx key k)).take 4) (turnL box0 ((List.drop (4 * (k - 1)) (kx key k)).take 4) k)
            have hkw : sum4 ((List.drop (4 * (k - 8)) (kx key k)).take 4) (turnL box0 ((List.drop (4 * (k - 1)) (kx key k)).take 4) k) = kw key (kx key k) k := by rw [kw, if_neg (by omega)]
            (refine top_in ?_; simp -implicitDefEqProofs only [go_sem, -List.reduceReplicate, ↓L_gdZ_tt, ↓L_gdZ_tf, ↓L_gdZ_ft, ↓L_gdZ_ff, ↓T_and, ↓T_imp, ↓T_all, hb, hwl, w8, w1, t8, t1, l44]; try simp only [top_out])
            refine ⟨by omega, by omega, by omega, by omega, i - 1, by omega, k + 1, by omega, by rw [w64 (by omega) (by omega)]; rfl, ?_⟩
            rw [wl_splice hk (by omega) hkw]
          · obtain rfl : k = 60 := by omega
            have hc0 : cl key 0 = box0 := rfl
            rw [← hc0]
            refine loop_gc tabOK (by kernel_rfl) (fun i ts M' => ∃ k : Nat, k + i = 60 ∧ frC (some (.sl n off key.length cap) :: none :: none :: some (.i .i64 0) :: some (.p M.length 0) :: none :: none :: none :: none :: none :: none :: none :: none :: none :: none :: none :: none :: none :: none :: none :: none :: none :: none :: none :: none :: none :: none :: none :: none :: none :: none :: none :: none :: none :: none :: none :: none :: none :: none :: none :: none :: none :: none :: none :: none :: none :: none :: none :: none :: none :: none :: none :: none :: none :: none :: none :: none :: none :: some (.agg (bS (wl key 60))) :: some (.i .i64 k) :: none :: none :: none :: none :: none :: none :: none :: none :: none :: none :: none :: none :: none :: none :: none :: none :: none :: []) ts ∧
              M' = M ++ [.row (bS (cl key k)) 74, .row (bS (wl key 60)) 78]) 60 ?_ ?_
            · exact covF_self ⟨0, rfl, by simp [frC], rfl⟩
            · clear hki h f
              rintro i ts _ ⟨k, hki, hf, rfl⟩
              have hcl := cl_len hk k (by omega)
              obtain ⟨f, rfl⟩ := frC_open _ _ 0 hf
              clear hf
              (refine top_in ?_; simp -implicitDefEqProofs only [go_sem, -List.reduceReplicate, ↓L_gdZ_tt, ↓L_gdZ_tf, ↓L_gdZ_ft, ↓L_gdZ_ff, ↓T_and, ↓T_imp, ↓T_all, hwl, hcl]; try simp only [top_out])
              refine ⟨fun h => ?_, fun h => ?_⟩
              · have q4 : (k : Int).tdiv 4 = ((k / 4 : Nat) : Int) := by rw [Int.tdiv_eq_ediv_of_nonneg (by omega)]; omega
                have r4 : (k : Int).tmod 4 = ((k % 4 : Nat) : Int) := by rw [Int.tmod_eq_emod_of_nonneg (by omega)]; omega
                have wq : IntKind.i64.wrap ((k / 4 : Nat) : Int) = ((k / 4 : Nat) : Int) := w64 (by omega) (by omega)
                have wr : IntKind.i64.wrap (4 * ((k % 4 : Nat) : Int)) = ((4 * (k % 4) : Nat) : Int) := by rw [w64 (by omega) (by omega)]; omega
                have lw : (((wl key 60).drop (k * 4)).take 4).length = 4 := by simp; omega
                rw [splice_all (by rw [bS_length, bS_length, lw, List.length_replicate])]
                refine ⟨by omega, by omega, by omega, lw, ?_⟩
                refine draw_rule tabOK (by kernel_rfl : _) (.p 0 (.p 1 (.p 2 (.p 3 (.p 4 (.p 5 (.p 6 (.p 7 (.p 8 (.p 9 (.p 10 (.e 11 [] .nil .no)))))))))))) (by kernel_rfl) (by kernel_rfl) ?_
                (refine top_in ?_; simp -implicitDefEqProofs only [go_sem, -List.reduceReplicate, ↓L_gdZ_tt, ↓L_gdZ_tf, ↓L_gdZ_ft, ↓L_gdZ_ff, ↓T_and, ↓T_imp, ↓T_all, hwl, hcl, q4, r4, wq, wr, lw]; try simp only [top_out])
                have c16 : (16 = 4 * (k % 4)) = False := by simp; omega
                have off4 : 256 + (k / 4 * 16 + 4 * (k % 4)) = 256 + 4 * k := by omega
                simp only [c16, if_false, off4]
                refine ⟨by omega, by omega, by omega, by omega, by omega, ?_⟩
                have hst := cl_step hk (k := k) (len := 16 - 4 * (k % 4)) (by omega) (by omega)
                have hmn : Nat.min (((wl key 60).drop (k * 4)).take 4).length (16 - 4 * (k % 4)) = 4 := by rw [lw]; exact Nat.min_eq_left (by omega)
                refine copy8 M.length (256 + 4 * k) (cl key k) (((wl key 60).drop (k * 4)).take 4) 74 rfl (by rw [get_app0]; rfl) (by omega) (src_row (z := []) (ty := 77) (by rw [get_app, List.append_nil]; rfl) lw.symm) ?_
                rw [hmn, hst]
                (refine top_in ?_; simp -implicitDefEqProofs only [go_sem, -List.reduceReplicate, ↓L_gdZ_tt, ↓L_gdZ_tf, ↓L_gdZ_ft, ↓L_gdZ_ff, ↓T_and, ↓T_imp, ↓T_all, hwl, hcl, q4, r4, wq, wr, lw, c16, if_false, off4]; try simp only [top_out])
                rw [w64 (x := (k : Int) + 1) (by omega) (by omega)]
                refine covF_gc hM [some 0, some 1] (some (.sl n off key.length cap) :: none :: none :: some (.i .i64 0) :: some (.p M.length 0) :: none :: none :: none :: none :: none :: none :: none :: none :: none :: none :: none :: none :: none :: none :: none :: none :: none :: none :: none :: none :: none :: none :: none :: none :: none :: none :: none :: none :: none :: none :: none :: none :: none :: none :: none :: none :: none :: none :: none :: none :: none :: none :: none :: none :: none :: none :: none :: none :: none :: none :: none :: none :: none :: some (.agg (bS (wl key 60))) :: some (.i .i64 ((k : Int) + 1)) :: none :: none :: none :: none :: none :: none :: none :: none :: none :: none :: none :: none :: none :: none :: none :: none :: none :: []) [.row (bS (cl key (k + 1))) 74, .row (bS (wl key 60)) 78] rfl ⟨keep8 rfl, keep8 rfl, trivial⟩ (by simp only [List.all_cons, List.all_nil, lt_row, Bool.and_true]) ?_ ?_ (fun ts' h => ⟨i - 1, by omega, k + 1, by omega, by simpa using h, rfl⟩)
                · simp only [Int.natCast_add, cast_lit, Nat.add_assoc, rnSl_n, frRn_nil, frRn_s, frRn_n, frLt_nil, frLt_s, frLt_n, rn_i, rn_u8, rn_u32, rn_u64, rn_b, rn_str, rn_sn, rn_pn, rn_agg, rn_tup, rnL_nil, rnL_cons, rn_bS, rn_nil, rn_sl_at, rn_sl_at0, rn_p_at, rn_p_at0, rnSl_s, rnP_s, lt_i, lt_u8, lt_u32, lt_u64, lt_b, lt_sl, lt_p, lt_agg, lt_tup, ltL_nil', ltL_cons, bS_lt, List.getElem?_cons_succ, List.getElem?_cons_zero, Option.join_some, Nat.add_zero, Nat.zero_add, implies_true, and_self, and_true, true_and, Bool.and_true, Bool.true_and, Bool.and_self, List.length_cons, List.length_nil, List.length_append, decide_eq_true_eq, Bool.and_eq_true, rn_sl ha.lt]
                · have := ha.lt
                  simp only [Int.natCast_add, cast_lit, Nat.add_assoc, rnSl_n, frRn_nil, frRn_s, frRn_n, frLt_nil, frLt_s, frLt_n, rn_i, rn_u8, rn_u32, rn_u64, rn_b, rn_str, rn_sn, rn_pn, rn_agg, rn_tup, rnL_nil, rnL_cons, rn_bS, rn_nil, rn_sl_at, rn_sl_at0, rn_p_at, rn_p_at0, rnSl_s, rnP_s, lt_i, lt_u8, lt_u32, lt_u64, lt_b, lt_sl, lt_p, lt_agg, lt_tup, ltL_nil', ltL_cons, bS_lt, List.getElem?_cons_succ, List.getElem?_cons_zero, Option.join_some, Nat.add_zero, Nat.zero_add, implies_true, and_self, and_true, true_and, Bool.and_true, Bool.true_and, Bool.and_self, List.length_cons, List.length_nil, List.length_append, decide_eq_true_eq, Bool.and_eq_true]; omega
              · obtain rfl : k = 60 := by omega
                have e60 : cl key 60 = ciph key := by
                  unfold cl ciph
                  rw [List.take_of_length_le (by rw [kx_len hk 60 (by omega)]; omega), show 240 - 4 * 60 = 0 from rfl, List.replicate_zero, List.append_nil]
                rw [e60]
                refine dropC_gc (L := [.row (bS (ciph key)) 74, .row (bS (wl key 60)) 78]) hM [some 0] (.tup [.p M.length 0, .i .i64 0]) [.row (bS (ciph key)) 74] rfl ⟨keep8 rfl, trivial⟩ (by simp [lt_row]) (by simp [SV.lt, ltL]) (fun ρ => ?_) (h1 hk)
                simp only [rn_tup, rnL_cons, rnL_nil, rn_p_at0, rn_i]
                rfl
def keyR (C : List (BitVec 8)) (r : Nat) : List (BitVec 8) := (C.drop (512 + 16 * r)).take 16
theorem keyR_getD {C : List (BitVec 8)} {r j : Nat} (hj : j < 16) : (keyR C r).getD j 0#8 = C.getD (512 + 16 * r + j) 0#8 := by
  unfold keyR
  rw [List.getD_eq_getElem?_getD, List.getElem?_take_of_lt hj, List.getElem?_drop, ← List.getD_eq_getElem?_getD]
theorem refkeyed_ok (m : Nat) (C : List (BitVec 8)) (ty : TypeId) (x : List (BitVec 8)) (r : Nat) (M : List Blk) (K : SV → List Blk → Prop) (hC : M[m]? = some (.row (bS C) ty)) (hCl : C.length = 752) (hx : x.length = 16) (hr : r < 15)
    (hK : K (.agg (bS (xorL x (keyR C r)))) M) : callVC Tryz.prog 149 [.p m 0, .agg (bS x), .i .i64 r] M K := by
  have hm : m < M.length := (List.getElem?_eq_some_iff.1 hC).1
  have wr : IntKind.i64.wrap (16 * (r : Int)) = ((16 * r : Nat) : Int) := by rw [w64 (by omega) (by omega)]; omega
  refine fn_rule tabOK Tryz.func149 rfl Tryz.call149 (by kernel_rfl) (fun hM => ?_)
  (refine top_in ?_; simp -implicitDefEqProofs only [Tryz.ntmps149, Tryz.results149, go_sem, -List.reduceReplicate, ↓L_gdZ_tt, ↓L_gdZ_tf, ↓L_gdZ_ft, ↓L_gdZ_ff, ↓T_and, ↓T_imp, ↓T_all, hx]; try simp only [top_out])
  refine loop_code tabOK (by kernel_rfl) (fun n ts M' => ∃ (k : Nat), k + n = 16 ∧ frC [some (.p m 0), none, some (.i .i64 r), none, some (.p M.length 0), none, some (.p (M.length + 1) 0), some (.i .i64 k), none, none, none, none, none, none, none, none, none, none, none, none, none, none, none, none, none, none, none, none] ts ∧
     M' = M ++ [.row (bS (gl 16 fun j => if j < k then x.getD j 0#8 ^^^ (keyR C r).getD j 0#8 else x.getD j 0#8)) 61, .row (bS (List.replicate 16 0#8)) 61]) 16 ?_ ?_
  · refine ⟨0, rfl, by simp [frC], ?_⟩
    simp only [Nat.not_lt_zero, if_false]
    rw [← gl_self hx]
  · rintro n ts _ ⟨k, hk, hf, rfl⟩
    obtain ⟨f, rfl⟩ := frC_open _ _ 0 hf
    clear hf
    (refine top_in ?_; simp -implicitDefEqProofs only [go_sem, -List.reduceReplicate, ↓L_gdZ_tt, ↓L_gdZ_tf, ↓L_gdZ_ft, ↓L_gdZ_ff, ↓T_and, ↓T_imp, ↓T_all, get_lt hm, hC, hCl, hx, wr]; try simp only [top_out])
    refine ⟨fun h => ?_, fun h => ?_⟩
    · have wk : IntKind.i64.wrap (((16 * r : Nat) : Int) + (k : Int)) = ((16 * r + k : Nat) : Int) := by rw [w64 (by omega) (by omega)]; omega
      refine draw_rule tabOK (by kernel_rfl : _) (.p 0 (.p 1 (.p 2 (.p 3 (.p 4 (.p 5 (.p 6 (.p 7 (.p 8 (.p 9 (.p 10 (.p 11 (.p 12 (.p 13 (.p 14 (.e 15 [] .nil .no)))))))))))))))) (by kernel_rfl) (by kernel_rfl) ?_
      (refine top_in ?_; simp -implicitDefEqProofs only [go_sem, -List.reduceReplicate, ↓L_gdZ_tt, ↓L_gdZ_tf, ↓L_gdZ_ft, ↓L_gdZ_ff, ↓T_and, ↓T_imp, ↓T_all, get_lt hm, hC, hCl, hx, wr, wk]; try simp only [top_out])
      repeat' refine And.intro ?_ ?_
      any_goals omega
      refine ⟨n - 1, by omega, k + 1, by omega, by rw [w64 (by omega) (by omega)]; rfl, ?_⟩
      rw [gl_set, gl_getD (by omega), if_neg (by omega), show 512 + (16 * r + k) = 512 + 16 * r + k by omega, ← keyR_getD (by omega)]
      refine congrArg (fun l => M ++ [Blk.row (bS l) 61, Blk.row (bS (List.replicate 16 0#8)) 61]) (gl_ext fun i hi => ?_)
      split
      · subst_vars; rw [if_pos (by omega)]
      · split
        · rw [if_pos (by omega)]
        · rw [if_neg (by omega)]
    · obtain rfl : k = 16 := by omega
      refine dropC_append hM (bS_lt _ _) ?_
      have : (gl 16 fun j => if j < 16 then x.getD j 0#8 ^^^ (keyR C r).getD j 0#8 else x.getD j 0#8) = xorL x (keyR C r) := gl_ext fun i hi => if_pos hi
      rw [this]
      exact hK
theorem refturned_ok (m : Nat) (C : List (BitVec 8)) (ty : TypeId) (x : List (BitVec 8)) (M : List Blk) (K : SV → List Blk → Prop) (hC : M[m]? = some (.row (bS C) ty)) (hCl : C.length = 752) (hx : x.length = 16)
    (hK : K (.agg (bS (shiftL C x))) M) : callVC Tryz.prog 150 [.p m 0, .agg (bS x)] M K := by
  have hm : m < M.length := (List.getElem?_eq_some_iff.1 hC).1
  refine fn_rule tabOK Tryz.func150 rfl Tryz.call150 (by kernel_rfl) (fun hM => ?_)
  (refine top_in ?_; simp -implicitDefEqProofs only [Tryz.ntmps150, Tryz.results150, go_sem, -List.reduceReplicate, ↓L_gdZ_tt, ↓L_gdZ_tf, ↓L_gdZ_ft, ↓L_gdZ_ff, ↓T_and, ↓T_imp, ↓T_all, hx]; try simp only [top_out])
  refine loop_code tabOK (by kernel_rfl) (fun n ts M' => ∃ (c : Nat), c + n = 4 ∧ frC [some (.p m 0), none, none, some (.p M.length 0), some (.p (M.length + 1) 0), some (.p (M.length + 2) 0), some (.i .i64 c), none, none, none, none, none, none, none, none, none, none, none, none, none, none, none, none, none, none, none, none, none, none, none, none, none, none, none, none, none] ts ∧
     M' = M ++ [.row (bS x) 61, .row (bS (List.replicate 16 0#8)) 61, .row (bS (gl 16 fun j => if j < 4 * c then (shiftL C x).getD j 0#8 else 0#8)) 61]) 4 ?_ ?_
  · refine ⟨0, rfl, by simp [frC], ?_⟩
    simp only [Nat.mul_zero, Nat.not_lt_zero, if_false, gl_const]
  · rintro n ts _ ⟨c, hc, hf, rfl⟩
    have wc : c < 4 → IntKind.i64.wrap (4 * (c : Int)) = ((4 * c : Nat) : Int) := fun h => by rw [w64 (by omega) (by omega)]; omega
    obtain ⟨f, rfl⟩ := frC_open _ _ 0 hf
    clear hf
    (refine top_in ?_; simp -implicitDefEqProofs only [go_sem, -List.reduceReplicate, ↓L_gdZ_tt, ↓L_gdZ_tf, ↓L_gdZ_ft, ↓L_gdZ_ff, ↓T_and, ↓T_imp, ↓T_all, get_lt hm, hC, hCl, hx]; try simp only [top_out])
    refine ⟨fun h => ?_, fun h => ?_⟩
    · refine loop_code tabOK (by kernel_rfl) (fun i ts M' => ∃ (k : Nat), k + i = 4 ∧ frC [some (.p m 0), none, none, some (.p M.length 0), some (.p (M.length + 1) 0), some (.p (M.length + 2) 0), some (.i .i64 c), some (.i .i64 k), none, none, none, none, none, none, none, none, none, none, none, none, none, none, none, none, none, none, none, none, none, none, none, none, none, none, none, none] ts ∧
        M' = M ++ [.row (bS x) 61, .row (bS (List.replicate 16 0#8)) 61, .row (bS (gl 16 fun j => if j < 4 * c + k then (shiftL C x).getD j 0#8 else 0#8)) 61]) 4 ?_ ?_
      · exact ⟨0, rfl, by simp [frC], rfl⟩
      · rintro i ts _ ⟨k, hk, hf, rfl⟩
        obtain ⟨f, rfl⟩ := frC_open _ _ 0 hf
        clear hf
        (refine top_in ?_; simp -implicitDefEqProofs only [go_sem, -List.reduceReplicate, ↓L_gdZ_tt, ↓L_gdZ_tf, ↓L_gdZ_ft, ↓L_gdZ_ff, ↓T_and, ↓T_imp, ↓T_all, get_lt hm, hC, hCl, hx]; try simp only [top_out])
        refine ⟨fun h => ?_, fun h => ?_⟩
        · have a1 : IntKind.i64.wrap (4 * (c : Int)) = ((4 * c : Nat) : Int) := by rw [w64 (by omega) (by omega)]; omega
          have a2 : IntKind.i64.wrap (((4 * c : Nat) : Int) + (k : Int)) = ((4 * c + k : Nat) : Int) := by rw [w64 (by omega) (by omega)]; omega
          have a3 : (IntKind.i64.wrap ((c : Int) + (k : Int))).tmod 4 = (((c + k) % 4 : Nat) : Int) := by rw [w64 (by omega) (by omega), Int.tmod_eq_emod_of_nonneg (by omega)]; omega
          have a4 : IntKind.i64.wrap (4 * (((c + k) % 4 : Nat) : Int)) = ((4 * ((c + k) % 4) : Nat) : Int) := by rw [w64 (by omega) (by omega)]; omega
          have a5 : IntKind.i64.wrap (((4 * ((c + k) % 4) : Nat) : Int) + (k : Int)) = ((4 * ((c + k) % 4) + k : Nat) : Int) := by rw [w64 (by omega) (by omega)]; omega
          have h256 := BitVec.isLt (x.getD (4 * ((c + k) % 4) + k) 0#8)
          have g0 : (shiftL C x).getD (4 * c + k) 0#8 = C.getD (x.getD (4 * ((c + k) % 4) + k) 0#8).toNat 0#8 := by
            have : (shiftL C x).getD (4 * c + k) 0#8 = C.getD (x.getD (4 * (((4 * c + k) / 4 + (4 * c + k) % 4) % 4) + (4 * c + k) % 4) 0#8).toNat 0#8 := gl_getD (by omega) _
            rw [this, show (4 * c + k) / 4 = c by omega, show (4 * c + k) % 4 = k by omega]
          refine draw_rule tabOK (by kernel_rfl : _) (.p 0 (.p 1 (.p 2 (.p 3 (.p 4 (.p 5 (.p 6 (.p 7 (.p 8 (.p 9 (.p 10 (.p 11 (.p 12 (.p 13 (.p 14 (.p 15 (.p 16 (.p 17 (.p 18 (.e 19 [] .nil .no)))))))))))))))))))) (by kernel_rfl) (by kernel_rfl) ?_
          (refine top_in ?_; simp -implicitDefEqProofs only [go_sem, -List.reduceReplicate, ↓L_gdZ_tt, ↓L_gdZ_tf, ↓L_gdZ_ft, ↓L_gdZ_ff, ↓T_and, ↓T_imp, ↓T_all, get_lt hm, hC, hCl, hx, a1, a2, a3, a4, a5]; try simp only [top_out])
          repeat' refine And.intro ?_ ?_
          any_goals omega
          refine ⟨i - 1, by omega, k + 1, by omega, by rw [w64 (by omega) (by omega)]; rfl, ?_⟩
          rw [← g0, gl_set]
          refine congrArg (fun l => M ++ [Blk.row (bS x) 61, Blk.row (bS (List.replicate 16 0#8)) 61, Blk.row (bS l) 61]) (gl_ext fun i hi => ?_)
          split
          · subst_vars; rw [if_pos (by omega)]
          · split
            · rw [if_pos (by omega)]
            · rw [if_neg (by omega)]
        · obtain rfl : k = 4 := by omega
          exact ⟨n - 1, by omega, c + 1, by omega, by rw [w64 (by omega) (by omega)]; rfl, rfl⟩
    · obtain rfl : c = 4 := by omega
      refine dropC_append hM (bS_lt _ _) ?_
      have : (gl 16 fun j => if j < 4 * 4 then (shiftL C x).getD j 0#8 else 0#8) = shiftL C x := by
        conv => rhs; rw [gl_self (shiftL_len C x) 0#8]
        exact gl_ext fun i hi => if_pos (by omega)
      rw [this]
      exact hK
theorem mul3 (a : BitVec 8) : mul8L 8 3#8 a 0#8 = mul8L 8 2#8 a 0#8 ^^^ a := all8 (p := fun a => mul8L 8 3#8 a 0#8 = mul8L 8 2#8 a 0#8 ^^^ a) (by decide +kernel) a
theorem take4_getD {x : List (BitVec 8)} {c k : Nat} (hk : k < 4) : ((x.drop (4 * c)).take 4).getD k 0#8 = x.getD (4 * c + k) 0#8 := by
  rw [List.getD_eq_getElem?_getD, List.getElem?_take_of_lt hk, List.getElem?_drop, ← List.getD_eq_getElem?_getD]
theorem mix_getD {x : List (BitVec 8)} {c k : Nat} (hc : c < 4) (hk : k < 4) : (mixK x 4).getD (4 * c + k) 0#8 =
    mul8L 8 2#8 (x.getD (4 * c + k) 0#8) 0#8 ^^^ mul8L 8 2#8 (x.getD (4 * c + (k + 1) % 4) 0#8) 0#8 ^^^ x.getD (4 * c + (k + 1) % 4) 0#8 ^^^ x.getD (4 * c + (k + 2) % 4) 0#8 ^^^ x.getD (4 * c + (k + 3) % 4) 0#8 := by
  have h1 : (mixK x 4).getD (4 * c + k) 0#8 = (mixL ((x.drop (4 * ((4 * c + k) / 4))).take 4)).getD ((4 * c + k) % 4) 0#8 := by
    unfold mixK; rw [gl_getD (by omega), if_pos (by omega)]
  rw [h1, show (4 * c + k) / 4 = c by omega, show (4 * c + k) % 4 = k by omega]
  unfold mixL
  rw [gl_getD hk, take4_getD hk, take4_getD (by omega), take4_getD (by omega), take4_getD (by omega), mul3, BitVec.xor_assoc (mul8L 8 2#8 _ 0#8) (mul8L 8 2#8 _ 0#8 ^^^ _), BitVec.xor_assoc (mul8L 8 2#8 _ 0#8) (mul8L 8 2#8 _ 0#8)]
  simp only [BitVec.xor_assoc]
set_option maxHeartbeats 1000000 in
theorem refmixed_ok (m : Nat) (C : List (BitVec 8)) (ty : TypeId) (x : List (BitVec 8)) (M : List Blk) (K : SV → List Blk → Prop) (hC : M[m]? = some (.row (bS C) ty)) (hCl : C.length = 752) (hx : x.length = 16)
    (hT : ∀ v : BitVec 8, C.getD (256 + v.toNat) 0#8 = mul8L 8 2#8 v 0#8)
    (hK : K (.agg (bS (mixK x 4))) M) : callVC Tryz.prog 151 [.p m 0, .agg (bS x)] M K := by
  have hm : m < M.length := (List.getElem?_eq_some_iff.1 hC).1
  refine fn_rule tabOK Tryz.func151 rfl Tryz.call151 (by kernel_rfl) (fun hM => ?_)
  (refine top_in ?_; simp -implicitDefEqProofs only [Tryz.ntmps151, Tryz.results151, go_sem, -List.reduceReplicate, ↓L_gdZ_tt, ↓L_gdZ_tf, ↓L_gdZ_ft, ↓L_gdZ_ff, ↓T_and, ↓T_imp, ↓T_all, hx]; try simp only [top_out])
  refine loop_code tabOK (by kernel_rfl) (fun n ts M' => ∃ (c : Nat), c + n = 4 ∧ frC (some (.p m 0) :: none :: none :: some (.p M.length 0) :: some (.p (M.length + 1) 0) :: some (.p (M.length + 2) 0) :: some (.i .i64 c) :: none :: none :: none :: none :: none :: none :: none :: none :: none :: none :: none :: none :: none :: none :: none :: none :: none :: none :: none :: none :: none :: none :: none :: none :: none :: none :: none :: none :: none :: none :: none :: none :: none :: none :: none :: none :: none :: none :: none :: none :: none :: none :: none :: none :: none :: none :: none :: none :: none :: none :: none :: none :: none :: none :: none :: none :: none :: none :: none :: none :: none :: none :: none :: none :: []) ts ∧
     M' = M ++ [.row (bS x) 61, .row (bS (List.replicate 16 0#8)) 61, .row (bS (gl 16 fun j => if j < 4 * c then (mixK x 4).getD j 0#8 else 0#8)) 61]) 4 ?_ ?_
  · refine ⟨0, rfl, by simp [frC], ?_⟩
    simp only [Nat.mul_zero, Nat.not_lt_zero, if_false, gl_const]
  · rintro n ts _ ⟨c, hc, hf, rfl⟩
    obtain ⟨f, rfl⟩ := frC_open _ _ 0 hf
    clear hf
    (refine top_in ?_; simp -implicitDefEqProofs only [go_sem, -List.reduceReplicate, ↓L_gdZ_tt, ↓L_gdZ_tf, ↓L_gdZ_ft, ↓L_gdZ_ff, ↓T_and, ↓T_imp, ↓T_all, get_lt hm, hC, hCl, hx]; try simp only [top_out])
    refine ⟨fun h => ?_, fun h => ?_⟩
    · have a1 : IntKind.i64.wrap (4 * (c : Int)) = ((4 * c : Nat) : Int) := by rw [w64 (by omega) (by omega)]; omega
      refine loop_code tabOK (by kernel_rfl) (fun i ts M' => ∃ (k : Nat), k + i = 4 ∧ frC (some (.p m 0) :: none :: none :: some (.p M.length 0) :: some (.p (M.length + 1) 0) :: some (.p (M.length + 2) 0) :: some (.i .i64 c) :: some (.i .i64 k) :: none :: none :: none :: none :: none :: none :: none :: none :: none :: none :: none :: none :: none :: none :: none :: none :: none :: none :: none :: none :: none :: none :: none :: none :: none :: none :: none :: none :: none :: none :: none :: none :: none :: none :: none :: none :: none :: none :: none :: none :: none :: none :: none :: none :: none :: none :: none :: none :: none :: none :: none :: none :: none :: none :: none :: none :: none :: none :: none :: none :: none :: none :: none :: []) ts ∧
        M' = M ++ [.row (bS x) 61, .row (bS (List.replicate 16 0#8)) 61, .row (bS (gl 16 fun j => if j < 4 * c + k then (mixK x 4).getD j 0#8 else 0#8)) 61]) 4 ?_ ?_
      · exact ⟨0, rfl, by simp [frC], rfl⟩
      · rintro i ts _ ⟨k, hk, hf, rfl⟩
        have a3 : ∀ a : Nat, a ≤ 3 → k < 4 → (IntKind.i64.wrap ((k : Int) + (a : Int))).tmod 4 = (((k + a) % 4 : Nat) : Int) := fun a ha hk => by rw [w64 (by omega) (by omega), Int.tmod_eq_emod_of_nonneg (by omega)]; omega
        have b1 := a3 1 (by omega)
        have b2 := a3 2 (by omega)
        have b3 := a3 3 (by omega)
        simp only [Int.cast_ofNat_Int] at b1 b2 b3
        by_cases hk4 : k < 4
        · have b1 := b1 hk4
          have b2 := b2 hk4
          have b3 := b3 hk4
          have a2 : ∀ q : Nat, q ≤ 3 → IntKind.i64.wrap (((4 * c : Nat) : Int) + (q : Int)) = ((4 * c + q : Nat) : Int) := fun q hq => by rw [w64 (by omega) (by omega)]; omega
          have c0 := a2 k (by omega)
          have c1 := a2 ((k + 1) % 4) (by omega)
          have c2 := a2 ((k + 2) % 4) (by omega)
          have c3 := a2 ((k + 3) % 4) (by omega)
          have hlt : ((k : Int) < 4) = True := by simp; omega
          have v1 := BitVec.isLt (x.getD (4 * c + k) 0#8)
          have v2 := BitVec.isLt (x.getD (4 * c + (k + 1) % 4) 0#8)
          have g0 := mix_getD (x := x) (c := c) (k := k) (by omega) hk4
          obtain ⟨f, rfl⟩ := frC_open _ _ 0 hf
          clear hf
          (refine top_in ?_; simp -implicitDefEqProofs only [go_sem, -List.reduceReplicate, ↓L_gdZ_tt, ↓L_gdZ_tf, ↓L_gdZ_ft, ↓L_gdZ_ff, ↓T_and, ↓T_imp, ↓T_all, get_lt hm, hC, hCl, hx, hlt, a1, b1, b2, b3, c0, c1, c2, c3]; try simp only [top_out])
          refine ⟨by omega, by omega, by omega, by omega, by omega, by omega, by omega, by omega, ?_⟩
          refine draw_rule tabOK (by kernel_rfl : _) (.p 0 (.p 1 (.p 2 (.p 3 (.p 4 (.p 5 (.p 6 (.p 7 (.p 8 (.p 9 (.p 10 (.p 11 (.p 12 (.p 13 (.p 14 (.p 15 (.p 16 (.p 17 (.p 18 (.p 19 (.p 20 (.p 21 (.p 22 (.p 23 (.p 24 (.p 25 (.p 26 (.p 27 (.p 28 (.p 29 (.p 30 (.p 31 (.p 32 (.p 33 (.p 34 (.p 35 (.p 36 (.p 37 (.e 38 [] .nil .no))))))))))))))))))))))))))))))))))))))) (by kernel_rfl) (by kernel_rfl) ?_
          (refine top_in ?_; simp -implicitDefEqProofs only [go_sem, -List.reduceReplicate, ↓L_gdZ_tt, ↓L_gdZ_tf, ↓L_gdZ_ft, ↓L_gdZ_ff, ↓T_and, ↓T_imp, ↓T_all, get_lt hm, hC, hCl, hx, hlt, a1, b1, b2, b3, c0, c1, c2, c3, hT]; try simp only [top_out])
          repeat' refine And.intro ?_ ?_
          any_goals omega
          refine ⟨i - 1, by omega, k + 1, by omega, by rw [w64 (by omega) (by omega)]; rfl, ?_⟩
          rw [← g0, gl_set]
          refine congrArg (fun l => M ++ [Blk.row (bS x) 61, Blk.row (bS (List.replicate 16 0#8)) 61, Blk.row (bS l) 61]) (gl_ext fun i hi => ?_)
          split
          · subst_vars; rw [if_pos (by omega)]
          · split
            · rw [if_pos (by omega)]
            · rw [if_neg (by omega)]
        · have hlt : ((k : Int) < 4) = False := by simp; omega
          obtain rfl : k = 4 := by omega
          obtain ⟨f, rfl⟩ := frC_open _ _ 0 hf
          clear hf
          (refine top_in ?_; simp -implicitDefEqProofs only [go_sem, -List.reduceReplicate, ↓L_gdZ_tt, ↓L_gdZ_tf, ↓L_gdZ_ft, ↓L_gdZ_ff, ↓T_and, ↓T_imp, ↓T_all, hlt]; try simp only [top_out])
          exact ⟨n - 1, by omega, c + 1, by omega, by rw [w64 (by omega) (by omega)]; rfl, rfl⟩
    · obtain rfl : c = 4 := by omega
      refine dropC_append hM (bS_lt _ _) ?_
      have : (gl 16 fun j => if j < 4 * 4 then (mixK x 4).getD j 0#8 else 0#8) = mixK x 4 := by
        conv => rhs; rw [gl_self (mixK_len x 4) 0#8]
        exact gl_ext fun i hi => if_pos (by omega)
      rw [this]
      exact hK
def refR (C b : List (BitVec 8)) (r : Nat) : List (BitVec 8) := xorL (if r < 14 then mixK (shiftL C b) 4 else shiftL C b) (keyR C r)
def refN4 (C x : List (BitVec 8)) : Nat → List (BitVec 8)
  | 0 => xorL x (keyR C 0)
  | k + 1 => refR C (refN4 C x k) (k + 1)
theorem refN4_len (C x : List (BitVec 8)) : ∀ k, (refN4 C x k).length = 16
  | 0 => xorL_len _ _
  | _ + 1 => xorL_len _ _
set_option maxHeartbeats 1000000 in
theorem refblock_ok (m : Nat) (C : List (BitVec 8)) (ty : TypeId) (x : List (BitVec 8)) (M : List Blk) (K : SV → List Blk → Prop) (hC : M[m]? = some (.row (bS C) ty)) (hCl : C.length = 752) (hx : x.length = 16)
    (hT : ∀ v : BitVec 8, C.getD (256 + v.toNat) 0#8 = mul8L 8 2#8 v 0#8)
    (hK : K (.agg (bS (refN4 C x 14))) M) : callVC Tryz.prog 92 [.p m 0, .agg (bS x)] M K := by
  have hm : m < M.length := (List.getElem?_eq_some_iff.1 hC).1
  have hC' : ∀ L : List Blk, (M ++ L)[m]? = some (.row (bS C) ty) := fun L => by rw [get_lt hm]; exact hC
  refine fn_rule tabOK Tryz.func92 rfl Tryz.call92 (by kernel_rfl) (fun hM => ?_)
  (refine top_in ?_; simp -implicitDefEqProofs only [Tryz.ntmps92, Tryz.results92, go_sem, -List.reduceReplicate, ↓L_gdZ_tt, ↓L_gdZ_tf, ↓L_gdZ_ft, ↓L_gdZ_ff, ↓T_and, ↓T_imp, ↓T_all, hx]; try simp only [top_out])
  refine refkeyed_ok m C ty x 0 _ _ (hC' _) hCl hx (by omega) ?_
  have x0 := xorL_len x (keyR C 0)
  (refine top_in ?_; simp -implicitDefEqProofs only [go_sem, -List.reduceReplicate, ↓L_gdZ_tt, ↓L_gdZ_tf, ↓L_gdZ_ft, ↓L_gdZ_ff, ↓T_and, ↓T_imp, ↓T_all, hx, x0]; try simp only [top_out])
  refine loop_code tabOK (by kernel_rfl) (fun n ts M' => ∃ (k : Nat), k + n = 14 ∧ frC [some (.p m 0), none, none, some (.p M.length 0), some (.p (M.length + 1) 0), some (.p (M.length + 2) 0), some (.i .i64 (k + 1 : Nat)), none, none, none, none, none, none, none, none, none, none, none, none, none, none, none, none, none, none, none, none] ts ∧
    M' = M ++ [.row (bS x) 61, .row (bS (List.replicate 16 0#8)) 61, .row (bS (refN4 C x k)) 61]) 14 ?_ ?_
  · exact ⟨0, rfl, by simp [frC], rfl⟩
  · rintro n ts _ ⟨k, hk, hf, rfl⟩
    have hb := refN4_len C x k
    generalize hs : refN4 C x k = b at hb
    obtain ⟨f, rfl⟩ := frC_open _ _ 0 hf
    clear hf
    (refine top_in ?_; simp -implicitDefEqProofs only [go_sem, -List.reduceReplicate, ↓L_gdZ_tt, ↓L_gdZ_tf, ↓L_gdZ_ft, ↓L_gdZ_ff, ↓T_and, ↓T_imp, ↓T_all, hx, hb]; try simp only [top_out])
    refine ⟨fun h => ?_, fun h => ?_⟩
    · have hsl := shiftL_len C b
      refine refturned_ok m C ty b _ _ (hC' _) hCl hb ?_
      (refine top_in ?_; simp -implicitDefEqProofs only [go_sem, -List.reduceReplicate, ↓L_gdZ_tt, ↓L_gdZ_tf, ↓L_gdZ_ft, ↓L_gdZ_ff, ↓T_and, ↓T_imp, ↓T_all, hx, hb, hsl]; try simp only [top_out])
      have wk := w64 (x := ((k + 1 : Nat) : Int) + 1) (by omega) (by omega)
      refine ⟨fun h14 => ?_, fun h14 => ?_⟩
      · have hml := mixK_len (shiftL C b) 4
        refine refmixed_ok m C ty (shiftL C b) _ _ (hC' _) hCl hsl hT ?_
        (refine top_in ?_; simp -implicitDefEqProofs only [go_sem, -List.reduceReplicate, ↓L_gdZ_tt, ↓L_gdZ_tf, ↓L_gdZ_ft, ↓L_gdZ_ff, ↓T_and, ↓T_imp, ↓T_all, hx, hb, hsl, hml]; try simp only [top_out])
        refine refkeyed_ok m C ty (mixK (shiftL C b) 4) (k + 1) _ _ (hC' _) hCl hml (by omega) ?_
        have hxl := xorL_len (mixK (shiftL C b) 4) (keyR C (k + 1))
        (refine top_in ?_; simp -implicitDefEqProofs only [go_sem, -List.reduceReplicate, ↓L_gdZ_tt, ↓L_gdZ_tf, ↓L_gdZ_ft, ↓L_gdZ_ff, ↓T_and, ↓T_imp, ↓T_all, hx, hb, hsl, hml, hxl]; try simp only [top_out])
        refine ⟨n - 1, by omega, k + 1, by omega, by rw [wk]; rfl, ?_⟩
        have : refN4 C x (k + 1) = xorL (mixK (shiftL C b) 4) (keyR C (k + 1)) := by
          rw [← hs]; show xorL (if k + 1 < 14 then _ else _) _ = _; rw [if_pos (by omega)]
        rw [this]
      · refine refkeyed_ok m C ty (shiftL C b) (k + 1) _ _ (hC' _) hCl hsl (by omega) ?_
        have hxl := xorL_len (shiftL C b) (keyR C (k + 1))
        (refine top_in ?_; simp -implicitDefEqProofs only [go_sem, -List.reduceReplicate, ↓L_gdZ_tt, ↓L_gdZ_tf, ↓L_gdZ_ft, ↓L_gdZ_ff, ↓T_and, ↓T_imp, ↓T_all, hx, hb, hsl, hxl]; try simp only [top_out])
        refine ⟨n - 1, by omega, k + 1, by omega, by rw [wk]; rfl, ?_⟩
        have : refN4 C x (k + 1) = xorL (shiftL C b) (keyR C (k + 1)) := by
          rw [← hs]; show xorL (if k + 1 < 14 then _ else _) _ = _; rw [if_neg (by omega)]
        rw [this]
    · obtain rfl : k = 14 := by omega
      subst hs
      exact dropC_append hM (bS_lt _ _) hK
def forceB {α : Type} (l : List (BitVec 8)) (f : List (BitVec 8) → α) : α := forceL (l.map BitVec.toNat) fun r => f (r.map (BitVec.ofNat 8))
theorem forceB_eq {α : Type} (l : List (BitVec 8)) (f : List (BitVec 8) → α) : forceB l f = f l := by
  unfold forceB
  rw [forceL_eq, List.map_map]
  congr 1
  conv => rhs; rw [← List.map_id l]
  exact List.map_congr_left fun a _ => by simp
def kwB (box key l : List (BitVec 8)) (i : Nat) : List (BitVec 8) := if i < 8 then (key.drop (4 * i)).take 4 else sum4 ((l.drop (4 * (i - 8))).take 4) (turnL box ((l.drop (4 * (i - 1))).take 4) i)
def evalK {α : Type} (box key : List (BitVec 8)) : Nat → Nat → List (BitVec 8) → (List (BitVec 8) → α) → α
  | 0, _, l, f => f l
  | n + 1, i, l, f => forceB (l ++ kwB box key l i) fun l' => evalK box key n (i + 1) l' f
theorem evalK_eq {α : Type} (key : List (BitVec 8)) (f : List (BitVec 8) → α) : ∀ n i, evalK box0 key n i (kx key i) f = f (kx key (i + n))
  | 0, _ => rfl
  | n + 1, i => by
    rw [evalK, forceB_eq, show i + (n + 1) = (i + 1) + n by omega, ← evalK_eq key f n (i + 1)]
    rfl
def evalA {α : Type} (C : List (BitVec 8)) : Nat → Nat → List (BitVec 8) → (List (BitVec 8) → α) → α
  | 0, _, b, f => f b
  | n + 1, k, b, f => forceB (shiftL C b) fun s => forceB (xorL (if k + 1 < 14 then mixK s 4 else s) (keyAt C (k + 1))) fun b' => evalA C n (k + 1) b' f
theorem evalA_eq {α : Type} (C x : List (BitVec 8)) (f : List (BitVec 8) → α) : ∀ n k, evalA C n k (aesN C x k) f = f (aesN C x (k + n))
  | 0, _ => rfl
  | n + 1, k => by
    rw [evalA, forceB_eq, forceB_eq, show k + (n + 1) = (k + 1) + n by omega, ← evalA_eq C x f n (k + 1)]
    rfl
end Go.Proofs.YtbiolfeincepoaaGreatDoor.Eng
