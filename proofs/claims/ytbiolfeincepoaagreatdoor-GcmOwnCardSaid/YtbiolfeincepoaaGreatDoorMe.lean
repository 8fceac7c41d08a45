/- Joined texts: Ad, Ae, Ap. -/
import Derived.Test.YtbiolfeincepoaaGreatDoorMd
namespace Go.Proofs.YtbiolfeincepoaaGreatDoor.Eng
set_option linter.unusedSimpArgs false
set_option linter.unusedVariables false
open Go Go.RowKit
def twoL : List (BitVec 8) := gl 256 fun j => mul8L 8 2#8 (BitVec.ofNat 8 j) 0#8
theorem twoL_len : twoL.length = 256 := gl_len
def rl (key : List (BitVec 8)) (i : Nat) : List (BitVec 8) := boxL ++ (twoL ++ wl key i)
theorem rl_len {key : List (BitVec 8)} (hk : key.length = 32) (i : Nat) (h : i ≤ 60) : (rl key i).length = 752 := by
  unfold rl; rw [List.length_append, List.length_append, boxL_len, twoL_len, wl_len hk i h]
def ciphR (key : List (BitVec 8)) : List (BitVec 8) := rl key 60
theorem kx_8 {key : List (BitVec 8)} (hk : key.length = 32) : kx key 8 = key := by
  have h : ∀ i, i ≤ 8 → kx key i = key.take (4 * i) := by
    intro i
    induction i with
    | zero => intro _; rfl
    | succ i ih =>
      intro hi
      rw [kx, ih (by omega), kw, if_pos (by omega), show 4 * (i + 1) = 4 * i + 4 by omega, List.take_add]
  rw [h 8 (Nat.le_refl _), List.take_of_length_le (by omega)]
theorem turnL_congr {C C' x : List (BitVec 8)} {i : Nat} (h : ∀ v : BitVec 8, C.getD v.toNat 0#8 = C'.getD v.toNat 0#8) : turnL C x i = turnL C' x i := by
  have hs : ∀ y, subL C y = subL C' y := fun y => gl_ext fun j _ => h _
  unfold turnL
  rw [hs, hs]
theorem box_getD {l : List (BitVec 8)} (v : BitVec 8) : (boxL ++ l).getD v.toNat 0#8 = boxL.getD v.toNat 0#8 := by
  have := BitVec.isLt v
  rw [List.getD_eq_getElem?_getD, List.getElem?_append_left (by rw [boxL_len]; omega), ← List.getD_eq_getElem?_getD]
def pw (i : Nat) : BitVec 8 := 1#8 <<< ((i - 1) / 8)
theorem pw_next {i : Nat} (h8 : i % 8 = 0) (h1 : 8 ≤ i) (h2 : i < 60) : ref8 (pw i) 2#8 = pw (i + 1) := by
  obtain ⟨j, rfl⟩ : ∃ j, i = 8 * j := ⟨i / 8, by omega⟩
  rcases (by omega : j = 1 ∨ j = 2 ∨ j = 3 ∨ j = 4 ∨ j = 5 ∨ j = 6 ∨ j = 7) with rfl | rfl | rfl | rfl | rfl | rfl | rfl <;> decide +kernel
theorem pw_same {i : Nat} (h8 : i % 8 ≠ 0) : pw i = pw (i + 1) := by unfold pw; congr 1; omega
theorem pw_turn {i : Nat} (h8 : i % 8 = 0) (h1 : 8 ≤ i) : pw i = 1#8 <<< (i / 8 - 1) := by unfold pw; congr 1; omega
theorem kx_pre {key : List (BitVec 8)} (hk : key.length = 32) {i : Nat} : ∀ d, i + d ≤ 60 → (kx key (i + d)).take (4 * i) = kx key i
  | 0, h => List.take_of_length_le (by rw [Nat.add_zero, kx_len hk i (by omega)]; omega)
  | d + 1, h => by
    have hl := kx_len hk (i + d) (by omega)
    rw [← Nat.add_assoc, kx, List.take_append_of_le_length (by omega)]
    exact kx_pre hk d (by omega)
theorem kx_getD {key : List (BitVec 8)} (hk : key.length = 32) {i j : Nat} (hi : i ≤ 60) (hj : j < 4 * i) : (kx key 60).getD j 0#8 = (kx key i).getD j 0#8 := by
  have h := kx_pre hk (i := i) (60 - i) (by omega)
  rw [show i + (60 - i) = 60 by omega] at h
  rw [← h, List.getD_eq_getElem?_getD, List.getD_eq_getElem?_getD, List.getElem?_take_of_lt hj]
theorem wl_60 (key : List (BitVec 8)) : wl key 60 = kx key 60 := by unfold wl; rw [show 240 - 4 * 60 = 0 from rfl, List.replicate_zero, List.append_nil]
theorem F_getD {key : List (BitVec 8)} (j : Nat) : (ciphR key).getD (512 + j) 0#8 = (kx key 60).getD j 0#8 := by
  unfold ciphR rl
  rw [List.getD_eq_getElem?_getD, List.getElem?_append_right (by rw [boxL_len]; omega), List.getElem?_append_right (by rw [boxL_len, twoL_len]; omega), boxL_len, twoL_len, show 512 + j - 256 - 256 = j by omega, wl_60, ← List.getD_eq_getElem?_getD]
theorem F_key {key : List (BitVec 8)} (hk : key.length = 32) {j : Nat} (hj : j < 32) : (ciphR key).getD (512 + j) 0#8 = key.getD j 0#8 := by
  rw [F_getD, kx_getD hk (i := 8) (by omega) (by omega), kx_8 hk]
def fw (key : List (BitVec 8)) (i : Nat) : List (BitVec 8) := gl 4 fun k => (ciphR key).getD (512 + (4 * i - 4 + k)) 0#8
theorem F_word {key : List (BitVec 8)} (hk : key.length = 32) {i k : Nat} (h8 : 8 ≤ i) (hi : i < 60) (hk4 : k < 4) :
    (ciphR key).getD (512 + (4 * i + k)) 0#8 = (ciphR key).getD (512 + (4 * i - 32 + k)) 0#8 ^^^ (turnL box0 (fw key i) i).getD k 0#8 := by
  have hl := kx_len hk i (by omega)
  have h1 : (kx key (i + 1)).getD (4 * i + k) 0#8 = (kw key (kx key i) i).getD k 0#8 := by
    rw [kx, List.getD_eq_getElem?_getD, List.getElem?_append_right (by omega), hl, show 4 * i + k - 4 * i = k by omega, ← List.getD_eq_getElem?_getD]
  have h2 : fw key i = ((kx key i).drop (4 * (i - 1))).take 4 := by
    symm
    refine gl_eq (by simp; omega) 0#8 fun j hj => ?_
    rw [List.getD_eq_getElem?_getD, List.getElem?_take_of_lt hj, List.getElem?_drop, ← List.getD_eq_getElem?_getD, F_getD, kx_getD hk (i := i) (by omega) (by omega), show 4 * (i - 1) + j = 4 * i - 4 + j by omega]
  rw [F_getD, kx_getD hk (i := i + 1) (by omega) (by omega), h1, kw, if_neg (by omega), sum4, gl_getD hk4, F_getD, kx_getD hk (i := i) (by omega) (by omega), h2]
  congr 1
  rw [List.getD_eq_getElem?_getD, List.getElem?_take_of_lt hk4, List.getElem?_drop, ← List.getD_eq_getElem?_getD, show 4 * (i - 8) + k = 4 * i - 32 + k by omega]
def pf (key : List (BitVec 8)) (p : Nat) : List (BitVec 8) := gl 752 fun j => if j < p then (ciphR key).getD j 0#8 else 0#8
theorem pf_len (key : List (BitVec 8)) (p : Nat) : (pf key p).length = 752 := gl_len
theorem pf_getD {key : List (BitVec 8)} {p j : Nat} (h : j < p) (hj : j < 752) : (pf key p).getD j 0#8 = (ciphR key).getD j 0#8 := by unfold pf; rw [gl_getD hj, if_pos h]
theorem pf_set {key : List (BitVec 8)} {p : Nat} {v : BitVec 8} (h : v = (ciphR key).getD p 0#8) : (pf key p).set p v = pf key (p + 1) := by
  subst h
  unfold pf
  rw [gl_set]
  refine gl_ext fun i hi => ?_
  split
  · subst_vars; rw [if_pos (by omega)]
  · split
    · rw [if_pos (by omega)]
    · rw [if_neg (by omega)]
theorem pf_all {key : List (BitVec 8)} (hk : key.length = 32) : pf key 752 = ciphR key := by
  conv => rhs; rw [gl_self (show (ciphR key).length = 752 from rl_len hk 60 (Nat.le_refl _)) 0#8]
  exact gl_ext fun i hi => if_pos hi
theorem F_box {key : List (BitVec 8)} {j : Nat} (hj : j < 256) : (ciphR key).getD j 0#8 = sbox (BitVec.ofNat 8 j) := by
  unfold ciphR rl
  rw [List.getD_eq_getElem?_getD, List.getElem?_append_left (by rw [boxL_len]; omega), ← List.getD_eq_getElem?_getD]
  exact gl_getD hj _
theorem F_two {key : List (BitVec 8)} {j : Nat} (hj : j < 256) : (ciphR key).getD (256 + j) 0#8 = mul8L 8 2#8 (BitVec.ofNat 8 j) 0#8 := by
  unfold ciphR rl
  rw [List.getD_eq_getElem?_getD, List.getElem?_append_right (by rw [boxL_len]; omega), boxL_len, show 256 + j - 256 = j by omega, List.getElem?_append_left (by rw [twoL_len]; omega), ← List.getD_eq_getElem?_getD]
  exact gl_getD hj _
def pg (key : List (BitVec 8)) (a b : Nat) : List (BitVec 8) := gl 752 fun j => if j < a ∨ (256 ≤ j ∧ j < 256 + b) then (ciphR key).getD j 0#8 else 0#8
theorem pg_a {key : List (BitVec 8)} {a b : Nat} {v : BitVec 8} (h : v = (ciphR key).getD a 0#8) : (pg key a b).set a v = pg key (a + 1) b := by
  subst h
  unfold pg
  rw [gl_set]
  refine gl_ext fun i hi => ?_
  by_cases e : i = a
  · subst e; rw [if_pos rfl, if_pos (.inl (by omega))]
  · rw [if_neg e]
    by_cases h : i < a ∨ (256 ≤ i ∧ i < 256 + b)
    · rw [if_pos h, if_pos (by omega)]
    · rw [if_neg h, if_neg (by omega)]
theorem pg_b {key : List (BitVec 8)} {a b : Nat} {v : BitVec 8} (h : v = (ciphR key).getD (256 + b) 0#8) : (pg key a b).set (256 + b) v = pg key a (b + 1) := by
  subst h
  unfold pg
  rw [gl_set]
  refine gl_ext fun i hi => ?_
  by_cases e : i = 256 + b
  · subst e; rw [if_pos rfl, if_pos (.inr (by omega))]
  · rw [if_neg e]
    by_cases h : i < a ∨ (256 ≤ i ∧ i < 256 + b)
    · rw [if_pos h, if_pos (by omega)]
    · rw [if_neg h, if_neg (by omega)]
theorem pg_pf {key : List (BitVec 8)} : pg key 256 256 = pf key 512 := gl_ext fun i hi => by
  by_cases h : i < 512
  · rw [if_pos (by omega), if_pos h]
  · rw [if_neg (by omega), if_neg h]
theorem rot4_set {x : List (BitVec 8)} (h : x.length = 4) : (((x.set 0 (x.getD 1 0#8)).set 1 ((x.set 0 (x.getD 1 0#8)).getD 2 0#8)).set 2 (((x.set 0 (x.getD 1 0#8)).set 1 ((x.set 0 (x.getD 1 0#8)).getD 2 0#8)).getD 3 0#8)).set 3 (x.getD 0 0#8) = rotL x := by
  match x, h with
  | [a, b, c, d], _ => rfl
set_option maxRecDepth 20000 in
set_option maxHeartbeats 4000000 in
theorem refnew_ok (n off cap : Nat) (key : List (BitVec 8)) (M : List Blk) (K : SV → List Blk → Prop) (ha : BAt M n off key) (hl : key.length ≤ 140737488355000) (hcap : key.length ≤ cap)
    (h1 : key.length = 32 → K (.tup [.p M.length 0, .i .i64 0]) (M ++ [.row (bS (ciphR key)) 93])) (h0 : key.length ≠ 32 → K (.tup [.pn, .i .i64 40]) M) :
    callVC Tryz.prog 22 [.sl n off key.length cap] M K := by
  refine fn_rule tabOK Tryz.func22 rfl Tryz.call22 (by kernel_rfl) (fun hM => ?_)
  (refine top_in ?_; simp -implicitDefEqProofs only [Tryz.ntmps22, Tryz.results22, go_sem, -List.reduceReplicate, ↓L_gdZ_tt, ↓L_gdZ_tf, ↓L_gdZ_ft, ↓L_gdZ_ff, ↓T_and, ↓T_imp, ↓T_all]; try simp only [top_out])
  refine ⟨fun h => dropC_self hM rfl (h0 ?_), fun h => ?_⟩
  · have := bneT h; omega
  · have hk : key.length = 32 := by have := bneF h; omega
    refine loop_code tabOK (by kernel_rfl) (fun i ts M' => ∃ k : Nat, k + i = 256 ∧ frC (some (.sl n off key.length cap) :: none :: none :: some (.i .i64 0) :: some (.p M.length 0) :: some (.i .i64 k) :: none :: none :: none :: none :: none :: none :: none :: none :: none :: none :: none :: none :: none :: none :: none :: none :: none :: none :: none :: none :: none :: none :: none :: none :: none :: none :: none :: none :: none :: none :: none :: none :: none :: none :: none :: none :: none :: none :: none :: none :: none :: none :: none :: none :: none :: none :: none :: none :: none :: none :: none :: none :: none :: none :: none :: none :: none :: none :: none :: none :: none :: none :: none :: none :: none :: none :: none :: none :: none :: none :: none :: none :: none :: none :: none :: none :: none :: none :: none :: none :: none :: none :: none :: none :: none :: none :: none :: none :: none :: none :: none :: none :: none :: none :: none :: none :: none :: none :: none :: none :: none :: none :: none :: none :: none :: none :: none :: none :: none :: none :: none :: none :: none :: none :: none :: none :: none :: none :: none :: none :: none :: none :: none :: none :: none :: none :: none :: none :: none :: none :: none :: none :: none :: none :: none :: none :: []) ts ∧
      M' = M ++ [.row (bS (pg key k k)) 93]) 256 ?_ ?_
    · refine ⟨0, rfl, by simp [frC], ?_⟩
      have : pg key 0 0 = List.replicate 752 0#8 := by
        unfold pg; rw [← gl_const]; exact gl_ext fun i hi => if_neg (by omega)
      rw [this]
    · rintro i ts _ ⟨k, hki, hf, rfl⟩
      have hpl : ∀ a b, (pg key a b).length = 752 := fun a b => gl_len
      obtain ⟨f, rfl⟩ := frC_open _ _ 0 hf
      clear hf
      (refine top_in ?_; simp -implicitDefEqProofs only [go_sem, -List.reduceReplicate, ↓L_gdZ_tt, ↓L_gdZ_tf, ↓L_gdZ_ft, ↓L_gdZ_ff, ↓T_and, ↓T_imp, ↓T_all, hpl]; try simp only [top_out])
      refine ⟨fun h => ?_, fun h => ?_⟩
      · have ek : BitVec.ofInt 8 (k : Int) = BitVec.ofNat 8 k := by rw [BitVec.ofInt_natCast]
        have s1 := pg_a (key := key) (a := k) (b := k) (F_box (key := key) (by omega : k < 256)).symm
        have s2 := pg_b (key := key) (a := k + 1) (b := k) (F_two (key := key) (by omega : k < 256)).symm
        have m2 : ref8 2#8 (BitVec.ofNat 8 k) = mul8L 8 2#8 (BitVec.ofNat 8 k) 0#8 := (mul8_ref _ _).symm
        refine draw_rule tabOK (by kernel_rfl : _) (.p 0 (.p 1 (.p 2 (.p 3 (.p 5 (.p 6 (.e 4 [5, 6] (.p 7 (.e 8 [] .nil .no)) .no))))))) (by kernel_rfl) (by kernel_rfl) ?_
        (refine top_in ?_; simp -implicitDefEqProofs only [go_sem, -List.reduceReplicate, ↓L_gdZ_tt, ↓L_gdZ_tf, ↓L_gdZ_ft, ↓L_gdZ_ff, ↓T_and, ↓T_imp, ↓T_all, ek, hpl]; try simp only [top_out])
        refine refsbox_ok _ _ _ ?_
        (refine top_in ?_; simp -implicitDefEqProofs only [go_sem, -List.reduceReplicate, ↓L_gdZ_tt, ↓L_gdZ_tf, ↓L_gdZ_ft, ↓L_gdZ_ff, ↓T_and, ↓T_imp, ↓T_all, ek, hpl, s1]; try simp only [top_out])
        refine ⟨by omega, by omega, by omega, by omega, ?_⟩
        refine draw_rule tabOK (by kernel_rfl : _) (.p 0 (.p 1 (.p 2 (.p 3 (.p 5 (.p 6 (.e 4 [5, 6] (.p 7 (.e 8 [] .nil .no)) .no))))))) (by kernel_rfl) (by kernel_rfl) ?_
        (refine top_in ?_; simp -implicitDefEqProofs only [go_sem, -List.reduceReplicate, ↓L_gdZ_tt, ↓L_gdZ_tf, ↓L_gdZ_ft, ↓L_gdZ_ff, ↓T_and, ↓T_imp, ↓T_all, ek, hpl]; try simp only [top_out])
        refine refmul8_ok _ _ _ _ ?_
        rw [m2]
        (refine top_in ?_; simp -implicitDefEqProofs only [go_sem, -List.reduceReplicate, ↓L_gdZ_tt, ↓L_gdZ_tf, ↓L_gdZ_ft, ↓L_gdZ_ff, ↓T_and, ↓T_imp, ↓T_all, ek, hpl, s2]; try simp only [top_out])
        exact ⟨by omega, by omega, by omega, by omega, i - 1, by omega, k + 1, by omega, w64 (by omega) (by omega), rfl⟩
      · obtain rfl : k = 256 := by omega
        rw [pg_pf]
        have hfl := pf_len key
        refine loop_code tabOK (by kernel_rfl) (fun i ts M' => ∃ k : Nat, k + i = 32 ∧ frC (some (.sl n off key.length cap) :: none :: none :: some (.i .i64 0) :: some (.p M.length 0) :: none :: some (.i .i64 k) :: none :: none :: none :: none :: none :: none :: none :: none :: none :: none :: none :: none :: none :: none :: none :: none :: none :: none :: none :: none :: none :: none :: none :: none :: none :: none :: none :: none :: none :: none :: none :: none :: none :: none :: none :: none :: none :: none :: none :: none :: none :: none :: none :: none :: none :: none :: none :: none :: none :: none :: none :: none :: none :: none :: none :: none :: none :: none :: none :: none :: none :: none :: none :: none :: none :: none :: none :: none :: none :: none :: none :: none :: none :: none :: none :: none :: none :: none :: none :: none :: none :: none :: none :: none :: none :: none :: none :: none :: none :: none :: none :: none :: none :: none :: none :: none :: none :: none :: none :: none :: none :: none :: none :: none :: none :: none :: none :: none :: none :: none :: none :: none :: none :: none :: none :: none :: none :: none :: none :: none :: none :: none :: none :: none :: none :: none :: none :: none :: none :: none :: none :: none :: none :: none :: none :: []) ts ∧
          M' = M ++ [.row (bS (pf key (512 + k))) 93]) 32 ?_ ?_
        · exact ⟨0, rfl, by simp [frC], rfl⟩
        · clear hki h f
          rintro i ts _ ⟨k, hki, hf, rfl⟩
          obtain ⟨f, rfl⟩ := frC_open _ _ 0 hf
          clear hf
          (refine top_in ?_; simp -implicitDefEqProofs only [go_sem, -List.reduceReplicate, ↓L_gdZ_tt, ↓L_gdZ_tf, ↓L_gdZ_ft, ↓L_gdZ_ff, ↓T_and, ↓T_imp, ↓T_all, hfl, get_lt ha.lt]; try simp only [top_out])
          refine ⟨fun h => ?_, fun h => ?_⟩
          · have s3 := pf_set (key := key) (p := 512 + k) (F_key hk (by omega : k < 32)).symm
            refine draw_rule tabOK (by kernel_rfl : _) (.p 0 (.p 1 (.p 2 (.p 3 (.p 4 (.p 5 (.p 6 (.p 7 (.p 8 (.e 9 [] .nil .no)))))))))) (by kernel_rfl) (by kernel_rfl) ?_
            (refine top_in ?_; simp -implicitDefEqProofs only [go_sem, -List.reduceReplicate, ↓L_gdZ_tt, ↓L_gdZ_tf, ↓L_gdZ_ft, ↓L_gdZ_ff, ↓T_and, ↓T_imp, ↓T_all, hfl, get_lt ha.lt]; try simp only [top_out])
            rw [ha.is8 (by omega), ha.cell8 (by omega), s3]
            exact ⟨by omega, by omega, ha.le (by omega), rfl, by omega, by omega, by omega, by omega, i - 1, by omega, k + 1, by omega, w64 (by omega) (by omega), rfl⟩
          · obtain rfl : k = 32 := by omega
            have e8 : (512 + 32 : Nat) = 512 + 4 * 8 := rfl
            rw [e8]
            refine loop_gc tabOK (by kernel_rfl) (fun i ts M' => ∃ k : Nat, k + i = 60 ∧ 8 ≤ k ∧ frC (none :: none :: none :: some (.i .i64 0) :: some (.p M.length 0) :: none :: none :: some (.u8 (pw k)) :: some (.i .i64 k) :: none :: none :: none :: none :: none :: none :: none :: none :: none :: none :: none :: none :: none :: none :: none :: none :: none :: none :: none :: none :: none :: none :: none :: none :: none :: none :: none :: none :: none :: none :: none :: none :: none :: none :: none :: none :: none :: none :: none :: none :: none :: none :: none :: none :: none :: none :: none :: none :: none :: none :: none :: none :: none :: none :: none :: none :: none :: none :: none :: none :: none :: none :: none :: none :: none :: none :: none :: none :: none :: none :: none :: none :: none :: none :: none :: none :: none :: none :: none :: none :: none :: none :: none :: none :: none :: none :: none :: none :: none :: none :: none :: none :: none :: none :: none :: none :: none :: none :: none :: none :: none :: none :: none :: none :: none :: none :: none :: none :: none :: none :: none :: none :: none :: none :: none :: none :: none :: none :: none :: none :: none :: none :: none :: none :: none :: none :: none :: none :: none :: none :: none :: none :: none :: []) ts ∧
              M' = M ++ [.row (bS (pf key (512 + 4 * k))) 93]) 52 ?_ ?_
            · exact covF_self ⟨8, rfl, by omega, by simp [frC]; rfl, rfl⟩
            · clear hki h f
              rintro i ts _ ⟨k, hki, hk8, hf, rfl⟩
              obtain ⟨f, rfl⟩ := frC_open _ _ 0 hf
              clear hf
              (refine top_in ?_; simp -implicitDefEqProofs only [go_sem, -List.reduceReplicate, ↓L_gdZ_tt, ↓L_gdZ_tf, ↓L_gdZ_ft, ↓L_gdZ_ff, ↓T_and, ↓T_imp, ↓T_all, hfl]; try simp only [top_out])
              refine ⟨fun h => ?_, fun h => ?_⟩
              · have hk60 : k < 60 := by omega
                have e4 : (k : Int).tmod 4 = ((k % 4 : Nat) : Int) := by rw [Int.tmod_eq_emod_of_nonneg (by omega)]; omega
                have e8' : (k : Int).tmod 8 = ((k % 8 : Nat) : Int) := by rw [Int.tmod_eq_emod_of_nonneg (by omega)]; omega
                have w4 : IntKind.i64.wrap (4 * (k : Int)) = ((4 * k : Nat) : Int) := by rw [w64 (by omega) (by omega)]; omega
                refine loop_code tabOK (by kernel_rfl) (fun i ts M' => ∃ q : Nat, q + i = 4 ∧ frC (none :: none :: none :: some (.i .i64 0) :: some (.p M.length 0) :: none :: none :: some (.u8 (pw k)) :: some (.i .i64 k) :: some (.p (M.length + 1) 0) :: some (.i .i64 q) :: none :: none :: none :: none :: none :: none :: none :: none :: none :: none :: none :: none :: none :: none :: none :: none :: none :: none :: none :: none :: none :: none :: none :: none :: none :: none :: none :: none :: none :: none :: none :: none :: none :: none :: none :: none :: none :: none :: none :: none :: none :: none :: none :: none :: none :: none :: none :: none :: none :: none :: none :: none :: none :: none :: none :: none :: none :: none :: none :: none :: none :: none :: none :: none :: none :: none :: none :: none :: none :: none :: none :: none :: none :: none :: none :: none :: none :: none :: none :: none :: none :: none :: none :: none :: none :: none :: none :: none :: none :: none :: none :: none :: none :: none :: none :: none :: none :: none :: none :: none :: none :: none :: none :: none :: none :: none :: none :: none :: none :: none :: none :: none :: none :: none :: none :: none :: none :: none :: none :: none :: none :: none :: none :: none :: none :: none :: none :: none :: none :: none :: none :: []) ts ∧
                  M' = M ++ [.row (bS (pf key (512 + 4 * k))) 93, .row (bS (gl 4 fun j => if j < q then (fw key k).getD j 0#8 else 0#8)) 76]) 4 ?_ ?_
                · refine ⟨0, rfl, by simp [frC], ?_⟩
                  simp only [Nat.not_lt_zero, if_false, gl_const]
                · clear h f
                  rintro i' ts _ ⟨q, hq, hf, rfl⟩
                  by_cases hq4 : q < 4
                  · have hlt : ((q : Int) < 4) = True := by simp; omega
                    have w5 : IntKind.i64.wrap (((4 * k : Nat) : Int) - 4) = ((4 * k - 4 : Nat) : Int) := by rw [w64 (by omega) (by omega)]; omega
                    have w6 : IntKind.i64.wrap (((4 * k - 4 : Nat) : Int) + (q : Int)) = ((4 * k - 4 + q : Nat) : Int) := by rw [w64 (by omega) (by omega)]; omega
                    have g1 : (pf key (512 + 4 * k)).getD (512 + (4 * k - 4 + q)) 0#8 = (fw key k).getD q 0#8 := by
                      rw [pf_getD (by omega) (by omega), fw, gl_getD hq4]
                    obtain ⟨f, rfl⟩ := frC_open _ _ 0 hf
                    clear hf
                    (refine top_in ?_; simp -implicitDefEqProofs only [go_sem, -List.reduceReplicate, ↓L_gdZ_tt, ↓L_gdZ_tf, ↓L_gdZ_ft, ↓L_gdZ_ff, ↓T_and, ↓T_imp, ↓T_all, hfl, e4, e8', w4, w5, w6, hlt, g1]; try simp only [top_out])
                    repeat' (with_reducible refine And.intro ?_ ?_)
                    any_goals omega
                    refine ⟨i' - 1, by omega, q + 1, by omega, w64 (by omega) (by omega), ?_⟩
                    rw [gl_set]
                    refine congrArg (fun l => M ++ [Blk.row (bS (pf key (512 + 4 * k))) 93, Blk.row (bS l) 76]) (gl_ext fun i hi => ?_)
                    split
                    · subst_vars; rw [if_pos (by omega)]
                    · split
                      · rw [if_pos (by omega)]
                      · rw [if_neg (by omega)]
                  · obtain rfl : q = 4 := by omega
                    have e : (gl 4 fun j => if j < 4 then (fw key k).getD j 0#8 else 0#8) = fw key k := by
                      conv => rhs; rw [gl_self (show (fw key k).length = 4 from gl_len) 0#8]
                      exact gl_ext fun i hi => if_pos hi
                    rw [e]
                    have hlt : (((4 : Nat) : Int) < 4) = False := by simp
                    have fl : (fw key k).length = 4 := gl_len
                    clear e hq4 hq
                    rcases (by omega : k % 8 = 0 ∨ (k % 8 ≠ 0 ∧ k % 4 = 0) ∨ (k % 8 ≠ 0 ∧ k % 4 ≠ 0)) with h8 | ⟨h8, h4⟩ | ⟨h8, h4⟩
                    · have b8 : (((k % 8 : Nat) : Int) == 0) = true := by simp [h8]
                      have b4 : (((k % 4 : Nat) : Int) == 0) = true := by simp; omega
                      obtain ⟨f, rfl⟩ := frC_open _ _ 0 hf
                      clear hf
                      (refine top_in ?_; simp -implicitDefEqProofs only [go_sem, -List.reduceReplicate, ↓L_gdZ_tt, ↓L_gdZ_tf, ↓L_gdZ_ft, ↓L_gdZ_ff, ↓T_and, ↓T_imp, ↓T_all, hfl, e4, e8', w4, hlt, fl, b8, b4]; try simp only [top_out])
                      rw [rot4_set fl]
                      refine loop_code tabOK (by kernel_rfl) (fun i ts M' => ∃ q : Nat, q + i = 4 ∧ frC (none :: none :: none :: some (.i .i64 0) :: some (.p M.length 0) :: none :: none :: some (.u8 (pw k)) :: some (.i .i64 k) :: some (.p (M.length + 1) 0) :: none :: none :: some (.i .i64 q) :: none :: none :: none :: none :: none :: none :: none :: none :: none :: none :: none :: none :: none :: none :: none :: none :: none :: none :: none :: none :: none :: none :: none :: none :: none :: none :: none :: none :: none :: none :: none :: none :: none :: none :: none :: none :: none :: none :: none :: none :: none :: none :: none :: none :: none :: none :: none :: none :: none :: none :: none :: none :: none :: none :: none :: none :: none :: none :: none :: none :: none :: none :: none :: none :: none :: none :: none :: none :: none :: none :: none :: none :: none :: none :: none :: none :: none :: none :: none :: none :: none :: none :: none :: none :: none :: none :: none :: none :: none :: none :: none :: none :: none :: none :: none :: none :: none :: none :: none :: none :: none :: none :: none :: none :: none :: none :: none :: none :: none :: none :: none :: none :: none :: none :: none :: none :: none :: none :: none :: none :: none :: none :: none :: none :: none :: none :: none :: none :: none :: []) ts ∧
                          M' = M ++ [.row (bS (pf key (512 + 4 * k))) 93, .row (bS (gl 4 fun j => if j < q then (subL box0 (rotL (fw key k))).getD j 0#8 else (rotL (fw key k)).getD j 0#8)) 76]) 4 ?_ ?_
                      · refine ⟨0, rfl, by simp [frC], ?_⟩
                        simp only [Nat.not_lt_zero, if_false]
                        rw [← gl_self rotL_len]
                      · rintro i3 ts _ ⟨q, hq, hf, rfl⟩
                        by_cases hq4 : q < 4
                        · have hlt : ((q : Int) < 4) = True := by simp; omega
                          have h256 := BitVec.isLt ((rotL (fw key k)).getD q 0#8)
                          have g1 : (gl 4 fun j => if j < q then (subL box0 (rotL (fw key k))).getD j 0#8 else (rotL (fw key k)).getD j 0#8).getD q 0#8 = (rotL (fw key k)).getD q 0#8 := by rw [gl_getD hq4, if_neg (by omega)]
                          have g2 : (pf key (512 + 4 * k)).getD ((rotL (fw key k)).getD q 0#8).toNat 0#8 = (subL box0 (rotL (fw key k))).getD q 0#8 := by
                            rw [pf_getD (by omega) (by omega), subL, gl_getD hq4]
                            unfold ciphR rl box0
                            rw [box_getD, box_getD]
                          obtain ⟨f, rfl⟩ := frC_open _ _ 0 hf
                          clear hf
                          (refine top_in ?_; simp -implicitDefEqProofs only [go_sem, -List.reduceReplicate, ↓L_gdZ_tt, ↓L_gdZ_tf, ↓L_gdZ_ft, ↓L_gdZ_ff, ↓T_and, ↓T_imp, ↓T_all, hfl, e4, e8', w4, hlt, g1, g2]; try simp only [top_out])
                          refine draw_rule tabOK (by kernel_rfl : _) (.p 0 (.p 1 (.p 2 (.p 3 (.p 4 (.p 5 (.p 6 (.p 7 (.p 8 (.p 9 (.e 10 [] .nil .no))))))))))) (by kernel_rfl) (by kernel_rfl) ?_
                          (refine top_in ?_; simp -implicitDefEqProofs only [go_sem, -List.reduceReplicate, ↓L_gdZ_tt, ↓L_gdZ_tf, ↓L_gdZ_ft, ↓L_gdZ_ff, ↓T_and, ↓T_imp, ↓T_all, hfl, e4, e8', w4, hlt, g1, g2]; try simp only [top_out])
                          repeat' (with_reducible refine And.intro ?_ ?_)
                          any_goals omega
                          refine ⟨i3 - 1, by omega, q + 1, by omega, w64 (by omega) (by omega), ?_⟩
                          rw [gl_set]
                          refine congrArg (fun l => M ++ [Blk.row (bS (pf key (512 + 4 * k))) 93, Blk.row (bS l) 76]) (gl_ext fun i hi => ?_)
                          split
                          · subst_vars; rw [if_pos (by omega)]
                          · split
                            · rw [if_pos (by omega)]
                            · rw [if_neg (by omega)]
                        · obtain rfl : q = 4 := by omega
                          have e : (gl 4 fun j => if j < 4 then (subL box0 (rotL (fw key k))).getD j 0#8 else (rotL (fw key k)).getD j 0#8) = subL box0 (rotL (fw key k)) := by
                            conv => rhs; rw [gl_self (show (subL box0 (rotL (fw key k))).length = 4 from gl_len) 0#8]
                            exact gl_ext fun i hi => if_pos hi
                          rw [e]
                          have hlt : (((4 : Nat) : Int) < 4) = False := by simp
                          have hsl : (subL box0 (rotL (fw key k))).length = 4 := gl_len
                          have hrc : (subL box0 (rotL (fw key k))).set 0 ((subL box0 (rotL (fw key k))).getD 0 0#8 ^^^ pw k) = turnL box0 (fw key k) k := by
                            unfold turnL rcL
                            rw [if_pos h8, pw_turn h8 hk8]
                          have hl4 : (turnL box0 (fw key k) k).length = 4 := turnL_len fl k
                          obtain ⟨f, rfl⟩ := frC_open _ _ 0 hf
                          clear hf
                          (refine top_in ?_; simp -implicitDefEqProofs only [go_sem, -List.reduceReplicate, ↓L_gdZ_tt, ↓L_gdZ_tf, ↓L_gdZ_ft, ↓L_gdZ_ff, ↓T_and, ↓T_imp, ↓T_all, hfl, e4, e8', w4, hlt, hsl, b8, b4, hrc]; try simp only [top_out])
                          refine refmul8_ok _ _ _ _ ?_
                          rw [pw_next h8 hk8 (by omega)]
                          (refine top_in ?_; simp -implicitDefEqProofs only [go_sem, -List.reduceReplicate, ↓L_gdZ_tt, ↓L_gdZ_tf, ↓L_gdZ_ft, ↓L_gdZ_ff, ↓T_and, ↓T_imp, ↓T_all, hfl, hsl, hl4]; try simp only [top_out])
                          clear hlt
                          generalize hw : turnL box0 (fw key k) k = w at hl4
                          refine loop_code tabOK (by kernel_rfl) (fun i ts M' => ∃ q : Nat, q + i = 4 ∧ frC (none :: none :: none :: some (.i .i64 0) :: some (.p M.length 0) :: none :: none :: some (.u8 (pw (k + 1))) :: some (.i .i64 k) :: some (.p (M.length + 1) 0) :: none :: none :: none :: some (.i .i64 q) :: none :: none :: none :: none :: none :: none :: none :: none :: none :: none :: none :: none :: none :: none :: none :: none :: none :: none :: none :: none :: none :: none :: none :: none :: none :: none :: none :: none :: none :: none :: none :: none :: none :: none :: none :: none :: none :: none :: none :: none :: none :: none :: none :: none :: none :: none :: none :: none :: none :: none :: none :: none :: none :: none :: none :: none :: none :: none :: none :: none :: none :: none :: none :: none :: none :: none :: none :: none :: none :: none :: none :: none :: none :: none :: none :: none :: none :: none :: none :: none :: none :: none :: none :: none :: none :: none :: none :: none :: none :: none :: none :: none :: none :: none :: none :: none :: none :: none :: none :: none :: none :: none :: none :: none :: none :: none :: none :: none :: none :: none :: none :: none :: none :: none :: none :: none :: none :: none :: none :: none :: none :: none :: none :: none :: none :: none :: none :: none :: []) ts ∧
                              M' = M ++ [.row (bS (pf key (512 + (4 * k + q)))) 93, .row (bS w) 76]) 4 ?_ ?_
                          · exact ⟨0, rfl, by simp [frC], rfl⟩
                          · rintro i4 ts _ ⟨q, hq, hf, rfl⟩
                            have hfq := pf_len key (512 + (4 * k + q))
                            by_cases hq4 : q < 4
                            · have hlt : ((q : Int) < 4) = True := by simp; omega
                              have w5 : IntKind.i64.wrap (((4 * k : Nat) : Int) + (q : Int)) = ((4 * k + q : Nat) : Int) := by rw [w64 (by omega) (by omega)]; omega
                              have w6 : IntKind.i64.wrap (((4 * k : Nat) : Int) - 32) = ((4 * k - 32 : Nat) : Int) := by rw [w64 (by omega) (by omega)]; omega
                              have w7 : IntKind.i64.wrap (((4 * k - 32 : Nat) : Int) + (q : Int)) = ((4 * k - 32 + q : Nat) : Int) := by rw [w64 (by omega) (by omega)]; omega
                              have g1 : (pf key (512 + (4 * k + q))).getD (512 + (4 * k - 32 + q)) 0#8 = (ciphR key).getD (512 + (4 * k - 32 + q)) 0#8 := pf_getD (by omega) (by omega)
                              have g2 : (pf key (512 + (4 * k + q))).set (512 + (4 * k + q)) ((ciphR key).getD (512 + (4 * k - 32 + q)) 0#8 ^^^ w.getD q 0#8) = pf key (512 + (4 * k + (q + 1))) := by
                                refine (pf_set (p := 512 + (4 * k + q)) ?_).trans (by rfl)
                                rw [← hw]
                                exact (F_word hk hk8 (by omega) hq4).symm
                              obtain ⟨f, rfl⟩ := frC_open _ _ 0 hf
                              clear hf
                              (refine top_in ?_; simp -implicitDefEqProofs only [go_sem, -List.reduceReplicate, ↓L_gdZ_tt, ↓L_gdZ_tf, ↓L_gdZ_ft, ↓L_gdZ_ff, ↓T_and, ↓T_imp, ↓T_all, hfq, e4, e8', w4, w5, w6, w7, hlt, hl4, g1]; try simp only [top_out])
                              refine draw_rule tabOK (by kernel_rfl : _) (.p 0 (.p 1 (.p 2 (.p 3 (.p 4 (.p 5 (.p 6 (.p 7 (.p 8 (.p 9 (.p 10 (.p 11 (.p 12 (.p 13 (.p 14 (.p 15 (.p 16 (.p 17 (.p 18 (.p 19 (.p 20 (.p 21 (.e 22 [] .nil .no))))))))))))))))))))))) (by kernel_rfl) (by kernel_rfl) ?_
                              (refine top_in ?_; simp -implicitDefEqProofs only [go_sem, -List.reduceReplicate, ↓L_gdZ_tt, ↓L_gdZ_tf, ↓L_gdZ_ft, ↓L_gdZ_ff, ↓T_and, ↓T_imp, ↓T_all, hfq, e4, e8', w4, w5, w6, w7, hlt, hl4, g1, g2]; try simp only [top_out])
                              repeat' (with_reducible refine And.intro ?_ ?_)
                              any_goals omega
                              refine ⟨i4 - 1, by omega, q + 1, by omega, w64 (by omega) (by omega), rfl⟩
                            · obtain rfl : q = 4 := by omega
                              have hlt : (((4 : Nat) : Int) < 4) = False := by simp
                              obtain ⟨f, rfl⟩ := frC_open _ _ 0 hf
                              clear hf
                              (refine top_in ?_; simp -implicitDefEqProofs only [go_sem, -List.reduceReplicate, ↓L_gdZ_tt, ↓L_gdZ_tf, ↓L_gdZ_ft, ↓L_gdZ_ff, ↓T_and, ↓T_imp, ↓T_all, hfq, hlt]; try simp only [top_out])
                              rw [w64 (x := (k : Int) + 1) (by omega) (by omega)]
                              refine covF_gc hM [some 0] (none :: none :: none :: some (.i .i64 0) :: some (.p M.length 0) :: none :: none :: some (.u8 (pw (k + 1))) :: some (.i .i64 ((k : Int) + 1)) :: none :: none :: none :: none :: none :: none :: none :: none :: none :: none :: none :: none :: none :: none :: none :: none :: none :: none :: none :: none :: none :: none :: none :: none :: none :: none :: none :: none :: none :: none :: none :: none :: none :: none :: none :: none :: none :: none :: none :: none :: none :: none :: none :: none :: none :: none :: none :: none :: none :: none :: none :: none :: none :: none :: none :: none :: none :: none :: none :: none :: none :: none :: none :: none :: none :: none :: none :: none :: none :: none :: none :: none :: none :: none :: none :: none :: none :: none :: none :: none :: none :: none :: none :: none :: none :: none :: none :: none :: none :: none :: none :: none :: none :: none :: none :: none :: none :: none :: none :: none :: none :: none :: none :: none :: none :: none :: none :: none :: none :: none :: none :: none :: none :: none :: none :: none :: none :: none :: none :: none :: none :: none :: none :: none :: none :: none :: none :: none :: none :: none :: none :: none :: none :: []) [.row (bS (pf key (512 + 4 * (k + 1)))) 93] rfl ⟨keep8 rfl, trivial⟩ (by simp only [List.all_cons, List.all_nil, lt_row, Bool.and_true]) ?_ ?_ (fun ts' h => ⟨i - 1, by omega, k + 1, by omega, by omega, by simpa using h, rfl⟩)
                              · simp only [Int.natCast_add, cast_lit, Nat.add_assoc, rnSl_n, frRn_nil, frRn_s, frRn_n, frLt_nil, frLt_s, frLt_n, rn_i, rn_u8, rn_u32, rn_u64, rn_b, rn_str, rn_sn, rn_pn, rn_agg, rn_tup, rnL_nil, rnL_cons, rn_bS, rn_nil, rn_sl_at, rn_sl_at0, rn_p_at, rn_p_at0, rnSl_s, rnP_s, lt_i, lt_u8, lt_u32, lt_u64, lt_b, lt_sl, lt_p, lt_agg, lt_tup, ltL_nil', ltL_cons, bS_lt, List.getElem?_cons_succ, List.getElem?_cons_zero, Option.join_some, Nat.add_zero, Nat.zero_add, implies_true, and_self, and_true, true_and, Bool.and_true, Bool.true_and, Bool.and_self, List.length_cons, List.length_nil, List.length_append, decide_eq_true_eq, Bool.and_eq_true]
                              · simp only [Int.natCast_add, cast_lit, Nat.add_assoc, rnSl_n, frRn_nil, frRn_s, frRn_n, frLt_nil, frLt_s, frLt_n, rn_i, rn_u8, rn_u32, rn_u64, rn_b, rn_str, rn_sn, rn_pn, rn_agg, rn_tup, rnL_nil, rnL_cons, rn_bS, rn_nil, rn_sl_at, rn_sl_at0, rn_p_at, rn_p_at0, rnSl_s, rnP_s, lt_i, lt_u8, lt_u32, lt_u64, lt_b, lt_sl, lt_p, lt_agg, lt_tup, ltL_nil', ltL_cons, bS_lt, List.getElem?_cons_succ, List.getElem?_cons_zero, Option.join_some, Nat.add_zero, Nat.zero_add, implies_true, and_self, and_true, true_and, Bool.and_true, Bool.true_and, Bool.and_self, List.length_cons, List.length_nil, List.length_append, decide_eq_true_eq, Bool.and_eq_true]; omega
                    · have b8 : (((k % 8 : Nat) : Int) == 0) = false := beq_eq_false_iff_ne.2 (by omega)
                      have b4 : (((k % 4 : Nat) : Int) == 0) = true := by simp [h4]
                      obtain ⟨f, rfl⟩ := frC_open _ _ 0 hf
                      clear hf
                      (refine top_in ?_; simp -implicitDefEqProofs only [go_sem, -List.reduceReplicate, ↓L_gdZ_tt, ↓L_gdZ_tf, ↓L_gdZ_ft, ↓L_gdZ_ff, ↓T_and, ↓T_imp, ↓T_all, hfl, e4, e8', w4, hlt, fl, b8, b4]; try simp only [top_out])
                      refine loop_code tabOK (by kernel_rfl) (fun i ts M' => ∃ q : Nat, q + i = 4 ∧ frC (none :: none :: none :: some (.i .i64 0) :: some (.p M.length 0) :: none :: none :: some (.u8 (pw k)) :: some (.i .i64 k) :: some (.p (M.length + 1) 0) :: none :: none :: some (.i .i64 q) :: none :: none :: none :: none :: none :: none :: none :: none :: none :: none :: none :: none :: none :: none :: none :: none :: none :: none :: none :: none :: none :: none :: none :: none :: none :: none :: none :: none :: none :: none :: none :: none :: none :: none :: none :: none :: none :: none :: none :: none :: none :: none :: none :: none :: none :: none :: none :: none :: none :: none :: none :: none :: none :: none :: none :: none :: none :: none :: none :: none :: none :: none :: none :: none :: none :: none :: none :: none :: none :: none :: none :: none :: none :: none :: none :: none :: none :: none :: none :: none :: none :: none :: none :: none :: none :: none :: none :: none :: none :: none :: none :: none :: none :: none :: none :: none :: none :: none :: none :: none :: none :: none :: none :: none :: none :: none :: none :: none :: none :: none :: none :: none :: none :: none :: none :: none :: none :: none :: none :: none :: none :: none :: none :: none :: none :: none :: none :: none :: none :: []) ts ∧
                          M' = M ++ [.row (bS (pf key (512 + 4 * k))) 93, .row (bS (gl 4 fun j => if j < q then (subL box0 (fw key k)).getD j 0#8 else (fw key k).getD j 0#8)) 76]) 4 ?_ ?_
                      · refine ⟨0, rfl, by simp [frC], ?_⟩
                        simp only [Nat.not_lt_zero, if_false]
                        rw [← gl_self fl]
                      · rintro i3 ts _ ⟨q, hq, hf, rfl⟩
                        by_cases hq4 : q < 4
                        · have hlt : ((q : Int) < 4) = True := by simp; omega
                          have h256 := BitVec.isLt ((fw key k).getD q 0#8)
                          have g1 : (gl 4 fun j => if j < q then (subL box0 (fw key k)).getD j 0#8 else (fw key k).getD j 0#8).getD q 0#8 = (fw key k).getD q 0#8 := by rw [gl_getD hq4, if_neg (by omega)]
                          have g2 : (pf key (512 + 4 * k)).getD ((fw key k).getD q 0#8).toNat 0#8 = (subL box0 (fw key k)).getD q 0#8 := by
                            rw [pf_getD (by omega) (by omega), subL, gl_getD hq4]
                            unfold ciphR rl box0
                            rw [box_getD, box_getD]
                          obtain ⟨f, rfl⟩ := frC_open _ _ 0 hf
                          clear hf
                          (refine top_in ?_; simp -implicitDefEqProofs only [go_sem, -List.reduceReplicate, ↓L_gdZ_tt, ↓L_gdZ_tf, ↓L_gdZ_ft, ↓L_gdZ_ff, ↓T_and, ↓T_imp, ↓T_all, hfl, e4, e8', w4, hlt, g1, g2]; try simp only [top_out])
                          refine draw_rule tabOK (by kernel_rfl : _) (.p 0 (.p 1 (.p 2 (.p 3 (.p 4 (.p 5 (.p 6 (.p 7 (.p 8 (.p 9 (.e 10 [] .nil .no))))))))))) (by kernel_rfl) (by kernel_rfl) ?_
                          (refine top_in ?_; simp -implicitDefEqProofs only [go_sem, -List.reduceReplicate, ↓L_gdZ_tt, ↓L_gdZ_tf, ↓L_gdZ_ft, ↓L_gdZ_ff, ↓T_and, ↓T_imp, ↓T_all, hfl, e4, e8', w4, hlt, g1, g2]; try simp only [top_out])
                          repeat' (with_reducible refine And.intro ?_ ?_)
                          any_goals omega
                          refine ⟨i3 - 1, by omega, q + 1, by omega, w64 (by omega) (by omega), ?_⟩
                          rw [gl_set]
                          refine congrArg (fun l => M ++ [Blk.row (bS (pf key (512 + 4 * k))) 93, Blk.row (bS l) 76]) (gl_ext fun i hi => ?_)
                          split
                          · subst_vars; rw [if_pos (by omega)]
                          · split
                            · rw [if_pos (by omega)]
                            · rw [if_neg (by omega)]
                        · obtain rfl : q = 4 := by omega
                          have e : (gl 4 fun j => if j < 4 then (subL box0 (fw key k)).getD j 0#8 else (fw key k).getD j 0#8) = subL box0 (fw key k) := by
                            conv => rhs; rw [gl_self (show (subL box0 (fw key k)).length = 4 from gl_len) 0#8]
                            exact gl_ext fun i hi => if_pos hi
                          rw [e]
                          have hlt : (((4 : Nat) : Int) < 4) = False := by simp
                          have hsl : (subL box0 (fw key k)).length = 4 := gl_len
                          have hrc : subL box0 (fw key k) = turnL box0 (fw key k) k := by
                            unfold turnL
                            rw [if_neg h8, if_pos h4]
                          have hl4 : (turnL box0 (fw key k) k).length = 4 := turnL_len fl k
                          obtain ⟨f, rfl⟩ := frC_open _ _ 0 hf
                          clear hf
                          (refine top_in ?_; simp -implicitDefEqProofs only [go_sem, -List.reduceReplicate, ↓L_gdZ_tt, ↓L_gdZ_tf, ↓L_gdZ_ft, ↓L_gdZ_ff, ↓T_and, ↓T_imp, ↓T_all, hfl, e4, e8', w4, hlt, hsl, b8, b4]; try simp only [top_out])
                          rw [hrc, pw_same h8]
                          clear hlt
                          generalize hw : turnL box0 (fw key k) k = w at hl4
                          refine loop_code tabOK (by kernel_rfl) (fun i ts M' => ∃ q : Nat, q + i = 4 ∧ frC (none :: none :: none :: some (.i .i64 0) :: some (.p M.length 0) :: none :: none :: some (.u8 (pw (k + 1))) :: some (.i .i64 k) :: some (.p (M.length + 1) 0) :: none :: none :: none :: some (.i .i64 q) :: none :: none :: none :: none :: none :: none :: none :: none :: none :: none :: none :: none :: none :: none :: none :: none :: none :: none :: none :: none :: none :: none :: none :: none :: none :: none :: none :: none :: none :: none :: none :: none :: none :: none :: none :: none :: none :: none :: none :: none :: none :: none :: none :: none :: none :: none :: none :: none :: none :: none :: none :: none :: none :: none :: none :: none :: none :: none :: none :: none :: none :: none :: none :: none :: none :: none :: none :: none :: none :: none :: none :: none :: none :: none :: none :: none :: none :: none :: none :: none :: none :: none :: none :: none :: none :: none :: none :: none :: none :: none :: none :: none :: none :: none :: none :: none :: none :: none :: none :: none :: none :: none :: none :: none :: none :: none :: none :: none :: none :: none :: none :: none :: none :: none :: none :: none :: none :: none :: none :: none :: none :: none :: none :: none :: none :: none :: none :: none :: []) ts ∧
                              M' = M ++ [.row (bS (pf key (512 + (4 * k + q)))) 93, .row (bS w) 76]) 4 ?_ ?_
                          · exact ⟨0, rfl, by simp [frC], rfl⟩
                          · rintro i4 ts _ ⟨q, hq, hf, rfl⟩
                            have hfq := pf_len key (512 + (4 * k + q))
                            by_cases hq4 : q < 4
                            · have hlt : ((q : Int) < 4) = True := by simp; omega
                              have w5 : IntKind.i64.wrap (((4 * k : Nat) : Int) + (q : Int)) = ((4 * k + q : Nat) : Int) := by rw [w64 (by omega) (by omega)]; omega
                              have w6 : IntKind.i64.wrap (((4 * k : Nat) : Int) - 32) = ((4 * k - 32 : Nat) : Int) := by rw [w64 (by omega) (by omega)]; omega
                              have w7 : IntKind.i64.wrap (((4 * k - 32 : Nat) : Int) + (q : Int)) = ((4 * k - 32 + q : Nat) : Int) := by rw [w64 (by omega) (by omega)]; omega
                              have g1 : (pf key (512 + (4 * k + q))).getD (512 + (4 * k - 32 + q)) 0#8 = (ciphR key).getD (512 + (4 * k - 32 + q)) 0#8 := pf_getD (by omega) (by omega)
                              have g2 : (pf key (512 + (4 * k + q))).set (512 + (4 * k + q)) ((ciphR key).getD (512 + (4 * k - 32 + q)) 0#8 ^^^ w.getD q 0#8) = pf key (512 + (4 * k + (q + 1))) := by
                                refine (pf_set (p := 512 + (4 * k + q)) ?_).trans (by rfl)
                                rw [← hw]
                                exact (F_word hk hk8 (by omega) hq4).symm
                              obtain ⟨f, rfl⟩ := frC_open _ _ 0 hf
                              clear hf
                              (refine top_in ?_; simp -implicitDefEqProofs only [go_sem, -List.reduceReplicate, ↓L_gdZ_tt, ↓L_gdZ_tf, ↓L_gdZ_ft, ↓L_gdZ_ff, ↓T_and, ↓T_imp, ↓T_all, hfq, e4, e8', w4, w5, w6, w7, hlt, hl4, g1]; try simp only [top_out])
                              refine draw_rule tabOK (by kernel_rfl : _) (.p 0 (.p 1 (.p 2 (.p 3 (.p 4 (.p 5 (.p 6 (.p 7 (.p 8 (.p 9 (.p 10 (.p 11 (.p 12 (.p 13 (.p 14 (.p 15 (.p 16 (.p 17 (.p 18 (.p 19 (.p 20 (.p 21 (.e 22 [] .nil .no))))))))))))))))))))))) (by kernel_rfl) (by kernel_rfl) ?_
                              (refine top_in ?_; simp -implicitDefEqProofs only [go_sem, -List.reduceReplicate, ↓L_gdZ_tt, ↓L_gdZ_tf, ↓L_gdZ_ft, ↓L_gdZ_ff, ↓T_and, ↓T_imp, ↓T_all, hfq, e4, e8', w4, w5, w6, w7, hlt, hl4, g1, g2]; try simp only [top_out])
                              repeat' (with_reducible refine And.intro ?_ ?_)
                              any_goals omega
                              refine ⟨i4 - 1, by omega, q + 1, by omega, w64 (by omega) (by omega), rfl⟩
                            · obtain rfl : q = 4 := by omega
                              have hlt : (((4 : Nat) : Int) < 4) = False := by simp
                              obtain ⟨f, rfl⟩ := frC_open _ _ 0 hf
                              clear hf
                              (refine top_in ?_; simp -implicitDefEqProofs only [go_sem, -List.reduceReplicate, ↓L_gdZ_tt, ↓L_gdZ_tf, ↓L_gdZ_ft, ↓L_gdZ_ff, ↓T_and, ↓T_imp, ↓T_all, hfq, hlt]; try simp only [top_out])
                              rw [w64 (x := (k : Int) + 1) (by omega) (by omega)]
                              refine covF_gc hM [some 0] (none :: none :: none :: some (.i .i64 0) :: some (.p M.length 0) :: none :: none :: some (.u8 (pw (k + 1))) :: some (.i .i64 ((k : Int) + 1)) :: none :: none :: none :: none :: none :: none :: none :: none :: none :: none :: none :: none :: none :: none :: none :: none :: none :: none :: none :: none :: none :: none :: none :: none :: none :: none :: none :: none :: none :: none :: none :: none :: none :: none :: none :: none :: none :: none :: none :: none :: none :: none :: none :: none :: none :: none :: none :: none :: none :: none :: none :: none :: none :: none :: none :: none :: none :: none :: none :: none :: none :: none :: none :: none :: none :: none :: none :: none :: none :: none :: none :: none :: none :: none :: none :: none :: none :: none :: none :: none :: none :: none :: none :: none :: none :: none :: none :: none :: none :: none :: none :: none :: none :: none :: none :: none :: none :: none :: none :: none :: none :: none :: none :: none :: none :: none :: none :: none :: none :: none :: none :: none :: none :: none :: none :: none :: none :: none :: none :: none :: none :: none :: none :: none :: none :: none :: none :: none :: none :: none :: none :: none :: none :: []) [.row (bS (pf key (512 + 4 * (k + 1)))) 93] rfl ⟨keep8 rfl, trivial⟩ (by simp only [List.all_cons, List.all_nil, lt_row, Bool.and_true]) ?_ ?_ (fun ts' h => ⟨i - 1, by omega, k + 1, by omega, by omega, by simpa using h, rfl⟩)
                              · simp only [Int.natCast_add, cast_lit, Nat.add_assoc, rnSl_n, frRn_nil, frRn_s, frRn_n, frLt_nil, frLt_s, frLt_n, rn_i, rn_u8, rn_u32, rn_u64, rn_b, rn_str, rn_sn, rn_pn, rn_agg, rn_tup, rnL_nil, rnL_cons, rn_bS, rn_nil, rn_sl_at, rn_sl_at0, rn_p_at, rn_p_at0, rnSl_s, rnP_s, lt_i, lt_u8, lt_u32, lt_u64, lt_b, lt_sl, lt_p, lt_agg, lt_tup, ltL_nil', ltL_cons, bS_lt, List.getElem?_cons_succ, List.getElem?_cons_zero, Option.join_some, Nat.add_zero, Nat.zero_add, implies_true, and_self, and_true, true_and, Bool.and_true, Bool.true_and, Bool.and_self, List.length_cons, List.length_nil, List.length_append, decide_eq_true_eq, Bool.and_eq_true]
                              · simp only [Int.natCast_add, cast_lit, Nat.add_assoc, rnSl_n, frRn_nil, frRn_s, frRn_n, frLt_nil, frLt_s, frLt_n, rn_i, rn_u8, rn_u32, rn_u64, rn_b, rn_str, rn_sn, rn_pn, rn_agg, rn_tup, rnL_nil, rnL_cons, rn_bS, rn_nil, rn_sl_at, rn_sl_at0, rn_p_at, rn_p_at0, rnSl_s, rnP_s, lt_i, lt_u8, lt_u32, lt_u64, lt_b, lt_sl, lt_p, lt_agg, lt_tup, ltL_nil', ltL_cons, bS_lt, List.getElem?_cons_succ, List.getElem?_cons_zero, Option.join_some, Nat.add_zero, Nat.zero_add, implies_true, and_self, and_true, true_and, Bool.and_true, Bool.true_and, Bool.and_self, List.length_cons, List.length_nil, List.length_append, decide_eq_true_eq, Bool.and_eq_true]; omega
                    · have b8 : (((k % 8 : Nat) : Int) == 0) = false := beq_eq_false_iff_ne.2 (by omega)
                      have b4 : (((k % 4 : Nat) : Int) == 0) = false := beq_eq_false_iff_ne.2 (by omega)
                      have hrc : fw key k = turnL box0 (fw key k) k := by
                        unfold turnL
                        rw [if_neg h8, if_neg h4]
                      have hl4 : (turnL box0 (fw key k) k).length = 4 := turnL_len fl k
                      obtain ⟨f, rfl⟩ := frC_open _ _ 0 hf
                      clear hf
                      (refine top_in ?_; simp -implicitDefEqProofs only [go_sem, -List.reduceReplicate, ↓L_gdZ_tt, ↓L_gdZ_tf, ↓L_gdZ_ft, ↓L_gdZ_ff, ↓T_and, ↓T_imp, ↓T_all, hfl, e4, e8', w4, hlt, fl, b8, b4]; try simp only [top_out])
                      rw [pw_same h8]
                      refine Eq.mp (congrArg (fun l => LoopVC Tryz.prog M.length _ _ (M ++ [.row (bS (pf key (512 + 4 * k))) 93, .row (bS l) 76]) _) hrc.symm) ?_
                      clear hlt
                      generalize hw : turnL box0 (fw key k) k = w at hl4
                      refine loop_code tabOK (by kernel_rfl) (fun i ts M' => ∃ q : Nat, q + i = 4 ∧ frC (none :: none :: none :: some (.i .i64 0) :: some (.p M.length 0) :: none :: none :: some (.u8 (pw (k + 1))) :: some (.i .i64 k) :: some (.p (M.length + 1) 0) :: none :: none :: none :: some (.i .i64 q) :: none :: none :: none :: none :: none :: none :: none :: none :: none :: none :: none :: none :: none :: none :: none :: none :: none :: none :: none :: none :: none :: none :: none :: none :: none :: none :: none :: none :: none :: none :: none :: none :: none :: none :: none :: none :: none :: none :: none :: none :: none :: none :: none :: none :: none :: none :: none :: none :: none :: none :: none :: none :: none :: none :: none :: none :: none :: none :: none :: none :: none :: none :: none :: none :: none :: none :: none :: none :: none :: none :: none :: none :: none :: none :: none :: none :: none :: none :: none :: none :: none :: none :: none :: none :: none :: none :: none :: none :: none :: none :: none :: none :: none :: none :: none :: none :: none :: none :: none :: none :: none :: none :: none :: none :: none :: none :: none :: none :: none :: none :: none :: none :: none :: none :: none :: none :: none :: none :: none :: none :: none :: none :: none :: none :: none :: none :: none :: none :: []) ts ∧
                          M' = M ++ [.row (bS (pf key (512 + (4 * k + q)))) 93, .row (bS w) 76]) 4 ?_ ?_
                      · exact ⟨0, rfl, by simp [frC], rfl⟩
                      · rintro i4 ts _ ⟨q, hq, hf, rfl⟩
                        have hfq := pf_len key (512 + (4 * k + q))
                        by_cases hq4 : q < 4
                        · have hlt : ((q : Int) < 4) = True := by simp; omega
                          have w5 : IntKind.i64.wrap (((4 * k : Nat) : Int) + (q : Int)) = ((4 * k + q : Nat) : Int) := by rw [w64 (by omega) (by omega)]; omega
                          have w6 : IntKind.i64.wrap (((4 * k : Nat) : Int) - 32) = ((4 * k - 32 : Nat) : Int) := by rw [w64 (by omega) (by omega)]; omega
                          have w7 : IntKind.i64.wrap (((4 * k - 32 : Nat) : Int) + (q : Int)) = ((4 * k - 32 + q : Nat) : Int) := by rw [w64 (by omega) (by omega)]; omega
                          have g1 : (pf key (512 + (4 * k + q))).getD (512 + (4 * k - 32 + q)) 0#8 = (ciphR key).getD (512 + (4 * k - 32 + q)) 0#8 := pf_getD (by omega) (by omega)
                          have g2 : (pf key (512 + (4 * k + q))).set (512 + (4 * k + q)) ((ciphR key).getD (512 + (4 * k - 32 + q)) 0#8 ^^^ w.getD q 0#8) = pf key (512 + (4 * k + (q + 1))) := by
                            refine (pf_set (p := 512 + (4 * k + q)) ?_).trans (by rfl)
                            rw [← hw]
                            exact (F_word hk hk8 (by omega) hq4).symm
                          obtain ⟨f, rfl⟩ := frC_open _ _ 0 hf
                          clear hf
                          (refine top_in ?_; simp -implicitDefEqProofs only [go_sem, -List.reduceReplicate, ↓L_gdZ_tt, ↓L_gdZ_tf, ↓L_gdZ_ft, ↓L_gdZ_ff, ↓T_and, ↓T_imp, ↓T_all, hfq, e4, e8', w4, w5, w6, w7, hlt, hl4, g1]; try simp only [top_out])
                          refine draw_rule tabOK (by kernel_rfl : _) (.p 0 (.p 1 (.p 2 (.p 3 (.p 4 (.p 5 (.p 6 (.p 7 (.p 8 (.p 9 (.p 10 (.p 11 (.p 12 (.p 13 (.p 14 (.p 15 (.p 16 (.p 17 (.p 18 (.p 19 (.p 20 (.p 21 (.e 22 [] .nil .no))))))))))))))))))))))) (by kernel_rfl) (by kernel_rfl) ?_
                          (refine top_in ?_; simp -implicitDefEqProofs only [go_sem, -List.reduceReplicate, ↓L_gdZ_tt, ↓L_gdZ_tf, ↓L_gdZ_ft, ↓L_gdZ_ff, ↓T_and, ↓T_imp, ↓T_all, hfq, e4, e8', w4, w5, w6, w7, hlt, hl4, g1, g2]; try simp only [top_out])
                          repeat' (with_reducible refine And.intro ?_ ?_)
                          any_goals omega
                          refine ⟨i4 - 1, by omega, q + 1, by omega, w64 (by omega) (by omega), rfl⟩
                        · obtain rfl : q = 4 := by omega
                          have hlt : (((4 : Nat) : Int) < 4) = False := by simp
                          obtain ⟨f, rfl⟩ := frC_open _ _ 0 hf
                          clear hf
                          (refine top_in ?_; simp -implicitDefEqProofs only [go_sem, -List.reduceReplicate, ↓L_gdZ_tt, ↓L_gdZ_tf, ↓L_gdZ_ft, ↓L_gdZ_ff, ↓T_and, ↓T_imp, ↓T_all, hfq, hlt]; try simp only [top_out])
                          rw [w64 (x := (k : Int) + 1) (by omega) (by omega)]
                          refine covF_gc hM [some 0] (none :: none :: none :: some (.i .i64 0) :: some (.p M.length 0) :: none :: none :: some (.u8 (pw (k + 1))) :: some (.i .i64 ((k : Int) + 1)) :: none :: none :: none :: none :: none :: none :: none :: none :: none :: none :: none :: none :: none :: none :: none :: none :: none :: none :: none :: none :: none :: none :: none :: none :: none :: none :: none :: none :: none :: none :: none :: none :: none :: none :: none :: none :: none :: none :: none :: none :: none :: none :: none :: none :: none :: none :: none :: none :: none :: none :: none :: none :: none :: none :: none :: none :: none :: none :: none :: none :: none :: none :: none :: none :: none :: none :: none :: none :: none :: none :: none :: none :: none :: none :: none :: none :: none :: none :: none :: none :: none :: none :: none :: none :: none :: none :: none :: none :: none :: none :: none :: none :: none :: none :: none :: none :: none :: none :: none :: none :: none :: none :: none :: none :: none :: none :: none :: none :: none :: none :: none :: none :: none :: none :: none :: none :: none :: none :: none :: none :: none :: none :: none :: none :: none :: none :: none :: none :: none :: none :: none :: none :: none :: []) [.row (bS (pf key (512 + 4 * (k + 1)))) 93] rfl ⟨keep8 rfl, trivial⟩ (by simp only [List.all_cons, List.all_nil, lt_row, Bool.and_true]) ?_ ?_ (fun ts' h => ⟨i - 1, by omega, k + 1, by omega, by omega, by simpa using h, rfl⟩)
                          · simp only [Int.natCast_add, cast_lit, Nat.add_assoc, rnSl_n, frRn_nil, frRn_s, frRn_n, frLt_nil, frLt_s, frLt_n, rn_i, rn_u8, rn_u32, rn_u64, rn_b, rn_str, rn_sn, rn_pn, rn_agg, rn_tup, rnL_nil, rnL_cons, rn_bS, rn_nil, rn_sl_at, rn_sl_at0, rn_p_at, rn_p_at0, rnSl_s, rnP_s, lt_i, lt_u8, lt_u32, lt_u64, lt_b, lt_sl, lt_p, lt_agg, lt_tup, ltL_nil', ltL_cons, bS_lt, List.getElem?_cons_succ, List.getElem?_cons_zero, Option.join_some, Nat.add_zero, Nat.zero_add, implies_true, and_self, and_true, true_and, Bool.and_true, Bool.true_and, Bool.and_self, List.length_cons, List.length_nil, List.length_append, decide_eq_true_eq, Bool.and_eq_true]
                          · simp only [Int.natCast_add, cast_lit, Nat.add_assoc, rnSl_n, frRn_nil, frRn_s, frRn_n, frLt_nil, frLt_s, frLt_n, rn_i, rn_u8, rn_u32, rn_u64, rn_b, rn_str, rn_sn, rn_pn, rn_agg, rn_tup, rnL_nil, rnL_cons, rn_bS, rn_nil, rn_sl_at, rn_sl_at0, rn_p_at, rn_p_at0, rnSl_s, rnP_s, lt_i, lt_u8, lt_u32, lt_u64, lt_b, lt_sl, lt_p, lt_agg, lt_tup, ltL_nil', ltL_cons, bS_lt, List.getElem?_cons_succ, List.getElem?_cons_zero, Option.join_some, Nat.add_zero, Nat.zero_add, implies_true, and_self, and_true, true_and, Bool.and_true, Bool.true_and, Bool.and_self, List.length_cons, List.length_nil, List.length_append, decide_eq_true_eq, Bool.and_eq_true]; omega
              · obtain rfl : k = 60 := by omega
                rw [show 512 + 4 * 60 = 752 from rfl, pf_all hk]
                refine dropC_gc (L := [.row (bS (ciphR key)) 93]) hM [some 0] (.tup [.p M.length 0, .i .i64 0]) [.row (bS (ciphR key)) 93] rfl ⟨keep8 rfl, trivial⟩ (by simp [lt_row]) (by simp [SV.lt, ltL]) (fun ρ => ?_) (h1 hk)
                simp only [rn_tup, rnL_cons, rnL_nil, rn_p_at0, rn_i]
                rfl
theorem beqIN {n : Nat} (h : n = 32) : ((n : Int) != 32) = false := by subst h; rfl
theorem beqIN' {n : Nat} (h : ((n : Int) != 32) = false) : n = 32 := by have := bneF h; omega
theorem q00 : ((0 : Int) != 0) = false := rfl
theorem q40 : ((40 : Int) != 0) = true := rfl
theorem qeq : ((40 : Int) != 40) = false := rfl
theorem keyAt_keyR {key : List (BitVec 8)} (r : Nat) : keyAt (ciph key) r = keyR (ciphR key) r := by
  unfold keyAt keyR ciph ciphR rl
  have h1 : boxL.drop (256 + 16 * r) = [] := List.drop_eq_nil_of_le (by rw [boxL_len]; omega)
  have h2 : boxL.drop (512 + 16 * r) = [] := List.drop_eq_nil_of_le (by rw [boxL_len]; omega)
  have h3 : twoL.drop (512 + 16 * r - 256) = [] := List.drop_eq_nil_of_le (by rw [twoL_len]; omega)
  rw [wl_60, List.drop_append, boxL_len, h1, List.drop_append, boxL_len, h2, List.drop_append, twoL_len, h3, List.nil_append, List.nil_append, List.nil_append,
    show 256 + 16 * r - 256 = 512 + 16 * r - 256 - 256 by omega]
theorem shift_same {key b : List (BitVec 8)} : shiftL (ciph key) b = shiftL (ciphR key) b := by
  unfold shiftL ciph ciphR rl
  exact gl_ext fun i _ => by rw [box_getD, box_getD]
theorem aes_ref {key x : List (BitVec 8)} : ∀ k, aesN (ciph key) x k = refN4 (ciphR key) x k
  | 0 => by rw [aesN, refN4, keyAt_keyR]
  | k + 1 => by rw [aesN, refN4, aes_ref k, aesR, refR, keyAt_keyR, shift_same]
theorem ciphR_len {key : List (BitVec 8)} (hk : key.length = 32) : (ciphR key).length = 752 := rl_len hk 60 (by omega)
theorem ciphR_two {key : List (BitVec 8)} (v : BitVec 8) : (ciphR key).getD (256 + v.toNat) 0#8 = mul8L 8 2#8 v 0#8 := by
  have := BitVec.isLt v
  rw [F_two (by omega), BitVec.ofNat_toNat, BitVec.setWidth_eq]
end Go.Proofs.YtbiolfeincepoaaGreatDoor.Eng
