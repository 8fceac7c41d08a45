/- A key made ready, as the document reckons it. -/
import Derived.Test.YtbiolfeincepoaaA8
namespace Go.Proofs.Ytbiolfeincepoaa.Eng
open Go Go.RowKit
set_option linter.unusedSimpArgs false
set_option linter.unusedVariables false

def twoL : List (BitVec 8) := gl 256 fun j => mul8L 8 2#8 (BitVec.ofNat 8 j) 0#8
theorem twoL_len : twoL.length = 256 := gl_len
def rl (key : List (BitVec 8)) (i : Nat) : List (BitVec 8) := boxL ++ (twoL ++ wl key i)
theorem rl_len {key : List (BitVec 8)} (hk : key.length = 32) (i : Nat) (h : i ≤ 60) : (rl key i).length = 752 := by
  unfold rl; rw [List.length_append, List.length_append, boxL_len, twoL_len, wl_len hk i h]
def ciphR (key : List (BitVec 8)) : List (BitVec 8) := rl key 60
theorem kx_8 {key : List (BitVec 8)} (hk : key.length = 32) : kx key 8 = key := by
  have h : ∀ i, i ≤ 8 → kx key i = key.take (4 * i) := by
    intro i
    induction i with
    | zero => intro _; rfl
    | succ i ih =>
      intro hi
      rw [kx, ih (by omega), kw, if_pos (by omega), show 4 * (i + 1) = 4 * i + 4 by omega, List.take_add]
  rw [h 8 (Nat.le_refl _), List.take_of_length_le (by omega)]
theorem turnL_congr {C C' x : List (BitVec 8)} {i : Nat} (h : ∀ v : BitVec 8, C.getD v.toNat 0#8 = C'.getD v.toNat 0#8) : turnL C x i = turnL C' x i := by
  have hs : ∀ y, subL C y = subL C' y := fun y => gl_ext fun j _ => h _
  unfold turnL
  rw [hs, hs]
theorem box_getD {l : List (BitVec 8)} (v : BitVec 8) : (boxL ++ l).getD v.toNat 0#8 = boxL.getD v.toNat 0#8 := by
  have := BitVec.isLt v
  rw [List.getD_eq_getElem?_getD, List.getElem?_append_left (by rw [boxL_len]; omega), ← List.getD_eq_getElem?_getD]
def pw (i : Nat) : BitVec 8 := 1#8 <<< ((i - 1) / 8)
theorem pw_next {i : Nat} (h8 : i % 8 = 0) (h1 : 8 ≤ i) (h2 : i < 60) : ref8 (pw i) 2#8 = pw (i + 1) := by
  obtain ⟨j, rfl⟩ : ∃ j, i = 8 * j := ⟨i / 8, by omega⟩
  rcases (by omega : j = 1 ∨ j = 2 ∨ j = 3 ∨ j = 4 ∨ j = 5 ∨ j = 6 ∨ j = 7) with rfl | rfl | rfl | rfl | rfl | rfl | rfl <;> decide +kernel
theorem pw_same {i : Nat} (h8 : i % 8 ≠ 0) : pw i = pw (i + 1) := by unfold pw; congr 1; omega
theorem pw_turn {i : Nat} (h8 : i % 8 = 0) (h1 : 8 ≤ i) : pw i = 1#8 <<< (i / 8 - 1) := by unfold pw; congr 1; omega

theorem kx_pre {key : List (BitVec 8)} (hk : key.length = 32) {i : Nat} : ∀ d, i + d ≤ 60 → (kx key (i + d)).take (4 * i) = kx key i
  | 0, h => List.take_of_length_le (by rw [Nat.add_zero, kx_len hk i (by omega)]; omega)
  | d + 1, h => by
    have hl := kx_len hk (i + d) (by omega)
    rw [← Nat.add_assoc, kx, List.take_append_of_le_length (by omega)]
    exact kx_pre hk d (by omega)
theorem kx_getD {key : List (BitVec 8)} (hk : key.length = 32) {i j : Nat} (hi : i ≤ 60) (hj : j < 4 * i) : (kx key 60).getD j 0#8 = (kx key i).getD j 0#8 := by
  have h := kx_pre hk (i := i) (60 - i) (by omega)
  rw [show i + (60 - i) = 60 by omega] at h
  rw [← h, List.getD_eq_getElem?_getD, List.getD_eq_getElem?_getD, List.getElem?_take_of_lt hj]
theorem wl_60 (key : List (BitVec 8)) : wl key 60 = kx key 60 := by unfold wl; rw [show 240 - 4 * 60 = 0 from rfl, List.replicate_zero, List.append_nil]
theorem F_getD {key : List (BitVec 8)} (j : Nat) : (ciphR key).getD (512 + j) 0#8 = (kx key 60).getD j 0#8 := by
  unfold ciphR rl
  rw [List.getD_eq_getElem?_getD, List.getElem?_append_right (by rw [boxL_len]; omega), List.getElem?_append_right (by rw [boxL_len, twoL_len]; omega), boxL_len, twoL_len, show 512 + j - 256 - 256 = j by omega, wl_60, ← List.getD_eq_getElem?_getD]
theorem F_key {key : List (BitVec 8)} (hk : key.length = 32) {j : Nat} (hj : j < 32) : (ciphR key).getD (512 + j) 0#8 = key.getD j 0#8 := by
  rw [F_getD, kx_getD hk (i := 8) (by omega) (by omega), kx_8 hk]
/-- the word ahead, off the document's cells -/
def fw (key : List (BitVec 8)) (i : Nat) : List (BitVec 8) := gl 4 fun k => (ciphR key).getD (512 + (4 * i - 4 + k)) 0#8
theorem F_word {key : List (BitVec 8)} (hk : key.length = 32) {i k : Nat} (h8 : 8 ≤ i) (hi : i < 60) (hk4 : k < 4) :
    (ciphR key).getD (512 + (4 * i + k)) 0#8 = (ciphR key).getD (512 + (4 * i - 32 + k)) 0#8 ^^^ (turnL box0 (fw key i) i).getD k 0#8 := by
  have hl := kx_len hk i (by omega)
  have h1 : (kx key (i + 1)).getD (4 * i + k) 0#8 = (kw key (kx key i) i).getD k 0#8 := by
    rw [kx, List.getD_eq_getElem?_getD, List.getElem?_append_right (by omega), hl, show 4 * i + k - 4 * i = k by omega, ← List.getD_eq_getElem?_getD]
  have h2 : fw key i = ((kx key i).drop (4 * (i - 1))).take 4 := by
    symm
    refine gl_eq (by simp; omega) 0#8 fun j hj => ?_
    rw [List.getD_eq_getElem?_getD, List.getElem?_take_of_lt hj, List.getElem?_drop, ← List.getD_eq_getElem?_getD, F_getD, kx_getD hk (i := i) (by omega) (by omega), show 4 * (i - 1) + j = 4 * i - 4 + j by omega]
  rw [F_getD, kx_getD hk (i := i + 1) (by omega) (by omega), h1, kw, if_neg (by omega), sum4, gl_getD hk4, F_getD, kx_getD hk (i := i) (by omega) (by omega), h2]
  congr 1
  rw [List.getD_eq_getElem?_getD, List.getElem?_take_of_lt hk4, List.getElem?_drop, ← List.getD_eq_getElem?_getD, show 4 * (i - 8) + k = 4 * i - 32 + k by omega]
/-- the first cells of the document's cipher, the rest zero -/
def pf (key : List (BitVec 8)) (p : Nat) : List (BitVec 8) := gl 752 fun j => if j < p then (ciphR key).getD j 0#8 else 0#8
theorem pf_len (key : List (BitVec 8)) (p : Nat) : (pf key p).length = 752 := gl_len
theorem pf_getD {key : List (BitVec 8)} {p j : Nat} (h : j < p) (hj : j < 752) : (pf key p).getD j 0#8 = (ciphR key).getD j 0#8 := by unfold pf; rw [gl_getD hj, if_pos h]
theorem pf_set {key : List (BitVec 8)} {p : Nat} {v : BitVec 8} (h : v = (ciphR key).getD p 0#8) : (pf key p).set p v = pf key (p + 1) := by
  subst h
  unfold pf
  rw [gl_set]
  refine gl_ext fun i hi => ?_
  split
  · subst_vars; rw [if_pos (by omega)]
  · split
    · rw [if_pos (by omega)]
    · rw [if_neg (by omega)]
theorem pf_all {key : List (BitVec 8)} (hk : key.length = 32) : pf key 752 = ciphR key := by
  conv => rhs; rw [gl_self (show (ciphR key).length = 752 from rl_len hk 60 (Nat.le_refl _)) 0#8]
  exact gl_ext fun i hi => if_pos hi
end Go.Proofs.Ytbiolfeincepoaa.Eng
