/- Joined texts: Fa, Fb, Fc, Fd. -/
import Derived.Test.YtbiolfeincepoaaGreatDoorLs
import Derived.Test.YtbiolfeincepoaaGreatDoorMa
namespace Go.Proofs.YtbiolfeincepoaaGreatDoor.Eng
set_option linter.unusedSimpArgs false
set_option linter.unusedVariables false
open Go
section
variable {w : Nat}
def it (t : BitVec w → BitVec w) : Nat → BitVec w → BitVec w
  | 0, y => y
  | n + 1, y => t (it t n y)
def gs (t : BitVec w → BitVec w) (f : Nat → Bool) : Nat → BitVec w → BitVec w
  | 0, _ => 0#w
  | n + 1, y => gs t f n y ^^^ (if f n then it t n y else 0#w)
theorem xor4 (a b c d : BitVec w) : (a ^^^ b) ^^^ (c ^^^ d) = (a ^^^ c) ^^^ (b ^^^ d) := by
  simp only [BitVec.xor_assoc]
  congr 1
  rw [← BitVec.xor_assoc, ← BitVec.xor_assoc, BitVec.xor_comm b c]
theorem xor_ite (a b : Bool) (z : BitVec w) : (if (a ^^ b) = true then z else 0#w) = (if a = true then z else 0#w) ^^^ (if b = true then z else 0#w) := by
  cases a <;> cases b <;> simp
variable {t : BitVec w → BitVec w} (ht : ∀ a b, t (a ^^^ b) = t a ^^^ t b)
include ht
theorem it_xor (n : Nat) (a b : BitVec w) : it t n (a ^^^ b) = it t n a ^^^ it t n b := by
  induction n with
  | zero => rfl
  | succ n ih => simp only [it, ih, ht]
theorem t_zero : t 0#w = 0#w := by
  have := ht 0#w 0#w
  rw [BitVec.xor_self] at this
  rw [this, BitVec.xor_self]
theorem it_zero (n : Nat) : it t n 0#w = 0#w := by
  induction n with
  | zero => rfl
  | succ n ih => simp only [it, ih, t_zero ht]
omit ht in
theorem it_t (n : Nat) (y : BitVec w) : it t n (t y) = t (it t n y) := by
  induction n with
  | zero => rfl
  | succ n ih => simp only [it, ih]
theorem gs_xor (f : Nat → Bool) (n : Nat) (a b : BitVec w) : gs t f n (a ^^^ b) = gs t f n a ^^^ gs t f n b := by
  induction n with
  | zero => simp [gs]
  | succ n ih =>
    simp only [gs, ih]
    cases f n
    · simp
    · simp only [if_true, it_xor ht, xor4]
theorem gs_zero (f : Nat → Bool) (n : Nat) : gs t f n 0#w = 0#w := by
  induction n with
  | zero => rfl
  | succ n ih => simp only [gs, ih, it_zero ht, ite_self, BitVec.xor_self]
theorem gs_t (f : Nat → Bool) (n : Nat) (y : BitVec w) : gs t f n (t y) = t (gs t f n y) := by
  induction n with
  | zero => simp [gs, t_zero ht]
  | succ n ih =>
    simp only [gs, ih, ht, it_t]
    cases f n
    · simp [t_zero ht]
    · simp
theorem gs_it (f : Nat → Bool) (n k : Nat) (y : BitVec w) : gs t f n (it t k y) = it t k (gs t f n y) := by
  induction k with
  | zero => rfl
  | succ k ih => simp only [it, gs_t ht, ih]
theorem gs_comm (f g : Nat → Bool) (n m : Nat) (y : BitVec w) : gs t f n (gs t g m y) = gs t g m (gs t f n y) := by
  induction n with
  | zero => simp [gs, gs_zero ht]
  | succ n ih =>
    simp only [gs, ih, gs_xor ht]
    cases f n
    · simp [gs_zero ht]
    · simp [gs_it ht]
omit ht in
theorem gs_add (f g : Nat → Bool) (n : Nat) (y : BitVec w) : gs t (fun i => f i ^^ g i) n y = gs t f n y ^^^ gs t g n y := by
  induction n with
  | zero => simp [gs]
  | succ n ih =>
    simp only [gs, ih]
    rw [xor_ite, xor4]
omit ht in
theorem gs_congr {f g : Nat → Bool} (n : Nat) (h : ∀ i, i < n → f i = g i) (y : BitVec w) : gs t f n y = gs t g n y := by
  induction n with
  | zero => rfl
  | succ n ih => simp only [gs, ih (fun i hi => h i (by omega)), h n (by omega)]
end
structure Fld (w : Nat) where
  t : BitVec w → BitVec w
  lin : ∀ a b, t (a ^^^ b) = t a ^^^ t b
  bit : BitVec w → Nat → Bool
  bit_xor : ∀ a b i, bit (a ^^^ b) i = (bit a i ^^ bit b i)
  one : BitVec w
  h1 : ∀ x, gs t (bit x) w one = x
namespace Fld
variable {w : Nat} (F : Fld w)
def mul (x y : BitVec w) : BitVec w := gs F.t (F.bit x) w y
theorem mul_one (x : BitVec w) : F.mul x F.one = x := F.h1 x
theorem mul_comm (x y : BitVec w) : F.mul x y = F.mul y x := by
  have : F.mul x y = gs F.t (F.bit x) w (gs F.t (F.bit y) w F.one) := by rw [F.h1]; rfl
  rw [this, gs_comm F.lin, F.h1]
  rfl
theorem one_mul (x : BitVec w) : F.mul F.one x = x := by rw [F.mul_comm, F.mul_one]
theorem mul_left (x y z : BitVec w) : F.mul x (F.mul y z) = F.mul y (F.mul x z) := gs_comm F.lin _ _ _ _ _
theorem mul_assoc (x y z : BitVec w) : F.mul (F.mul x y) z = F.mul x (F.mul y z) := by
  rw [F.mul_comm (F.mul x y) z, F.mul_left, F.mul_comm z y]
theorem mul_xor (x y z : BitVec w) : F.mul x (y ^^^ z) = F.mul x y ^^^ F.mul x z := gs_xor F.lin _ _ _ _
theorem xor_mul (x y z : BitVec w) : F.mul (x ^^^ y) z = F.mul x z ^^^ F.mul y z := by
  rw [F.mul_comm, F.mul_xor, F.mul_comm z x, F.mul_comm z y]
theorem mul_zero (x : BitVec w) : F.mul x 0#w = 0#w := gs_zero F.lin _ _
theorem zero_mul (x : BitVec w) : F.mul 0#w x = 0#w := by rw [F.mul_comm, F.mul_zero]
theorem sq_xor (x y : BitVec w) : F.mul (x ^^^ y) (x ^^^ y) = F.mul x x ^^^ F.mul y y := by
  rw [F.mul_xor, F.xor_mul, F.xor_mul, F.mul_comm y x]
  rw [BitVec.xor_assoc, ← BitVec.xor_assoc (F.mul x y), BitVec.xor_self, BitVec.zero_xor]
theorem sq_mul (x y : BitVec w) : F.mul (F.mul x y) (F.mul x y) = F.mul (F.mul x x) (F.mul y y) := by
  rw [F.mul_assoc, F.mul_left y, ← F.mul_assoc]
end Fld
theorem all8 {p : BitVec 8 → Prop} (h : ∀ i : Fin 256, p (BitVec.ofNat 8 i.val)) (x : BitVec 8) : p x := by
  have := h ⟨x.toNat, x.isLt⟩
  simpa using this
theorem xt_msb : ∀ a : BitVec 8, xt a = (a <<< 1) ^^^ (if a.msb then 27#8 else 0#8) := fun a => all8 (p := fun a => xt a = (a <<< 1) ^^^ (if a.msb then 27#8 else 0#8)) (by decide +kernel) a
theorem xt_lin (a b : BitVec 8) : xt (a ^^^ b) = xt a ^^^ xt b := by
  simp only [xt_msb, BitVec.shiftLeft_xor_distrib, BitVec.msb_xor]
  rw [xor4]
  congr 1
  cases a.msb <;> cases b.msb <;> simp
theorem mul8_h1 : ∀ x : BitVec 8, gs xt (fun i => x.getLsbD i) 8 1#8 = x := fun x => all8 (p := fun x => gs xt (fun i => x.getLsbD i) 8 1#8 = x) (by decide +kernel) x
def F8 : Fld 8 := ⟨xt, xt_lin, fun x i => x.getLsbD i, fun a b i => BitVec.getLsbD_xor, 1#8, mul8_h1⟩
theorem bit1 (b : BitVec 8) (k : Nat) : ((b >>> k) &&& 1#8 != 0#8) = b.getLsbD k := by
  have : (b >>> k) &&& 1#8 = if b.getLsbD k then 1#8 else 0#8 := by
    apply BitVec.eq_of_getLsbD_eq
    intro i hi
    simp only [BitVec.getLsbD_and, BitVec.getLsbD_ushiftRight]
    by_cases h0 : i = 0
    · subst h0; cases h : b.getLsbD k <;> simp [h]
    · have : (1#8).getLsbD i = false := by simp [BitVec.getLsbD_one]; omega
      rw [this, Bool.and_false]
      cases b.getLsbD k <;> simp [BitVec.getLsbD_one]; omega
  rw [this]
  cases b.getLsbD k <;> decide
theorem mul8L_gs (a b : BitVec 8) : ∀ (n k : Nat), mul8L n (it xt k a) (b >>> k) (gs xt (fun i => b.getLsbD i) k a) = gs xt (fun i => b.getLsbD i) (k + n) a
  | 0, k => rfl
  | n + 1, k => by
    have ih := mul8L_gs a b n (k + 1)
    rw [show k + (n + 1) = k + 1 + n by omega, ← ih]
    simp only [mul8L]
    rw [bit1]
    congr 1
    simp only [gs]
    by_cases h : b.getLsbD k = true
    · rw [if_pos h, if_pos h]
    · rw [if_neg h, if_neg h, BitVec.xor_zero]
theorem mul8L_mul (a b : BitVec 8) : mul8L 8 a b 0#8 = F8.mul b a := by
  have := mul8L_gs a b 8 0
  rw [BitVec.ushiftRight_zero] at this
  exact this
/-! the document's product -/
def rS (k : Nat) (p : BitVec 64) : BitVec 64 := if ((p >>> (14 - k)) &&& 1#64) = 1#64 then p ^^^ (283#64 <<< (14 - k - 8)) else p
theorem bit1' (b : BitVec 64) (k : Nat) : ((b >>> k) &&& 1#64 = 1#64) ↔ b.getLsbD k = true := by
  have : (b >>> k) &&& 1#64 = if b.getLsbD k then 1#64 else 0#64 := by
    apply BitVec.eq_of_getLsbD_eq
    intro i hi
    simp only [BitVec.getLsbD_and, BitVec.getLsbD_ushiftRight]
    by_cases h0 : i = 0
    · subst h0; cases h : b.getLsbD k <;> simp [h]
    · have : (1#64).getLsbD i = false := by simp [BitVec.getLsbD_one]; omega
      rw [this, Bool.and_false]
      cases b.getLsbD k <;> simp [BitVec.getLsbD_one]; omega
  rw [this]
  cases b.getLsbD k <;> simp
theorem rS_lin (k : Nat) (p q : BitVec 64) : rS k (p ^^^ q) = rS k p ^^^ rS k q := by
  unfold rS
  simp only [bit1', BitVec.getLsbD_xor]
  cases p.getLsbD (14 - k) <;> cases q.getLsbD (14 - k) <;> simp
  · rw [BitVec.xor_assoc]
  · rw [BitVec.xor_assoc, BitVec.xor_assoc, BitVec.xor_comm q]
  · rw [xor4, BitVec.xor_self, BitVec.xor_zero]
theorem redN_rS (p : BitVec 64) (k : Nat) : redN p (k + 1) = rS k (redN p k) := rfl
theorem redN_lin (p q : BitVec 64) : ∀ k, redN (p ^^^ q) k = redN p k ^^^ redN q k
  | 0 => rfl
  | k + 1 => by rw [redN_rS, redN_rS, redN_rS, redN_lin p q k, rS_lin]
theorem redN_zero : ∀ k, redN 0#64 k = 0#64
  | 0 => rfl
  | k + 1 => by rw [redN_rS, redN_zero k]; unfold rS; simp
def rR (p : BitVec 64) : BitVec 8 := (rS 6 (rS 5 (rS 4 (rS 3 (rS 2 (rS 1 (rS 0 p))))))).setWidth 8
theorem red_shift : ∀ (i : Fin 8) (a : BitVec 8), rR (a.setWidth 64 <<< i.val) = it xt i.val a := fun i a =>
  all8 (p := fun a => ∀ i : Fin 8, rR (a.setWidth 64 <<< i.val) = it xt i.val a) (by decide +kernel) a i
theorem rR_red (p : BitVec 64) : (redN p 7).setWidth 8 = rR p := rfl
theorem ref8_gs (a b : BitVec 8) : ∀ k, k ≤ 8 → rR (accN a b k) = gs xt (fun i => b.getLsbD i) k a
  | 0, _ => by rw [← rR_red]; simp only [accN, redN_zero]; rfl
  | k + 1, hk => by
    have ih := ref8_gs a b k (by omega)
    have hb : ((b >>> k) &&& 1#8 = 1#8) ↔ b.getLsbD k = true := by
      have h1 := bit1 b k
      cases hb : b.getLsbD k
      · rw [hb] at h1; simp at h1; rw [h1]; simp
      · rw [hb] at h1
        have h2 : (b >>> k) &&& 1#8 = 0#8 ∨ (b >>> k) &&& 1#8 = 1#8 := by
          have : ∀ x : BitVec 8, x &&& 1#8 = 0#8 ∨ x &&& 1#8 = 1#8 := fun x => all8 (p := fun x => x &&& 1#8 = 0#8 ∨ x &&& 1#8 = 1#8) (by decide +kernel) x
          exact this _
        rcases h2 with h2 | h2
        · rw [h2] at h1; simp at h1
        · simp [h2]
    simp only [accN, gs, hb]
    by_cases h : b.getLsbD k = true
    case neg => rw [if_neg h, if_neg h, BitVec.xor_zero, ih]
    case pos =>
      rw [if_pos h, if_pos h]
      rw [← rR_red, redN_lin, BitVec.setWidth_xor, rR_red, rR_red, ih, red_shift ⟨k, by omega⟩ a]
theorem ref8_mul (a b : BitVec 8) : ref8 a b = F8.mul b a := by
  unfold ref8
  rw [rR_red, ref8_gs a b 8 (Nat.le_refl _)]
  rfl
theorem mul8_ref (a b : BitVec 8) : mul8L 8 a b 0#8 = ref8 a b := by rw [mul8L_mul, ref8_mul]
/-! inverses -/
theorem inv8_all : ∀ a : BitVec 8, mul8L 8 a (inv8 a) 0#8 = (if a = 0#8 then 0#8 else 1#8) ∧ (inv8 a = 0#8 ↔ a = 0#8) ∧ inv8 (inv8 a) = a := fun a =>
  all8 (p := fun a => mul8L 8 a (inv8 a) 0#8 = (if a = 0#8 then 0#8 else 1#8) ∧ (inv8 a = 0#8 ↔ a = 0#8) ∧ inv8 (inv8 a) = a) (by decide +kernel) a
theorem ref_inv (a : BitVec 8) : (∀ b : Nat, 1 ≤ b → b < 256 → ref8 a (BitVec.ofNat 8 b) = 1#8 → BitVec.ofNat 8 b = inv8 a) ∧ ((∀ b : Nat, 1 ≤ b → b < 256 → ref8 a (BitVec.ofNat 8 b) ≠ 1#8) → inv8 a = 0#8) := by
  have hi := inv8_all a
  refine ⟨fun b h1 h2 h => ?_, fun h => ?_⟩
  · rw [ref8_mul] at h
    have ha : a ≠ 0#8 := by
      rintro rfl
      rw [F8.mul_zero] at h
      cases h
    have h3 := hi.1
    rw [if_neg ha, mul8L_mul] at h3
    have h4 : F8.mul (inv8 a) (F8.mul (BitVec.ofNat 8 b) a) = inv8 a := by rw [h]; exact F8.mul_one _
    rw [F8.mul_left, h3] at h4
    rw [← h4]
    exact (F8.mul_one _).symm
  · by_cases ha : a = 0#8
    · exact hi.2.1.2 ha
    · have h3 := hi.1
      rw [if_neg ha, mul8_ref] at h3
      have hz : inv8 a ≠ 0#8 := fun e => ha (hi.2.1.1 e)
      have := h (inv8 a).toNat (Nat.pos_of_ne_zero (fun e => hz (BitVec.eq_of_toNat_eq (by simpa using e)))) (inv8 a).isLt
      rw [BitVec.ofNat_toNat, BitVec.setWidth_eq] at this
      exact absurd h3 this
theorem half_bit (x : List (BitVec 8)) (o : Nat) : ∀ k, k ≤ 8 → ∀ j, (halfN x o k).getLsbD j = (decide (j < 8 * k) && (x.getD (o + (k - 1 - j / 8)) 0#8).getLsbD (j % 8))
  | 0, _, j => by simp [halfN]
  | k + 1, hk, j => by
    have ih := half_bit x o k (by omega)
    simp only [halfN, BitVec.getLsbD_or, BitVec.getLsbD_shiftLeft, BitVec.getLsbD_setWidth, ih]
    by_cases h : j < 8
    · have e : j / 8 = 0 := by omega
      have e2 : j % 8 = j := by omega
      simp [h, e, e2, show j < 64 by omega, show j < 8 * (k + 1) by omega]
    · have e : (x.getD (o + k) 0#8).getLsbD j = false := BitVec.getLsbD_of_ge _ _ (by omega)
      rw [e]
      by_cases hj : j < 8 * (k + 1)
      · have e3 : o + (k + 1 - 1 - j / 8) = o + (k - 1 - (j - 8) / 8) := by omega
        have e4 : j % 8 = (j - 8) % 8 := by omega
        rw [e3, e4]
        simp [h, hj, show j < 64 by omega, show j - 8 < 8 * k by omega]
      · simp [h, hj, show ¬ j - 8 < 8 * k by omega]
def toB (x : List (BitVec 8)) : BitVec 128 := halfN x 0 8 ++ halfN x 8 8
def toL (v : BitVec 128) : List (BitVec 8) := gl 16 fun j => (v >>> (120 - 8 * j)).setWidth 8
theorem toB_bit (x : List (BitVec 8)) (j : Nat) (hj : j < 128) : (toB x).getLsbD j = (x.getD (15 - j / 8) 0#8).getLsbD (j % 8) := by
  unfold toB
  rw [BitVec.getLsbD_append]
  by_cases h : j < 64
  · simp only [h, cond_true, half_bit x 8 8 (by omega), if_true]
    rw [show 8 + (8 - 1 - j / 8) = 15 - j / 8 by omega]
    simp [h]
  · simp only [h, if_false, half_bit x 0 8 (by omega), decide_false, cond_false]
    rw [show 0 + (8 - 1 - (j - 64) / 8) = 15 - j / 8 by omega, show (j - 64) % 8 = j % 8 by omega]
    simp [show j - 64 < 64 by omega]
theorem toL_len (v : BitVec 128) : (toL v).length = 16 := gl_len
theorem toB_toL (v : BitVec 128) : toB (toL v) = v := by
  apply BitVec.eq_of_getLsbD_eq
  intro j hj
  rw [toB_bit _ _ hj]
  unfold toL
  rw [gl_getD (by omega), BitVec.getLsbD_setWidth, BitVec.getLsbD_ushiftRight]
  rw [show 120 - 8 * (15 - j / 8) + j % 8 = j by omega]
  simp [show j % 8 < 8 by omega]
theorem toL_toB (x : List (BitVec 8)) (hx : x.length = 16) : toL (toB x) = x := by
  symm
  refine gl_eq hx 0#8 fun i hi => ?_
  apply BitVec.eq_of_getLsbD_eq
  intro j hj
  rw [BitVec.getLsbD_setWidth, BitVec.getLsbD_ushiftRight, toB_bit _ _ (by omega)]
  rw [show 15 - (120 - 8 * i + j) / 8 = i by omega, show (120 - 8 * i + j) % 8 = j by omega]
  simp [hj]
theorem toB_inj {x y : List (BitVec 8)} (hx : x.length = 16) (hy : y.length = 16) (h : toB x = toB y) : x = y := by
  rw [← toL_toB x hx, ← toL_toB y hy, h]
theorem toB_xor (x y : List (BitVec 8)) : toB (xorL x y) = toB x ^^^ toB y := by
  apply BitVec.eq_of_getLsbD_eq
  intro j hj
  rw [BitVec.getLsbD_xor, toB_bit _ _ hj, toB_bit _ _ hj, toB_bit _ _ hj]
  unfold xorL
  rw [gl_getD (by omega), BitVec.getLsbD_xor]
def t128 (v : BitVec 128) : BitVec 128 := (v >>> 1) ^^^ (if v.getLsbD 0 then (225#128 <<< 120) else 0#128)
theorem t128_lin (a b : BitVec 128) : t128 (a ^^^ b) = t128 a ^^^ t128 b := by
  unfold t128
  rw [BitVec.ushiftRight_xor_distrib, BitVec.getLsbD_xor, xor_ite, xor4]
def o128 : BitVec 128 := 1#128 <<< 127
theorem it128 : ∀ i : Fin 128, it t128 i.val o128 = 1#128 <<< (127 - i.val) := by decide +kernel
theorem h128 (v : BitVec 128) : ∀ k, k ≤ 128 → ∀ j, j < 128 → (gs t128 (fun i => v.getMsbD i) k o128).getLsbD j = (v.getLsbD j && decide (128 ≤ j + k))
  | 0, _, j, hj => by simp [gs]; omega
  | k + 1, hk, j, hj => by
    simp only [gs]
    rw [BitVec.getLsbD_xor, h128 v k (by omega) j hj, it128 ⟨k, by omega⟩]
    have e : v.getMsbD k = v.getLsbD (127 - k) := by simp [BitVec.getMsbD]; omega
    simp only [e]
    by_cases h : j = 127 - k
    · subst h
      have e1 : ((1#128 <<< (127 - k)).getLsbD (127 - k)) = true := by simp [BitVec.getLsbD_shiftLeft]; omega
      by_cases hv : v.getLsbD (127 - k) = true
      · rw [if_pos hv, e1, hv]
        simp [show ¬ 128 ≤ 127 - k + k by omega, show 128 ≤ 127 - k + (k + 1) by omega]
      · rw [if_neg hv]
        simp [hv]
    · have e1 : ((1#128 <<< (127 - k)).getLsbD j) = false := by
        rw [BitVec.getLsbD_shiftLeft, BitVec.getLsbD_one]
        simp; omega
      have e2 : (if v.getLsbD (127 - k) = true then 1#128 <<< (127 - k) else 0#128).getLsbD j = false := by
        split
        · exact e1
        · simp
      rw [e2]
      simp only [Bool.bne_false]
      congr 1
      rw [decide_eq_decide]
      omega
def F128 : Fld 128 := ⟨t128, t128_lin, fun v i => v.getMsbD i, fun a b i => BitVec.getMsbD_xor, o128, fun v => by
  apply BitVec.eq_of_getLsbD_eq
  intro j hj
  rw [h128 v 128 (Nat.le_refl _) j hj]
  simp⟩
theorem byte1 (b : BitVec 8) (k : Nat) : ((b >>> k) &&& 1#8) = if b.getLsbD k then 1#8 else 0#8 := by
  apply BitVec.eq_of_getLsbD_eq
  intro i hi
  simp only [BitVec.getLsbD_and, BitVec.getLsbD_ushiftRight]
  by_cases h0 : i = 0
  · subst h0; cases h : b.getLsbD k <;> simp [h]
  · have : (1#8).getLsbD i = false := by simp [BitVec.getLsbD_one]; omega
    rw [this, Bool.and_false]
    cases b.getLsbD k <;> simp [BitVec.getLsbD_one]; omega
theorem word1 (b : BitVec 64) : (b &&& 1#64) = if b.getLsbD 0 then 1#64 else 0#64 := by
  apply BitVec.eq_of_getLsbD_eq
  intro i hi
  simp only [BitVec.getLsbD_and]
  by_cases h0 : i = 0
  · subst h0; cases h : b.getLsbD 0 <;> simp [h]
  · have : (1#64).getLsbD i = false := by simp [BitVec.getLsbD_one]; omega
    rw [this, Bool.and_false]
    cases b.getLsbD 0 <;> simp [BitVec.getLsbD_one]; omega
theorem toB_msb (x : List (BitVec 8)) (i : Nat) (hi : i < 128) : (toB x).getMsbD i = (x.getD (i / 8) 0#8).getLsbD (7 - i % 8) := by
  rw [BitVec.getMsbD, toB_bit _ _ (by omega)]
  rw [show 15 - (128 - 1 - i) / 8 = i / 8 by omega, show (128 - 1 - i) % 8 = 7 - i % 8 by omega]
  simp [hi]
theorem xb_bit (x : List (BitVec 8)) (i : Nat) (hi : i < 128) : xb x i = (toB x).getMsbD i := by
  unfold xb
  rw [byte1, toB_msb _ _ hi]
  cases (x.getD (i / 8) 0#8).getLsbD (7 - i % 8) <;> decide
theorem tAB (a b : BitVec 64) : tA a b ++ tB a b = t128 (a ++ b) := by
  have hA : tA a b = (a >>> 1) ^^^ (if b.getLsbD 0 then 16212958658533785600#64 else 0#64) := by
    unfold tA
    rw [word1]
    cases b.getLsbD 0 <;> simp
  have h0 : (a ++ b).getLsbD 0 = b.getLsbD 0 := by rw [BitVec.getLsbD_append]; simp
  have hR : (225#128 <<< 120) = (16212958658533785600#64 ++ 0#64 : BitVec 128) := by decide +kernel
  have hx : ∀ p q r s : BitVec 64, (p ^^^ q) ++ (r ^^^ s) = (p ++ r) ^^^ (q ++ s) := fun p q r s => by rw [BitVec.xor_append]
  have hs : (a ++ b) >>> 1 = (a >>> 1) ++ tB a b := by
    apply BitVec.eq_of_getLsbD_eq
    intro j hj
    unfold tB
    rw [BitVec.getLsbD_ushiftRight, BitVec.getLsbD_append, BitVec.getLsbD_append, BitVec.getLsbD_or, BitVec.getLsbD_ushiftRight, BitVec.getLsbD_ushiftRight, BitVec.getLsbD_shiftLeft]
    by_cases h1 : j < 63
    · simp [show 1 + j < 64 by omega, show j < 64 by omega, h1]
    · by_cases h2 : j = 63
      · subst h2; simp
      · have e : b.getLsbD (1 + j) = false := BitVec.getLsbD_of_ge _ _ (by omega)
        simp [show ¬ 1 + j < 64 by omega, show ¬ j < 64 by omega]
        congr 1; omega
  rw [hA]
  by_cases hb : b.getLsbD 0 = true
  · rw [if_pos hb]
    unfold t128
    rw [h0, if_pos hb, hs, hR]
    have hxx := hx (a >>> 1) 16212958658533785600#64 (tB a b) 0#64
    rw [BitVec.xor_zero] at hxx
    exact hxx
  · rw [if_neg hb]
    unfold t128
    rw [h0, if_neg hb, hs, BitVec.xor_zero, BitVec.xor_zero]
theorem mulN_it (x : List (BitVec 8)) (a b : BitVec 64) : ∀ k, k ≤ 128 → (mulN x a b k).2.2.1 ++ (mulN x a b k).2.2.2 = it t128 k (a ++ b) ∧ (mulN x a b k).1 ++ (mulN x a b k).2.1 = gs t128 (fun i => (toB x).getMsbD i) k (a ++ b)
  | 0, _ => ⟨rfl, by simp only [mulN, gs]; decide⟩
  | k + 1, hk => by
    obtain ⟨h1, h2⟩ := mulN_it x a b k (by omega)
    simp only [mulN, it, gs]
    refine ⟨by rw [tAB, h1], ?_⟩
    rw [xb_bit x k (by omega), ← h2, ← h1]
    by_cases h : (toB x).getMsbD k = true
    · rw [if_pos h, if_pos h, if_pos h, BitVec.xor_append]
    · rw [if_neg h, if_neg h, if_neg h, BitVec.xor_zero]
theorem toL_app (hi lo : BitVec 64) : outL hi lo = toL (hi ++ lo) := by
  unfold outL toL
  refine gl_ext fun i h => ?_
  apply BitVec.eq_of_getLsbD_eq
  intro j hj
  rw [BitVec.getLsbD_setWidth, BitVec.getLsbD_ushiftRight, BitVec.getLsbD_append]
  by_cases h8 : i < 8
  · rw [if_pos h8, BitVec.getLsbD_setWidth, BitVec.getLsbD_ushiftRight]
    simp [show ¬ 120 - 8 * i + j < 64 by omega, hj]
    congr 1; omega
  · rw [if_neg h8, BitVec.getLsbD_setWidth, BitVec.getLsbD_ushiftRight]
    rw [show 56 - 8 * (i - 8) + j = 120 - 8 * i + j by omega]
    simp [show 120 - 8 * i + j < 64 by omega, hj]
theorem mulL_F (x y : List (BitVec 8)) : mulL x y = toL (F128.mul (toB x) (toB y)) := by
  unfold mulL
  rw [toL_app, (mulN_it x _ _ 128 (Nat.le_refl _)).2]
  rfl
theorem times_t (x : List (BitVec 8)) : toB (timesL x) = t128 (toB x) := by
  apply BitVec.eq_of_getLsbD_eq
  intro j hj
  rw [toB_bit _ _ hj]
  unfold timesL t128
  rw [gl_getD (by omega), BitVec.getLsbD_xor, BitVec.getLsbD_ushiftRight]
  have h0 : (toB x).getLsbD 0 = (x.getD 15 0#8).getLsbD 0 := toB_bit x 0 (by omega)
  have hb : (x.getD 15 0#8 &&& 1#8) = if (x.getD 15 0#8).getLsbD 0 then 1#8 else 0#8 := by
    have := byte1 (x.getD 15 0#8) 0
    rwa [BitVec.ushiftRight_zero] at this
  rw [h0, hb]
  have hR : ∀ j, j < 128 → (225#128 <<< 120).getLsbD j = (decide (120 ≤ j) && (225#8).getLsbD (j - 120)) := by
    have : ∀ j : Fin 128, (225#128 <<< 120).getLsbD j.val = (decide (120 ≤ j.val) && (225#8).getLsbD (j.val - 120)) := by decide +kernel
    exact fun j hj => this ⟨j, hj⟩
  by_cases h15 : 15 - j / 8 = 0
  · rw [if_pos h15]
    have hs : (toB x).getLsbD (1 + j) = (x.getD 0 0#8 >>> 1).getLsbD (j % 8) := by
      rw [BitVec.getLsbD_ushiftRight]
      by_cases h7 : j = 127
      · subst h7
        rw [BitVec.getLsbD_of_ge _ _ (by omega), BitVec.getLsbD_of_ge _ _ (by omega)]
      · rw [toB_bit _ _ (by omega), show 15 - (1 + j) / 8 = 0 by omega, show (1 + j) % 8 = 1 + j % 8 by omega]
    rw [hs]
    cases (x.getD 15 0#8).getLsbD 0
    · simp
    · simp only [if_true]
      rw [BitVec.getLsbD_xor, hR j hj, show j - 120 = j % 8 by omega]
      simp [show 120 ≤ j by omega]
  · rw [if_neg h15]
    have e : (if (x.getD 15 0#8).getLsbD 0 = true then 225#128 <<< 120 else 0#128).getLsbD j = false := by
      split
      · rw [hR j hj]; simp; omega
      · simp
    rw [e, Bool.xor_false, toB_bit _ _ (by omega), BitVec.getLsbD_or, BitVec.getLsbD_ushiftRight, BitVec.getLsbD_shiftLeft]
    by_cases h7 : j % 8 = 7
    · rw [h7, BitVec.getLsbD_of_ge _ (1 + 7) (by omega)]
      rw [show 15 - (1 + j) / 8 = 15 - j / 8 - 1 by omega, show (1 + j) % 8 = 0 by omega]
      simp
    · rw [show 15 - (1 + j) / 8 = 15 - j / 8 by omega, show (1 + j) % 8 = 1 + j % 8 by omega]
      simp [show j % 8 < 7 by omega]
theorem refN_F (x y : List (BitVec 8)) : ∀ k, k ≤ 128 → toB (refN x y k).2 = it t128 k (toB y) ∧ toB (refN x y k).1 = gs t128 (fun i => (toB x).getMsbD i) k (toB y)
  | 0, _ => ⟨rfl, by simp only [refN, gs]; decide +kernel⟩
  | k + 1, hk => by
    obtain ⟨h1, h2⟩ := refN_F x y k (by omega)
    simp only [refN, it, gs]
    refine ⟨by rw [times_t, h1], ?_⟩
    rw [byte1, ← toB_msb x k (by omega), ← h2, ← h1]
    by_cases h : (toB x).getMsbD k = true
    · rw [if_pos h, if_pos h, if_pos rfl, toB_xor]
    · rw [if_neg h, if_neg h, if_neg (by decide), BitVec.xor_zero]
theorem ref128 (x y : List (BitVec 8)) (hy : y.length = 16) : (refN x y 128).1 = mulL x y := by
  rw [mulL_F]
  refine toB_inj (refN_len x y hy 128).1 (toL_len _) ?_
  rw [toB_toL, (refN_F x y 128 (Nat.le_refl _)).2]
  rfl
end Go.Proofs.YtbiolfeincepoaaGreatDoor.Eng
