/- Plain algebra: products as sums of shifted terms, over rows of bits. -/
import Derived.Test.YtbiolfeincepoaaLs
namespace Go.Proofs.Ytbiolfeincepoaa.Eng
open Go
set_option linter.unusedSimpArgs false
set_option linter.unusedVariables false

section
variable {w : Nat}
/-- n steps of t -/
def it (t : BitVec w → BitVec w) : Nat → BitVec w → BitVec w
  | 0, y => y
  | n + 1, y => t (it t n y)
/-- the sum of the first n terms t^i y for which f holds -/
def gs (t : BitVec w → BitVec w) (f : Nat → Bool) : Nat → BitVec w → BitVec w
  | 0, _ => 0#w
  | n + 1, y => gs t f n y ^^^ (if f n then it t n y else 0#w)

theorem xor4 (a b c d : BitVec w) : (a ^^^ b) ^^^ (c ^^^ d) = (a ^^^ c) ^^^ (b ^^^ d) := by
  simp only [BitVec.xor_assoc]
  congr 1
  rw [← BitVec.xor_assoc, ← BitVec.xor_assoc, BitVec.xor_comm b c]

theorem xor_ite (a b : Bool) (z : BitVec w) : (if (a ^^ b) = true then z else 0#w) = (if a = true then z else 0#w) ^^^ (if b = true then z else 0#w) := by
  cases a <;> cases b <;> simp

variable {t : BitVec w → BitVec w} (ht : ∀ a b, t (a ^^^ b) = t a ^^^ t b)
include ht
theorem it_xor (n : Nat) (a b : BitVec w) : it t n (a ^^^ b) = it t n a ^^^ it t n b := by
  induction n with
  | zero => rfl
  | succ n ih => simp only [it, ih, ht]
theorem t_zero : t 0#w = 0#w := by
  have := ht 0#w 0#w
  rw [BitVec.xor_self] at this
  rw [this, BitVec.xor_self]
theorem it_zero (n : Nat) : it t n 0#w = 0#w := by
  induction n with
  | zero => rfl
  | succ n ih => simp only [it, ih, t_zero ht]
omit ht in
theorem it_t (n : Nat) (y : BitVec w) : it t n (t y) = t (it t n y) := by
  induction n with
  | zero => rfl
  | succ n ih => simp only [it, ih]
theorem gs_xor (f : Nat → Bool) (n : Nat) (a b : BitVec w) : gs t f n (a ^^^ b) = gs t f n a ^^^ gs t f n b := by
  induction n with
  | zero => simp [gs]
  | succ n ih =>
    simp only [gs, ih]
    cases f n
    · simp
    · simp only [if_true, it_xor ht, xor4]
theorem gs_zero (f : Nat → Bool) (n : Nat) : gs t f n 0#w = 0#w := by
  induction n with
  | zero => rfl
  | succ n ih => simp only [gs, ih, it_zero ht, ite_self, BitVec.xor_self]
theorem gs_t (f : Nat → Bool) (n : Nat) (y : BitVec w) : gs t f n (t y) = t (gs t f n y) := by
  induction n with
  | zero => simp [gs, t_zero ht]
  | succ n ih =>
    simp only [gs, ih, ht, it_t]
    cases f n
    · simp [t_zero ht]
    · simp
theorem gs_it (f : Nat → Bool) (n k : Nat) (y : BitVec w) : gs t f n (it t k y) = it t k (gs t f n y) := by
  induction k with
  | zero => rfl
  | succ k ih => simp only [it, gs_t ht, ih]
theorem gs_comm (f g : Nat → Bool) (n m : Nat) (y : BitVec w) : gs t f n (gs t g m y) = gs t g m (gs t f n y) := by
  induction n with
  | zero => simp [gs, gs_zero ht]
  | succ n ih =>
    simp only [gs, ih, gs_xor ht]
    cases f n
    · simp [gs_zero ht]
    · simp [gs_it ht]
omit ht in
theorem gs_add (f g : Nat → Bool) (n : Nat) (y : BitVec w) : gs t (fun i => f i ^^ g i) n y = gs t f n y ^^^ gs t g n y := by
  induction n with
  | zero => simp [gs]
  | succ n ih =>
    simp only [gs, ih]
    rw [xor_ite, xor4]
omit ht in
theorem gs_congr {f g : Nat → Bool} (n : Nat) (h : ∀ i, i < n → f i = g i) (y : BitVec w) : gs t f n y = gs t g n y := by
  induction n with
  | zero => rfl
  | succ n ih => simp only [gs, ih (fun i hi => h i (by omega)), h n (by omega)]
end

/-- a product that is a sum of shifted terms, with its one -/
structure Fld (w : Nat) where
  t : BitVec w → BitVec w
  lin : ∀ a b, t (a ^^^ b) = t a ^^^ t b
  bit : BitVec w → Nat → Bool
  bit_xor : ∀ a b i, bit (a ^^^ b) i = (bit a i ^^ bit b i)
  one : BitVec w
  h1 : ∀ x, gs t (bit x) w one = x

namespace Fld
variable {w : Nat} (F : Fld w)
def mul (x y : BitVec w) : BitVec w := gs F.t (F.bit x) w y
theorem mul_one (x : BitVec w) : F.mul x F.one = x := F.h1 x
theorem mul_comm (x y : BitVec w) : F.mul x y = F.mul y x := by
  have : F.mul x y = gs F.t (F.bit x) w (gs F.t (F.bit y) w F.one) := by rw [F.h1]; rfl
  rw [this, gs_comm F.lin, F.h1]
  rfl
theorem one_mul (x : BitVec w) : F.mul F.one x = x := by rw [F.mul_comm, F.mul_one]
theorem mul_left (x y z : BitVec w) : F.mul x (F.mul y z) = F.mul y (F.mul x z) := gs_comm F.lin _ _ _ _ _
theorem mul_assoc (x y z : BitVec w) : F.mul (F.mul x y) z = F.mul x (F.mul y z) := by
  rw [F.mul_comm (F.mul x y) z, F.mul_left, F.mul_comm z y]
theorem mul_xor (x y z : BitVec w) : F.mul x (y ^^^ z) = F.mul x y ^^^ F.mul x z := gs_xor F.lin _ _ _ _
theorem xor_mul (x y z : BitVec w) : F.mul (x ^^^ y) z = F.mul x z ^^^ F.mul y z := by
  rw [F.mul_comm, F.mul_xor, F.mul_comm z x, F.mul_comm z y]
theorem mul_zero (x : BitVec w) : F.mul x 0#w = 0#w := gs_zero F.lin _ _
theorem zero_mul (x : BitVec w) : F.mul 0#w x = 0#w := by rw [F.mul_comm, F.mul_zero]
theorem sq_xor (x y : BitVec w) : F.mul (x ^^^ y) (x ^^^ y) = F.mul x x ^^^ F.mul y y := by
  rw [F.mul_xor, F.xor_mul, F.xor_mul, F.mul_comm y x]
  rw [BitVec.xor_assoc, ← BitVec.xor_assoc (F.mul x y), BitVec.xor_self, BitVec.zero_xor]
theorem sq_mul (x y : BitVec w) : F.mul (F.mul x y) (F.mul x y) = F.mul (F.mul x x) (F.mul y y) := by
  rw [F.mul_assoc, F.mul_left y, ← F.mul_assoc]
end Fld
end Go.Proofs.Ytbiolfeincepoaa.Eng
