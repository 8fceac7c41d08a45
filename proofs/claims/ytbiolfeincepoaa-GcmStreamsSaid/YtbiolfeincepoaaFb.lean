/- The field of bytes: field.Mul8 and the document's product are one, and it is a field's. -/
import Derived.Test.YtbiolfeincepoaaFa
import Derived.Test.YtbiolfeincepoaaT8
namespace Go.Proofs.Ytbiolfeincepoaa.Eng
open Go
set_option linter.unusedSimpArgs false
set_option linter.unusedVariables false

theorem all8 {p : BitVec 8 → Prop} (h : ∀ i : Fin 256, p (BitVec.ofNat 8 i.val)) (x : BitVec 8) : p x := by
  have := h ⟨x.toNat, x.isLt⟩
  simpa using this

theorem xt_msb : ∀ a : BitVec 8, xt a = (a <<< 1) ^^^ (if a.msb then 27#8 else 0#8) := fun a => all8 (p := fun a => xt a = (a <<< 1) ^^^ (if a.msb then 27#8 else 0#8)) (by decide +kernel) a
theorem xt_lin (a b : BitVec 8) : xt (a ^^^ b) = xt a ^^^ xt b := by
  simp only [xt_msb, BitVec.shiftLeft_xor_distrib, BitVec.msb_xor]
  rw [xor4]
  congr 1
  cases a.msb <;> cases b.msb <;> simp
theorem mul8_h1 : ∀ x : BitVec 8, gs xt (fun i => x.getLsbD i) 8 1#8 = x := fun x => all8 (p := fun x => gs xt (fun i => x.getLsbD i) 8 1#8 = x) (by decide +kernel) x
def F8 : Fld 8 := ⟨xt, xt_lin, fun x i => x.getLsbD i, fun a b i => BitVec.getLsbD_xor, 1#8, mul8_h1⟩

theorem bit1 (b : BitVec 8) (k : Nat) : ((b >>> k) &&& 1#8 != 0#8) = b.getLsbD k := by
  have : (b >>> k) &&& 1#8 = if b.getLsbD k then 1#8 else 0#8 := by
    apply BitVec.eq_of_getLsbD_eq
    intro i hi
    simp only [BitVec.getLsbD_and, BitVec.getLsbD_ushiftRight]
    by_cases h0 : i = 0
    · subst h0; cases h : b.getLsbD k <;> simp [h]
    · have : (1#8).getLsbD i = false := by simp [BitVec.getLsbD_one]; omega
      rw [this, Bool.and_false]
      cases b.getLsbD k <;> simp [BitVec.getLsbD_one]; omega
  rw [this]
  cases b.getLsbD k <;> decide

theorem mul8L_gs (a b : BitVec 8) : ∀ (n k : Nat), mul8L n (it xt k a) (b >>> k) (gs xt (fun i => b.getLsbD i) k a) = gs xt (fun i => b.getLsbD i) (k + n) a
  | 0, k => rfl
  | n + 1, k => by
    have ih := mul8L_gs a b n (k + 1)
    rw [show k + (n + 1) = k + 1 + n by omega, ← ih]
    simp only [mul8L]
    rw [bit1]
    congr 1
    simp only [gs]
    by_cases h : b.getLsbD k = true
    · rw [if_pos h, if_pos h]
    · rw [if_neg h, if_neg h, BitVec.xor_zero]
theorem mul8L_mul (a b : BitVec 8) : mul8L 8 a b 0#8 = F8.mul b a := by
  have := mul8L_gs a b 8 0
  rw [BitVec.ushiftRight_zero] at this
  exact this

/-! the document's product -/
def rS (k : Nat) (p : BitVec 64) : BitVec 64 := if ((p >>> (14 - k)) &&& 1#64) = 1#64 then p ^^^ (283#64 <<< (14 - k - 8)) else p
theorem bit1' (b : BitVec 64) (k : Nat) : ((b >>> k) &&& 1#64 = 1#64) ↔ b.getLsbD k = true := by
  have : (b >>> k) &&& 1#64 = if b.getLsbD k then 1#64 else 0#64 := by
    apply BitVec.eq_of_getLsbD_eq
    intro i hi
    simp only [BitVec.getLsbD_and, BitVec.getLsbD_ushiftRight]
    by_cases h0 : i = 0
    · subst h0; cases h : b.getLsbD k <;> simp [h]
    · have : (1#64).getLsbD i = false := by simp [BitVec.getLsbD_one]; omega
      rw [this, Bool.and_false]
      cases b.getLsbD k <;> simp [BitVec.getLsbD_one]; omega
  rw [this]
  cases b.getLsbD k <;> simp
theorem rS_lin (k : Nat) (p q : BitVec 64) : rS k (p ^^^ q) = rS k p ^^^ rS k q := by
  unfold rS
  simp only [bit1', BitVec.getLsbD_xor]
  cases p.getLsbD (14 - k) <;> cases q.getLsbD (14 - k) <;> simp
  · rw [BitVec.xor_assoc]
  · rw [BitVec.xor_assoc, BitVec.xor_assoc, BitVec.xor_comm q]
  · rw [xor4, BitVec.xor_self, BitVec.xor_zero]
theorem redN_rS (p : BitVec 64) (k : Nat) : redN p (k + 1) = rS k (redN p k) := rfl
theorem redN_lin (p q : BitVec 64) : ∀ k, redN (p ^^^ q) k = redN p k ^^^ redN q k
  | 0 => rfl
  | k + 1 => by rw [redN_rS, redN_rS, redN_rS, redN_lin p q k, rS_lin]
theorem redN_zero : ∀ k, redN 0#64 k = 0#64
  | 0 => rfl
  | k + 1 => by rw [redN_rS, redN_zero k]; unfold rS; simp
def rR (p : BitVec 64) : BitVec 8 := (rS 6 (rS 5 (rS 4 (rS 3 (rS 2 (rS 1 (rS 0 p))))))).setWidth 8
theorem red_shift : ∀ (i : Fin 8) (a : BitVec 8), rR (a.setWidth 64 <<< i.val) = it xt i.val a := fun i a =>
  all8 (p := fun a => ∀ i : Fin 8, rR (a.setWidth 64 <<< i.val) = it xt i.val a) (by decide +kernel) a i
theorem rR_red (p : BitVec 64) : (redN p 7).setWidth 8 = rR p := rfl
theorem ref8_gs (a b : BitVec 8) : ∀ k, k ≤ 8 → rR (accN a b k) = gs xt (fun i => b.getLsbD i) k a
  | 0, _ => by rw [← rR_red]; simp only [accN, redN_zero]; rfl
  | k + 1, hk => by
    have ih := ref8_gs a b k (by omega)
    have hb : ((b >>> k) &&& 1#8 = 1#8) ↔ b.getLsbD k = true := by
      have h1 := bit1 b k
      cases hb : b.getLsbD k
      · rw [hb] at h1; simp at h1; rw [h1]; simp
      · rw [hb] at h1
        have h2 : (b >>> k) &&& 1#8 = 0#8 ∨ (b >>> k) &&& 1#8 = 1#8 := by
          have : ∀ x : BitVec 8, x &&& 1#8 = 0#8 ∨ x &&& 1#8 = 1#8 := fun x => all8 (p := fun x => x &&& 1#8 = 0#8 ∨ x &&& 1#8 = 1#8) (by decide +kernel) x
          exact this _
        rcases h2 with h2 | h2
        · rw [h2] at h1; simp at h1
        · simp [h2]
    simp only [accN, gs, hb]
    by_cases h : b.getLsbD k = true
    case neg => rw [if_neg h, if_neg h, BitVec.xor_zero, ih]
    case pos =>
      rw [if_pos h, if_pos h]
      rw [← rR_red, redN_lin, BitVec.setWidth_xor, rR_red, rR_red, ih, red_shift ⟨k, by omega⟩ a]
theorem ref8_mul (a b : BitVec 8) : ref8 a b = F8.mul b a := by
  unfold ref8
  rw [rR_red, ref8_gs a b 8 (Nat.le_refl _)]
  rfl
theorem mul8_ref (a b : BitVec 8) : mul8L 8 a b 0#8 = ref8 a b := by rw [mul8L_mul, ref8_mul]

/-! inverses -/
theorem inv8_all : ∀ a : BitVec 8, mul8L 8 a (inv8 a) 0#8 = (if a = 0#8 then 0#8 else 1#8) ∧ (inv8 a = 0#8 ↔ a = 0#8) ∧ inv8 (inv8 a) = a := fun a =>
  all8 (p := fun a => mul8L 8 a (inv8 a) 0#8 = (if a = 0#8 then 0#8 else 1#8) ∧ (inv8 a = 0#8 ↔ a = 0#8) ∧ inv8 (inv8 a) = a) (by decide +kernel) a

theorem ref_inv (a : BitVec 8) : (∀ b : Nat, 1 ≤ b → b < 256 → ref8 a (BitVec.ofNat 8 b) = 1#8 → BitVec.ofNat 8 b = inv8 a) ∧ ((∀ b : Nat, 1 ≤ b → b < 256 → ref8 a (BitVec.ofNat 8 b) ≠ 1#8) → inv8 a = 0#8) := by
  have hi := inv8_all a
  refine ⟨fun b h1 h2 h => ?_, fun h => ?_⟩
  · rw [ref8_mul] at h
    have ha : a ≠ 0#8 := by
      rintro rfl
      rw [F8.mul_zero] at h
      cases h
    have h3 := hi.1
    rw [if_neg ha, mul8L_mul] at h3
    have h4 : F8.mul (inv8 a) (F8.mul (BitVec.ofNat 8 b) a) = inv8 a := by rw [h]; exact F8.mul_one _
    rw [F8.mul_left, h3] at h4
    rw [← h4]
    exact (F8.mul_one _).symm
  · by_cases ha : a = 0#8
    · exact hi.2.1.2 ha
    · have h3 := hi.1
      rw [if_neg ha, mul8_ref] at h3
      have hz : inv8 a ≠ 0#8 := fun e => ha (hi.2.1.1 e)
      have := h (inv8 a).toNat (Nat.pos_of_ne_zero (fun e => hz (BitVec.eq_of_toNat_eq (by simpa using e)))) (inv8 a).isLt
      rw [BitVec.ofNat_toNat, BitVec.setWidth_eq] at this
      exact absurd h3 this
end Go.Proofs.Ytbiolfeincepoaa.Eng
