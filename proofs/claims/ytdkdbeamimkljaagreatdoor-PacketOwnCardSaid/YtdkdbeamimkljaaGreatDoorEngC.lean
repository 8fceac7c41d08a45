/- The engine, part C: operators on words, integers and bools. -/
import Derived.Test.YtdkdbeamimkljaaGreatDoorEngK
namespace Go.Proofs.YtdkdbeamimkljaaGreatDoor.Eng
open Go Go.RowKit
set_option linter.unusedSimpArgs false
set_option linter.unusedVariables false
section words
variable {k : IntKind}
theorem wrapU (hk : k.signed = false) (z : Int) : k.wrap z = ((BitVec.ofInt k.bits z).toNat : Int) := by
  have h2 : (2 : Int) ^ k.bits = ((2 ^ k.bits : Nat) : Int) := by norm_cast
  have hp : (0 : Int) < ((2 ^ k.bits : Nat) : Int) := by exact_mod_cast Nat.two_pow_pos _
  unfold IntKind.wrap
  simp only [hk, Bool.false_and, Bool.false_eq_true, if_false, BitVec.toNat_ofInt, h2]
  have := Int.emod_nonneg z (Int.ne_of_gt hp)
  omega
theorem ofInt_self {n : Nat} (a : BitVec n) : BitVec.ofInt n (a.toNat : Int) = a := by
  rw [BitVec.ofInt_natCast]; simp
theorem wrapU_self (hk : k.signed = false) (a : BitVec k.bits) : k.wrap (a.toNat : Int) = (a.toNat : Int) := by
  rw [wrapU hk, ofInt_self]
theorem wrapU_add (hk : k.signed = false) (a b : BitVec k.bits) : k.wrap ((a.toNat : Int) + b.toNat) = ((a + b).toNat : Int) := by
  rw [wrapU hk, BitVec.ofInt_add, ofInt_self, ofInt_self]
theorem wrapU_mul (hk : k.signed = false) (a b : BitVec k.bits) : k.wrap ((a.toNat : Int) * b.toNat) = ((a * b).toNat : Int) := by
  rw [wrapU hk, BitVec.ofInt_mul, ofInt_self, ofInt_self]
theorem wrapU_sub (hk : k.signed = false) (a b : BitVec k.bits) : k.wrap ((a.toNat : Int) - b.toNat) = ((a - b).toNat : Int) := by
  rw [wrapU hk, Int.sub_eq_add_neg, BitVec.ofInt_add, BitVec.ofInt_neg, ofInt_self, ofInt_self, ← BitVec.sub_eq_add_neg]
theorem wrapU_quo (hk : k.signed = false) (a b : BitVec k.bits) : k.wrap ((a.toNat : Int).tdiv b.toNat) = ((a / b).toNat : Int) := by
  have : ((a.toNat : Int).tdiv b.toNat) = ((a / b).toNat : Int) := by
    rw [BitVec.toNat_udiv, ← Int.ofNat_tdiv]
  rw [this, wrapU_self hk]
theorem tmodU (a b : BitVec k.bits) : ((a.toNat : Int).tmod b.toNat) = ((a % b).toNat : Int) := by
  rw [BitVec.toNat_umod, ← Int.ofNat_tmod]
theorem wrapU_shl (hk : k.signed = false) (a : BitVec k.bits) (n : Nat) : k.wrap ((a.toNat : Int) * 2 ^ min n k.bits) = ((a <<< n).toNat : Int) := by
  rw [wrapU hk]
  have h2 : ((2 : Int) ^ min n k.bits) = ((2 ^ min n k.bits : Nat) : Int) := by norm_cast
  have e : ((a.toNat : Int) * 2 ^ min n k.bits) = ((a.toNat * 2 ^ min n k.bits : Nat) : Int) := by rw [h2]; norm_cast
  rw [e, BitVec.ofInt_natCast, BitVec.toNat_ofNat, BitVec.toNat_shiftLeft, Nat.shiftLeft_eq]
  by_cases h : n ≤ k.bits
  · rw [Nat.min_eq_left h]
  · rw [Nat.min_eq_right (by omega)]
    have h1 : a.toNat * 2 ^ n % 2 ^ k.bits = 0 := by
      have : 2 ^ n = 2 ^ k.bits * 2 ^ (n - k.bits) := by rw [← Nat.pow_add]; congr 1; omega
      rw [this, ← Nat.mul_assoc, Nat.mul_comm a.toNat, Nat.mul_assoc]
      exact Nat.mul_mod_right _ _
    rw [h1, Nat.mul_mod_left]
theorem fdivU_shr (a : BitVec k.bits) (n : Nat) : (a.toNat : Int).fdiv (2 ^ min n k.bits) = ((a >>> n).toNat : Int) := by
  have h2 : ((2 : Int) ^ min n k.bits) = ((2 ^ min n k.bits : Nat) : Int) := by norm_cast
  rw [h2, Int.fdiv_eq_ediv_of_nonneg _ (Int.natCast_nonneg _), BitVec.toNat_ushiftRight, Nat.shiftRight_eq_div_pow]
  by_cases h : n ≤ k.bits
  · rw [Nat.min_eq_left h]; norm_cast
  · rw [Nat.min_eq_right (by omega)]
    have ha := a.isLt
    have h1 : a.toNat / 2 ^ n = 0 := Nat.div_eq_of_lt (Nat.lt_of_lt_of_le ha (Nat.pow_le_pow_right (by omega) (by omega)))
    have h3 : a.toNat / 2 ^ k.bits = 0 := Nat.div_eq_of_lt ha
    rw [h1]
    have : (a.toNat : Int) / ((2 ^ k.bits : Nat) : Int) = ((a.toNat / 2 ^ k.bits : Nat) : Int) := by norm_cast
    rw [this, h3]
end words
def bvC {n : Nat} (op : BinOp) (a b : BitVec n) (mk : BitVec n → SV) (K : SV → Prop) : Prop :=
  match op with
  | .add => K (mk (a + b))
  | .sub => K (mk (a - b))
  | .mul => K (mk (a * b))
  | .quo => b ≠ 0#n ∧ K (mk (a / b))
  | .rem => b ≠ 0#n ∧ K (mk (a % b))
  | .and => K (mk (a &&& b))
  | .or => K (mk (a ||| b))
  | .xor => K (mk (a ^^^ b))
  | .andNot => K (mk (a &&& ~~~b))
  | .shl => K (mk (a <<< b.toNat))
  | .shr => K (mk (a >>> b.toNat))
  | .eql => K (.b (a == b))
  | .neq => K (.b (a != b))
  | .lss => K (.b (decide (a.toNat < b.toNat)))
  | .leq => K (.b (decide (a.toNat ≤ b.toNat)))
  | .gtr => K (.b (decide (b.toNat < a.toNat)))
  | .geq => K (.b (decide (b.toNat ≤ a.toNat)))
/-- a shift by a count of another kind -/
def shC {n : Nat} (op : BinOp) (a : BitVec n) (c : Nat) (mk : BitVec n → SV) (K : SV → Prop) : Prop :=
  match op with
  | .shl => K (mk (a <<< c))
  | .shr => K (mk (a >>> c))
  | _ => False
def intC (op : BinOp) (k : IntKind) (a b : Int) (K : SV → Prop) : Prop :=
  match op with
  | .add => K (.i k (k.wrap (a + b)))
  | .sub => K (.i k (k.wrap (a - b)))
  | .mul => K (.i k (k.wrap (a * b)))
  | .quo => b ≠ 0 ∧ K (.i k (k.wrap (a.tdiv b)))
  | .rem => b ≠ 0 ∧ K (.i k (a.tmod b))
  | .and => K (.i k (k.wrap (BitVec.ofInt k.bits a &&& BitVec.ofInt k.bits b).toNat))
  | .or => K (.i k (k.wrap (BitVec.ofInt k.bits a ||| BitVec.ofInt k.bits b).toNat))
  | .xor => K (.i k (k.wrap (BitVec.ofInt k.bits a ^^^ BitVec.ofInt k.bits b).toNat))
  | .andNot => K (.i k (k.wrap (BitVec.ofInt k.bits a &&& ~~~BitVec.ofInt k.bits b).toNat))
  | .shl => 0 ≤ b ∧ K (.i k (k.wrap (a * 2 ^ min b.toNat k.bits)))
  | .shr => 0 ≤ b ∧ K (.i k (a.fdiv (2 ^ min b.toNat k.bits)))
  | .eql => K (.b (a == b))
  | .neq => K (.b (a != b))
  | .lss => K (.b (decide (a < b)))
  | .leq => K (.b (decide (a ≤ b)))
  | .gtr => K (.b (decide (b < a)))
  | .geq => K (.b (decide (b ≤ a)))
/-- a run that answers v, whatever the world -/
def Pure1 (P : Program) (s : Sem Value) (K : SV → Prop) : Prop :=
  ∃ v : SV, K v ∧ (∀ m, v.lt m = true) ∧ ∀ (ρ : Ren) (w : World), s.run P w = .ok (den ρ v) w
section
variable {P : Program}
theorem bvC_ok {k : IntKind} (hk : k.signed = false) {mk : BitVec k.bits → SV} (hmk : ∀ x ρ, den ρ (mk x) = .int k x.toNat) (hlt : ∀ x m, (mk x).lt m = true)
    (op : BinOp) (t : TypeId) (a b : BitVec k.bits) {K : SV → Prop} (h : bvC op a b mk K) : Pure1 P (binOp op t (.int k a.toNat) (.int k b.toNat)) K := by
  have hz : (b.toNat : Int) = 0 → b = 0#k.bits := fun h => BitVec.eq_of_toNat_eq (by simp; omega)
  have hi : ∀ x : BitVec k.bits, k.wrap ((x.toNat : Nat) : Int) = x.toNat := wrapU_self hk
  cases op <;> simp only [bvC] at h
  case add => exact ⟨_, h, hlt _, fun ρ w => by simp [binOp, Op.intArith, hmk, wrapU_add hk]⟩
  case sub => exact ⟨_, h, hlt _, fun ρ w => by simp [binOp, Op.intArith, hmk, wrapU_sub hk]⟩
  case mul => exact ⟨_, h, hlt _, fun ρ w => by simp [binOp, Op.intArith, hmk, wrapU_mul hk]⟩
  case quo =>
    refine ⟨_, h.2, hlt _, fun ρ w => ?_⟩
    have : ¬ (b.toNat : Int) = 0 := fun e => h.1 (hz e)
    simp only [binOp, Op.intDiv, hmk, if_neg this, ne_eq, not_true_eq_false, if_false]
    rw [wrapU_quo hk]; rfl
  case rem =>
    refine ⟨_, h.2, hlt _, fun ρ w => ?_⟩
    have : ¬ (b.toNat : Int) = 0 := fun e => h.1 (hz e)
    simp only [binOp, Op.intDiv, hmk, if_neg this, ne_eq, not_true_eq_false, if_false]
    rw [tmodU]; rfl
  case and => exact ⟨_, h, hlt _, fun ρ w => by simp only [binOp, Op.intBits, hmk, ofInt_self, hi, ne_eq, not_true_eq_false, if_false]; rfl⟩
  case or => exact ⟨_, h, hlt _, fun ρ w => by simp only [binOp, Op.intBits, hmk, ofInt_self, hi, ne_eq, not_true_eq_false, if_false]; rfl⟩
  case xor => exact ⟨_, h, hlt _, fun ρ w => by simp only [binOp, Op.intBits, hmk, ofInt_self, hi, ne_eq, not_true_eq_false, if_false]; rfl⟩
  case andNot => exact ⟨_, h, hlt _, fun ρ w => by simp only [binOp, Op.intBits, hmk, ofInt_self, hi, ne_eq, not_true_eq_false, if_false]; rfl⟩
  case shl =>
    refine ⟨_, h, hlt _, fun ρ w => ?_⟩
    have : ¬ ((b.toNat : Int) < 0) := by omega
    simp only [binOp, Op.shift, hmk, if_neg this, Int.toNat_natCast]
    rw [wrapU_shl hk]; rfl
  case shr =>
    refine ⟨_, h, hlt _, fun ρ w => ?_⟩
    have : ¬ ((b.toNat : Int) < 0) := by omega
    simp only [binOp, Op.shift, hmk, if_neg this, Int.toNat_natCast]
    rw [fdivU_shr]; rfl
  case eql =>
    refine ⟨_, h, fun _ => rfl, fun ρ w => ?_⟩
    have : ((a.toNat : Int) == b.toNat) = (a == b) := by
      rw [Bool.eq_iff_iff]; simp only [beq_iff_eq, bne_iff_ne, ne_eq, Int.natCast_inj, BitVec.toNat_inj]
    simp [binOp, Op.intCmp, den, this]
  case neq =>
    refine ⟨_, h, fun _ => rfl, fun ρ w => ?_⟩
    have : ((a.toNat : Int) != b.toNat) = (a != b) := by
      rw [Bool.eq_iff_iff]; simp only [beq_iff_eq, bne_iff_ne, ne_eq, Int.natCast_inj, BitVec.toNat_inj]
    simp [binOp, Op.intCmp, den, this]
  case lss => exact ⟨_, h, fun _ => rfl, fun ρ w => by simp [binOp, Op.intCmp, den]⟩
  case leq => exact ⟨_, h, fun _ => rfl, fun ρ w => by simp [binOp, Op.intCmp, den]⟩
  case gtr => exact ⟨_, h, fun _ => rfl, fun ρ w => by simp [binOp, Op.intCmp, den]⟩
  case geq => exact ⟨_, h, fun _ => rfl, fun ρ w => by simp [binOp, Op.intCmp, den]⟩
theorem shC_ok {k : IntKind} (hk : k.signed = false) {mk : BitVec k.bits → SV} (hmk : ∀ x ρ, den ρ (mk x) = .int k x.toNat) (hlt : ∀ x m, (mk x).lt m = true)
    (op : BinOp) (t : TypeId) (a : BitVec k.bits) (yk : IntKind) (c : Int) (hc : 0 ≤ c) {K : SV → Prop} (h : shC op a c.toNat mk K) : Pure1 P (binOp op t (.int k a.toNat) (.int yk c)) K := by
  have hn : ¬ c < 0 := by omega
  cases op <;> simp only [shC] at h
  case shl =>
    refine ⟨_, h, hlt _, fun ρ w => ?_⟩
    simp only [binOp, Op.shift, hmk, if_neg hn]
    rw [wrapU_shl hk]; rfl
  case shr =>
    refine ⟨_, h, hlt _, fun ρ w => ?_⟩
    simp only [binOp, Op.shift, hmk, if_neg hn]
    rw [fdivU_shr]; rfl
theorem intC_ok (op : BinOp) (t : TypeId) (k : IntKind) (a b : Int) {K : SV → Prop} (h : intC op k a b K) : Pure1 P (binOp op t (.int k a) (.int k b)) K := by
  cases op <;> simp only [intC] at h
  case add | sub | mul | and | or | xor | andNot | eql | neq | lss | leq | gtr | geq =>
    exact ⟨_, h, fun _ => rfl, fun ρ w => by simp [binOp, Op.intArith, Op.intBits, Op.intCmp, den]⟩
  case quo | rem =>
    refine ⟨_, h.2, fun _ => rfl, fun ρ w => ?_⟩
    simp only [binOp, Op.intDiv, if_neg h.1, ne_eq, not_true_eq_false, if_false, den]; rfl
  case shl | shr =>
    refine ⟨_, h.2, fun _ => rfl, fun ρ w => ?_⟩
    have : ¬ b < 0 := by omega
    simp only [binOp, Op.shift, if_neg this, den]; rfl
/-- a shift of an integer by a count of any kind -/
def shI (op : BinOp) (k : IntKind) (a : Int) (c : Nat) (K : SV → Prop) : Prop :=
  match op with
  | .shl => K (.i k (k.wrap (a * 2 ^ min c k.bits)))
  | .shr => K (.i k (a.fdiv (2 ^ min c k.bits)))
  | _ => False
theorem shI_ok (op : BinOp) (t : TypeId) (k yk : IntKind) (a c : Int) (hc : 0 ≤ c) {K : SV → Prop} (h : shI op k a c.toNat K) : Pure1 P (binOp op t (.int k a) (.int yk c)) K := by
  have hn : ¬ c < 0 := by omega
  cases op <;> simp only [shI] at h
  case shl | shr =>
    refine ⟨_, h, fun _ => rfl, fun ρ w => ?_⟩
    simp only [binOp, Op.shift, if_neg hn, den]; rfl
end
end Go.Proofs.YtdkdbeamimkljaaGreatDoor.Eng
