/- A block worked out by the kernel, round by round. -/
import Derived.Test.YtbiolfeincepoaaA5
namespace Go.Proofs.Ytbiolfeincepoaa.Eng
open Go Go.RowKit
set_option linter.unusedSimpArgs false
set_option linter.unusedVariables false

def forceB {α : Type} (l : List (BitVec 8)) (f : List (BitVec 8) → α) : α := forceL (l.map BitVec.toNat) fun r => f (r.map (BitVec.ofNat 8))
theorem forceB_eq {α : Type} (l : List (BitVec 8)) (f : List (BitVec 8) → α) : forceB l f = f l := by
  unfold forceB
  rw [forceL_eq, List.map_map]
  congr 1
  conv => rhs; rw [← List.map_id l]
  exact List.map_congr_left fun a _ => by simp
def kwB (box key l : List (BitVec 8)) (i : Nat) : List (BitVec 8) := if i < 8 then (key.drop (4 * i)).take 4 else sum4 ((l.drop (4 * (i - 8))).take 4) (turnL box ((l.drop (4 * (i - 1))).take 4) i)
def evalK {α : Type} (box key : List (BitVec 8)) : Nat → Nat → List (BitVec 8) → (List (BitVec 8) → α) → α
  | 0, _, l, f => f l
  | n + 1, i, l, f => forceB (l ++ kwB box key l i) fun l' => evalK box key n (i + 1) l' f
theorem evalK_eq {α : Type} (key : List (BitVec 8)) (f : List (BitVec 8) → α) : ∀ n i, evalK box0 key n i (kx key i) f = f (kx key (i + n))
  | 0, _ => rfl
  | n + 1, i => by
    rw [evalK, forceB_eq, show i + (n + 1) = (i + 1) + n by omega, ← evalK_eq key f n (i + 1)]
    rfl
def evalA {α : Type} (C : List (BitVec 8)) : Nat → Nat → List (BitVec 8) → (List (BitVec 8) → α) → α
  | 0, _, b, f => f b
  | n + 1, k, b, f => forceB (shiftL C b) fun s => forceB (xorL (if k + 1 < 14 then mixK s 4 else s) (keyAt C (k + 1))) fun b' => evalA C n (k + 1) b' f
theorem evalA_eq {α : Type} (C x : List (BitVec 8)) (f : List (BitVec 8) → α) : ∀ n k, evalA C n k (aesN C x k) f = f (aesN C x (k + n))
  | 0, _ => rfl
  | n + 1, k => by
    rw [evalA, forceB_eq, forceB_eq, show k + (n + 1) = (k + 1) + n by omega, ← evalA_eq C x f n (k + 1)]
    rfl
end Go.Proofs.Ytbiolfeincepoaa.Eng
