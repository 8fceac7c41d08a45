/- The chapter's example, worked out. -/
import Derived.Test.YthcfjecicdfngaaA5
namespace Go.Proofs.Ythcfjecicdfngaa.Eng
open Go Go.RowKit
set_option linter.unusedSimpArgs false
set_option linter.unusedVariables false

def forceB {α : Type} (l : List (BitVec 8)) (f : List (BitVec 8) → α) : α := forceL (l.map BitVec.toNat) fun r => f (r.map (BitVec.ofNat 8))
theorem forceB_eq {α : Type} (l : List (BitVec 8)) (f : List (BitVec 8) → α) : forceB l f = f l := by
  unfold forceB
  rw [forceL_eq, List.map_map]
  congr 1
  conv => rhs; rw [← List.map_id l]
  exact List.map_congr_left fun a _ => by simp
def kwB (box key l : List (BitVec 8)) (i : Nat) : List (BitVec 8) := if i < 8 then (key.drop (4 * i)).take 4 else sum4 ((l.drop (4 * (i - 8))).take 4) (turnL box ((l.drop (4 * (i - 1))).take 4) i)
def evalK {α : Type} (box key : List (BitVec 8)) : Nat → Nat → List (BitVec 8) → (List (BitVec 8) → α) → α
  | 0, _, l, f => f l
  | n + 1, i, l, f => forceB (l ++ kwB box key l i) fun l' => evalK box key n (i + 1) l' f
theorem evalK_eq {α : Type} (key : List (BitVec 8)) (f : List (BitVec 8) → α) : ∀ n i, evalK box0 key n i (kx key i) f = f (kx key (i + n))
  | 0, _ => rfl
  | n + 1, i => by
    rw [evalK, forceB_eq, show i + (n + 1) = (i + 1) + n by omega, ← evalK_eq key f n (i + 1)]
    rfl
def evalA {α : Type} (C : List (BitVec 8)) : Nat → Nat → List (BitVec 8) → (List (BitVec 8) → α) → α
  | 0, _, b, f => f b
  | n + 1, k, b, f => forceB (shiftL C b) fun s => forceB (xorL (if k + 1 < 14 then mixK s 4 else s) (keyAt C (k + 1))) fun b' => evalA C n (k + 1) b' f
theorem evalA_eq {α : Type} (C x : List (BitVec 8)) (f : List (BitVec 8) → α) : ∀ n k, evalA C n k (aesN C x k) f = f (aesN C x (k + n))
  | 0, _ => rfl
  | n + 1, k => by
    rw [evalA, forceB_eq, forceB_eq, show k + (n + 1) = (k + 1) + n by omega, ← evalA_eq C x f n (k + 1)]
    rfl
def key1 : List (BitVec 8) := List.replicate 32 99#8
def in1 : List (BitVec 8) := gl 16 fun j => BitVec.ofNat 8 (17 * j)
def out1 : List (BitVec 8) := [145#8, 164#8, 84#8, 235#8, 105#8, 134#8, 214#8, 71#8, 20#8, 56#8, 129#8, 247#8, 44#8, 186#8, 31#8, 102#8]
def run1 : Bool := forceB boxL fun bx => evalK (bx ++ List.replicate 240 0#8) key1 60 0 [] fun ks => evalA (bx ++ ks) 14 0 (xorL in1 (keyAt (bx ++ ks) 0)) fun o => o == out1
set_option maxRecDepth 100000 in
theorem run1_true : run1 = true := by decide +kernel
theorem want1 : aesN (ciph key1) in1 14 = out1 := by
  have h := run1_true
  unfold run1 at h
  rw [forceB_eq] at h
  have h0 : ([] : List (BitVec 8)) = kx key1 0 := rfl
  rw [h0, show boxL ++ List.replicate 240 0#8 = box0 from rfl, evalK_eq key1 _ 60 0] at h
  have h2 := evalA_eq (ciph key1) in1 (fun o => o == out1) 14 0
  have h3 : (aesN (ciph key1) in1 14 == out1) = true := h2.symm.trans h
  exact eq_of_beq h3
theorem box60 : sbox 60#8 = 235#8 := by decide +kernel
end Go.Proofs.Ythcfjecicdfngaa.Eng
