/- Lists given by a function of the place. -/
import Derived.Test.YtdkdbeamimkljaaGreatDoorEngT
namespace Go.Proofs.YtdkdbeamimkljaaGreatDoor.Eng
open Go
set_option linter.unusedSimpArgs false
set_option linter.unusedVariables false
def gl {α : Type} (n : Nat) (f : Nat → α) : List α := (List.range n).map f
section
variable {α : Type} {n : Nat} {f g : Nat → α}
@[go_sem] theorem gl_len : (gl n f).length = n := by simp [gl]
theorem gl_get {j : Nat} (h : j < n) : (gl n f)[j]? = some (f j) := by simp [gl, h]
theorem gl_getD {j : Nat} (h : j < n) (d : α) : (gl n f).getD j d = f j := by simp [List.getD_eq_getElem?_getD, gl_get h]
theorem gl_getDD {j : Nat} (d : α) : (gl n f).getD j d = if j < n then f j else d := by
  by_cases h : j < n
  · rw [gl_getD h, if_pos h]
  · rw [if_neg h, List.getD_eq_getElem?_getD, List.getElem?_eq_none (by rw [gl_len]; omega)]; rfl
theorem gl_ext (h : ∀ i, i < n → f i = g i) : gl n f = gl n g := by
  unfold gl
  exact List.map_congr_left fun i hi => h i (List.mem_range.1 hi)
theorem gl_set {j : Nat} {v : α} : (gl n f).set j v = gl n (fun i => if i = j then v else f i) := by
  apply List.ext_getElem?
  intro i
  rw [List.getElem?_set]
  by_cases hi : i < n
  · by_cases e : j = i
    · subst e; rw [if_pos rfl, if_pos (by rw [gl_len]; exact hi), gl_get hi, if_pos rfl]
    · rw [if_neg e, gl_get hi, gl_get hi, if_neg (Ne.symm e)]
  · have h1 : (gl n f)[i]? = none := List.getElem?_eq_none (by rw [gl_len]; omega)
    have h2 : (gl n (fun i => if i = j then v else f i))[i]? = none := List.getElem?_eq_none (by rw [gl_len]; omega)
    rw [h1, h2, gl_len]
    split
    · rw [if_neg (by omega)]
    · rfl
theorem gl_self {l : List α} (h : l.length = n) (d : α) : l = gl n (fun j => l.getD j d) := by
  apply List.ext_getElem?
  intro i
  by_cases hi : i < n
  · rw [gl_get hi, List.getD_eq_getElem?_getD, List.getElem?_eq_getElem (by omega)]; rfl
  · rw [List.getElem?_eq_none (by omega), List.getElem?_eq_none (by rw [gl_len]; omega)]
theorem gl_eq {l : List α} (h : l.length = n) (d : α) (hf : ∀ i, i < n → l.getD i d = f i) : l = gl n f := by
  rw [gl_self h d]
  exact gl_ext hf
theorem gl_const (a : α) : gl n (fun _ => a) = List.replicate n a := by
  induction n with
  | zero => rfl
  | succ n ih => rw [List.replicate_succ', ← ih]; simp [gl, List.range_succ]
end
end Go.Proofs.YtdkdbeamimkljaaGreatDoor.Eng
