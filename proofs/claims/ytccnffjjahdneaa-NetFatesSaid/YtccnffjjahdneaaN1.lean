/- Sorted flights: the library's contract seen from the walk. -/
import Derived.Test.YtccnffjjahdneaaEngQ
import Derived.Test.YtccnffjjahdneaaNs
namespace Go.Proofs.Ytccnffjjahdneaa.Eng
open Go Go.RowKit Go.Sort Go.Shelf
set_option linter.unusedSimpArgs false
set_option linter.unusedVariables false
set_option linter.unusedSimpArgs false
set_option linter.unusedVariables false

abbrev Key := Fin 4611686018427387904

def cfK (x y : Key) : Int := (x.val : Int) - y.val

theorem ltK (x y : Key) : ltOf cfK x y = decide (x.val < y.val) := by
  unfold ltOf cfK
  by_cases h : x.val < y.val
  · simp [h]; omega
  · simp [h]; omega
theorem swoK : SWO (ltOf cfK) where
  irrefl x := by rw [ltK]; simp
  trans x y z h1 h2 := by rw [ltK] at *; simp at *; omega
  ntrans x y z h1 h2 := by rw [ltK] at *; simp at *; omega
theorem totK (x y : Key) (h1 : ltOf cfK x y = false) (h2 : ltOf cfK y x = false) : x = y := by
  rw [ltK] at *; simp at *; exact Fin.ext (by omega)

/-- a world that agrees on all that there was -/
theorem Sim.agree {G : Cx} {ρ : Ren} {M : List Blk} {w w' : World} (h : Sim G ρ M w) (ho : w'.os = w.os) (ht : w'.tape = w.tape) (hu : w'.output = w.output) (hd : w.drawn ≤ w'.drawn)
    (hs : w.heap.size ≤ w'.heap.size) (hh : ∀ k, k < w.heap.size → w'.heap[k]? = w.heap[k]?) : Sim G ρ M w' := by
  refine ⟨ho.trans h.os, ht.trans h.tape, ⟨hu.trans h.output.1, Nat.le_trans h.output.2 hd⟩, ?_, h.base, h.same, h.lt, ?_, h.sep⟩
  · intro k hk
    obtain ⟨h1, h2⟩ := h.kept k hk
    exact ⟨by omega, (hh k h1).trans h2⟩
  · intro n B hB
    exact (h.blk n B hB).world hs (fun hl g hg => hh g (live_lt h hB hl hg))

/-- a call that names nothing -/
theorem calls_closed {P : Program} {f : FuncId} {args : List SV} {v : SV} (h : callVC P f args [] (fun v' _ => v' = v)) (ha : ltL 0 args = true) (hv : v.lt 0 = true) (ρ : Ren) (W : World) :
    Calls P f (denL ρ args).toArray W fun e w' => e = .returned (den ρ v) ∧ ∃ q os', w' = grow (W.drewN q) os' := by
  have hs : Sim ⟨(· < W.heap.size), W, ρ, 0⟩ ρ [] W := ⟨rfl, rfl, ⟨rfl, Nat.le_refl _⟩, fun k hk => ⟨hk, rfl⟩, Nat.le_refl _, fun _ _ => rfl, fun n B hB => by simp at hB, fun n B hB => by simp at hB, fun n m B C hB => by simp at hB⟩
  refine (h.2 _ ρ W hs ha).mono ?_
  rintro e w' ⟨ρ', v', M', he, _, hs', _, rfl, rfl⟩
  refine ⟨by rw [den_congr (ρ := ρ) (ρ' := ρ') (m := 0) (fun n hn => by omega) _ hv], w'.drawn - W.drawn, w'.heap.extract W.heap.size w'.heap.size, ?_⟩
  have hsz : W.heap.size ≤ w'.heap.size := by
    rcases Nat.eq_zero_or_pos W.heap.size with h0 | h0
    · omega
    · have := (hs'.kept (W.heap.size - 1) (by show _ < _; omega)).1
      omega
  have hheap : w'.heap = W.heap ++ w'.heap.extract W.heap.size w'.heap.size := by
    apply Array.ext_getElem?
    intro k
    by_cases hk : k < W.heap.size
    · rw [Array.getElem?_append_left hk]; exact (hs'.kept k hk).2
    · rw [Array.getElem?_append_right (by omega), Array.getElem?_extract]
      by_cases hk' : k < w'.heap.size
      · rw [if_pos (by omega)]; congr 1; omega
      · rw [if_neg (by omega), Array.getElem?_eq_none (by omega)]
  have h1 := hs'.os
  have h2 := hs'.tape
  have h3 := hs'.output
  cases w' with
  | mk hp tp dr os out =>
    simp only at h1 h2 h3 hheap hsz ⊢
    obtain ⟨h3, h4⟩ := h3
    subst h1 h2 h3
    unfold grow World.drewN
    simp only [World.mk.injEq, true_and, and_true]
    exact ⟨hheap, by omega⟩

/-- a flight's cells -/
def fcell (a b : Key → SV) (x : Key) : List SV := [.i .i64 (x.val : Int), a x, b x]
def fcells (a b : Key → SV) (ks : List Key) : List SV := (ks.map (fcell a b)).flatten

theorem fcells_length (a b : Key → SV) (ks : List Key) : (fcells a b ks).length = ks.length * 3 := by
  induction ks with
  | nil => rfl
  | cons x ks ih => simp only [fcells, List.map_cons, List.flatten_cons, List.length_append] at ih ⊢; rw [ih]; simp [fcell]; omega

theorem flat_get (enc : Key → List Value) (hk : ∀ x, (enc x).length = 3) : ∀ (ks : List Key) (t : Nat), t < ks.length * 3 → ((ks.map enc).flatten)[t]! = (enc ks[t / 3]!)[t % 3]!
  | [], t, h => by simp at h
  | x :: ks, t, h => by
    have hx := hk x
    simp only [List.map_cons, List.flatten_cons]
    by_cases ht : t < 3
    · rw [Nat.div_eq_of_lt ht, Nat.mod_eq_of_lt ht]
      simp only [List.getElem!_eq_getElem?_getD, List.getElem?_append_left (show t < (enc x).length by omega), List.getElem?_cons_zero, Option.getD_some]
    · have ih := flat_get enc hk ks (t - 3) (by simp at h; omega)
      have e1 : t / 3 = (t - 3) / 3 + 1 := by omega
      have e2 : t % 3 = (t - 3) % 3 := by omega
      rw [e1, e2]
      simp only [List.getElem!_eq_getElem?_getD, List.getElem?_append_right (show (enc x).length ≤ t by omega), hx, List.getElem?_cons_succ] at ih ⊢
      exact ih

theorem flatK_eq (enc : Key → List Value) (hk : ∀ x, (enc x).length = 3) (ks : List Key) : flatK enc 3 ks.toArray = (ks.map enc).flatten.toArray := by
  have hl : ((ks.map enc).flatten).length = ks.length * 3 := by
    induction ks with
    | nil => rfl
    | cons x ks ih => simp only [List.map_cons, List.flatten_cons, List.length_append, ih, hk, List.length_cons]; omega
  refine Array.ext (by simp [hl]) (fun t h1 h2 => ?_)
  have h1' : t < ks.toArray.size * 3 := by simpa using h1
  have := get_flatK enc 3 ks.toArray t h1'
  rw [getElem!_pos _ t h1] at this
  rw [this]
  have h3 := flat_get enc hk ks t (by simpa using h1')
  rw [getElem!_pos _ t (by rw [hl]; simpa using h1')] at h3
  simpa using h3.symm

theorem denL_fcells (ρ : Ren) (a b : Key → SV) (ks : List Key) : denL ρ (fcells a b ks) = (ks.map fun x => [.int .i64 (x.val : Int), den ρ (a x), den ρ (b x)]).flatten := by
  induction ks with
  | nil => rfl
  | cons x ks ih =>
    simp only [fcells, List.map_cons, List.flatten_cons, denL_append] at ih ⊢
    rw [ih]
    simp [fcell, denL, den]

end Go.Proofs.Ytccnffjjahdneaa.Eng
