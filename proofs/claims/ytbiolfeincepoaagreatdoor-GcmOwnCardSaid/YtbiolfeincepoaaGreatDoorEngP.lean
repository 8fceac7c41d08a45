/- The engine, part P: slices of bytes inside a law's arguments. -/
import Derived.Test.YtbiolfeincepoaaGreatDoorEngO
namespace Go.Proofs.YtbiolfeincepoaaGreatDoor.Eng
open Go Go.RowKit Go.ChangeShapes Go.WideShapes
set_option linter.unusedSimpArgs false
set_option linter.unusedVariables false

section
variable {H : Type} {enc : TypeId × Value → H} {P : Program} {W : World} {base : Nat}

/-- what a slice of bytes in a cell of the arguments is -/
theorem bytes_cell {t e : TypeId} {c : Value} {d : DataW H} {ps : List MemPlace} {n : Nat} (ht : P.underlying t = some (.slice e)) (he : P.underlying e = some (.int .u8)) (hc : P.cellsOf e = 1) (hby : P.bytesOf e = 1)
    (hok : Cell.okWide P W .any base t c) (hf : DataW.trod enc P W 0 (fun _ => true) true n t [c] = some (d, ps)) (hsz : ∀ n ∈ d.weights P t, n ≤ reachBytes) :
    ∃ (l : List (BitVec 8)) (cap : Nat) (a : Option (Nat × Nat)), l.length ≤ cap ∧ cap ≤ 140737488351232 ∧
      ((a = none ∧ bS l = []) ∨ ∃ g o, a = some (g, o) ∧ g < W.heap.size ∧ ∀ (ρ : Ren) j v, (bS l)[j]? = some v → W.cell? ⟨g, o + j, none⟩ = some (den ρ v)) ∧
      ∀ (m : Nat) (ρ : Ren), ρ m = a → den ρ (.sl m 0 l.length cap) = c := by
  rcases DataW.trod_slice ht hf with ⟨h0, _⟩ | ⟨a, len, cap, elems, rest, n, _, h1, hx, hb, hl, hm, hlen, hel, hsp, _⟩
  · simp only [List.cons.injEq, and_true] at h0
    subst h0
    exact ⟨[], 0, none, Nat.le_refl _, by omega, .inl ⟨rfl, rfl⟩, fun m ρ h => by simp [den, h, adr]⟩
  · simp only [List.cons.injEq, and_true] at h1
    subst h1
    have hcap : cap ≤ 140737488351232 := by
      have hr := (hsp rfl).1
      simp only [Prod.mk.injEq] at hx
      have := hsz ((elems.length + rest.length) * P.bytesOf e) (by rw [hx.1]; simp [DataW.weights, ht])
      rw [hby, hr, hlen] at this
      have hr : reachBytes = 140737488351232 := rfl
      omega
    obtain ⟨l, hll, hcl⟩ := bytes_at (n := 0) he hc len hel hlen
    have hok : Cell.ok P W .any base t (.slice (some a) len cap) := by
      simpa [ht, Cell.okWide] using hok
    have hhas : W.has P .any base a e cap := by
      have := hok
      simp only [Cell.ok, ht] at this
      exact this.2.2
    obtain ⟨_, hspot, row, cells, hshape, _⟩ := hhas
    obtain ⟨g, o, s⟩ := a
    simp only at hspot
    subst hspot
    have hg : g < W.heap.size := by
      unfold World.shape? at hshape
      cases hh : W.heap[g]? with
      | none => simp [hh] at hshape
      | some ob => exact heap_some_lt hh
    refine ⟨l, cap, some (g, o), by omega, hcap, .inr ⟨g, o, rfl, hg, fun ρ j v hv => ?_⟩, fun m ρ h => ?_⟩
    · unfold bS at hv
      rw [List.getElem?_map] at hv
      cases hj : l[j]? with
      | none => rw [hj] at hv; cases hv
      | some x =>
        rw [hj] at hv
        simp only [Option.map_some, Option.some.injEq] at hv
        subst hv
        have hjl : j < len := by have := (List.getElem?_eq_some_iff.1 hj).1; omega
        have := hcl j hjl
        rw [add_plain, List.getD_eq_getElem?_getD, hj] at this
        rw [this]
        simp [den]
    · simp [den, h, adr, hll]

/-- a field of one cell -/
theorem field_cell {fs : Array Field} {cs : List Value} {xs : List (DataW H × List MemPlace)} {n : Nat} (hi : ∀ (i : Nat) (f : Field), fs[i]? = some f → DataW.trod enc P W 0 (fun _ => true) true n f.type ((cs.drop f.offset).take (P.cellsOf f.type)) = xs[i]?)
    (hx : xs.length = fs.size) (i : Nat) {ty off k : Nat} (hf : fs[i]?.map (fun f => (f.type, f.offset)) = some (ty, off)) (hc : P.cellsOf ty = k) :
    ∃ d ps, xs[i]? = some (d, ps) ∧ DataW.trod enc P W 0 (fun _ => true) true n ty ((cs.drop off).take k) = some (d, ps) := by
  cases hfi : fs[i]? with
  | none => rw [hfi] at hf; cases hf
  | some f =>
    rw [hfi] at hf
    simp only [Option.map_some, Option.some.injEq, Prod.mk.injEq] at hf
    obtain ⟨h1, h2⟩ := hf
    have h := hi i f hfi
    rw [h1, h2, hc] at h
    have hlt : i < xs.length := by rw [hx]; exact (Array.getElem?_eq_some_iff.1 hfi).1
    rw [List.getElem?_eq_getElem hlt] at h
    exact ⟨xs[i].1, xs[i].2, List.getElem?_eq_getElem hlt, h⟩

/-- a value that holds a slice of bytes, in one more block -/
theorem given_in {vs : List Value} {ρ : Ren} {M : List Blk} {svs : List SV} (h : Given P W vs ρ M svs) {v : Value} {l : List (BitVec 8)} {a : Option (Nat × Nat)} {x : SV}
    (ha : (a = none ∧ bS l = []) ∨ ∃ g o, a = some (g, o) ∧ g < W.heap.size ∧ ∀ (ρ : Ren) j v, (bS l)[j]? = some v → W.cell? ⟨g, o + j, none⟩ = some (den ρ v))
    (hx : ∀ ρ : Ren, ρ M.length = a → den ρ x = v) (hl : x.lt (M.length + 1) = true) : Given P W (vs ++ [v]) (fun k => if k = M.length then a else ρ k) (M ++ [.ro (bS l)]) (svs ++ [x]) :=
  given_block h a (bS_one l) (bS_lt 0 l) (by
    rcases ha with ⟨h1, h2⟩ | ⟨g, o, h1, h2, h3⟩
    · exact .inl ⟨h1, h2⟩
    · exact .inr ⟨g, o, h1, h2, h3 ρ⟩) (hx _ (if_pos rfl)) hl
end
end Go.Proofs.YtbiolfeincepoaaGreatDoor.Eng
