/- The engine, part N: the arguments of a law, opened as symbolic values. -/
import Derived.Test.YtbiolfeincepoaaGreatDoorEngL
import Derived.Test.YtbiolfeincepoaaGreatDoorEngS
import Derived.OpenShut
namespace Go.Proofs.YtbiolfeincepoaaGreatDoor.Eng
open Go Go.RowKit Go.ChangeShapes Go.WideShapes
set_option linter.unusedSimpArgs false
set_option linter.unusedVariables false

section
variable {H : Type} {enc : TypeId × Value → H} {P : Program} {W : World} {base : Nat} {sp : Nat → Bool} {held : Bool}

theorem wf_u8 {n : Int} (h : (Lit.int .u8 n).wf = true) : 0 ≤ n ∧ n < 256 := by
  simp [Lit.wf, IntKind.min, IntKind.max, IntKind.signed, IntKind.bits] at h
  omega
theorem wf_u32 {n : Int} (h : (Lit.int .u32 n).wf = true) : 0 ≤ n ∧ n < 4294967296 := by
  simp [Lit.wf, IntKind.min, IntKind.max, IntKind.signed, IntKind.bits] at h
  omega
theorem wf_u64 {n : Int} (h : (Lit.int .u64 n).wf = true) : 0 ≤ n ∧ n < 18446744073709551616 := by
  simp [Lit.wf, IntKind.min, IntKind.max, IntKind.signed, IntKind.bits] at h
  omega
theorem wf_i64 {n : Int} (h : (Lit.int .i64 n).wf = true) : -9223372036854775808 ≤ n ∧ n ≤ 9223372036854775807 := by
  simp [Lit.wf, IntKind.min, IntKind.max, IntKind.signed, IntKind.bits] at h
  omega

theorem u8_of {n : Int} (h : (Lit.int .u8 n).wf = true) : ∃ x : BitVec 8, (x.toNat : Int) = n :=
  ⟨BitVec.ofInt 8 n, ofInt_toNat (wf_u8 h).1 (by have := (wf_u8 h).2; simpa using this)⟩
theorem u64_of {n : Int} (h : (Lit.int .u64 n).wf = true) : ∃ x : BitVec 64, (x.toNat : Int) = n :=
  ⟨BitVec.ofInt 64 n, ofInt_toNat (wf_u64 h).1 (by have := (wf_u64 h).2; simpa using this)⟩
theorem u32_of {n : Int} (h : (Lit.int .u32 n).wf = true) : ∃ x : BitVec 32, (x.toNat : Int) = n :=
  ⟨BitVec.ofInt 32 n, ofInt_toNat (wf_u32 h).1 (by have := (wf_u32 h).2; simpa using this)⟩

theorem open_u8 {t : TypeId} {v : Value} {d : DataW H} {ps : List MemPlace} (ht : P.underlying t = some (.int .u8)) (hval : Value.okWide P W .any base t v) (hd : DataW.Trod enc P W 0 sp held t v d ps) :
    ∃ x : BitVec 8, ps = [] ∧ v = .int .u8 x.toNat := by
  obtain ⟨n, rfl, _, rfl, hw⟩ := open_int ht hval hd
  obtain ⟨x, rfl⟩ := u8_of hw
  exact ⟨x, rfl, rfl⟩

/-- the cells of an array of bytes -/
theorem cells_u8 {e : TypeId} (he : P.underlying e = some (.int .u8)) (hc : P.cellsOf e = 1) {m : Nat} : ∀ (cs : List Value) (xs : List (DataW H × List MemPlace)), xs.length = cs.length →
    (∀ i, i < cs.length → DataW.trod enc P W 0 sp held m e ((cs.drop (i * P.cellsOf e)).take (P.cellsOf e)) = xs[i]?) → ∃ l : List (BitVec 8), l.length = cs.length ∧ cs = l.map (fun x => Value.int .u8 x.toNat) ∧ xs.flatMap (·.2) = [] := by
  intro cs
  induction cs with
  | nil => intro xs hx _; obtain rfl := List.length_eq_zero_iff.1 (by simpa using hx); exact ⟨[], rfl, rfl, rfl⟩
  | cons c cs ih =>
    intro xs hx h
    obtain ⟨x, xs, rfl⟩ := List.exists_cons_of_length_pos (by rw [hx]; simp : 0 < xs.length)
    have h0 := h 0 (by simp)
    simp [hc] at h0
    obtain ⟨n, h1, h2, hw⟩ := DataW.trod_int he h0
    obtain ⟨y, rfl⟩ := u8_of hw
    obtain ⟨l, hl, hcs, hf⟩ := ih xs (by simpa using hx) (fun i hi => by
      have := h (i + 1) (by simpa using hi)
      simpa [hc] using this)
    refine ⟨y :: l, by simp [hl], by simp at h1; simp [h1, hcs], ?_⟩
    simp [h2, hf]

theorem open_arr8 {t e : TypeId} {k : Nat} {v : Value} {d : DataW H} {ps : List MemPlace} (ht : P.underlying t = some (.array k e)) (he : P.underlying e = some (.int .u8)) (hc : P.cellsOf e = 1) (hk : P.cellsOf t = k)
    (hval : Value.okWide P W .any base t v) (hd : DataW.Trod enc P W 0 sp held t v d ps) :
    ∃ l : List (BitVec 8), l.length = k ∧ ps = [] ∧ ∀ ρ, v = den ρ (.agg (bS l)) := by
  obtain ⟨cs, rfl, hs, _⟩ : ∃ cs, v = .agg cs ∧ cs.size = P.cellsOf t ∧ Row.okWide P W .any base t cs := by
    simpa [Value.okWide, ht] using hval
  obtain ⟨fuel, hf⟩ := hd
  obtain ⟨xs, m, rfl, hx, hl, hxl, hi⟩ := DataW.trod_array ht hf
  simp only [Value.cells] at hl hi
  simp only [Prod.mk.injEq] at hx
  rw [hk] at hl
  obtain ⟨l, h1, h2, h3⟩ := cells_u8 he hc cs.toList xs (by omega) (by rw [hl]; exact hi)
  refine ⟨l, by omega, by rw [hx.2, h3], fun ρ => ?_⟩
  have : cs = (cs.toList).toArray := by simp
  rw [this, h2]
  simp only [den, denL_eq, bS, List.map_map]
  congr 2

end
end Go.Proofs.YtbiolfeincepoaaGreatDoor.Eng
