/- The engine, part Q: arguments that are lists of flat elements (numbers, bools, structs and arrays of them). -/
import Derived.Test.YtbiolfeincepoaaGreatDoorEngP
namespace Go.Proofs.YtbiolfeincepoaaGreatDoor.Eng
open Go Go.RowKit Go.ChangeShapes Go.WideShapes
set_option linter.unusedSimpArgs false
set_option linter.unusedVariables false

section
variable {H : Type} {enc : TypeId × Value → H} {P : Program} {W : World} {base : Nat}

/-- what the cells of a flat type are -/
def FlatOf (enc : TypeId × Value → H) (P : Program) (W : World) (e : TypeId) (R : List SV → Prop) : Prop :=
  ∀ (n : Nat) (cs : List Value) (x : DataW H × List MemPlace), DataW.trod enc P W 0 (fun _ => true) true n e cs = some x →
    ∃ svs, R svs ∧ svs.length = P.cellsOf e ∧ svs.all SV.one = true ∧ ltL 0 svs = true ∧ ∀ ρ, denL ρ svs = cs

theorem flat_int {k : IntKind} {e : TypeId} (ht : P.underlying e = some (.int k)) (hc : P.cellsOf e = 1) (f : Int → SV) (hf : ∀ n, (Lit.int k n).wf = true → ∀ ρ, den ρ (f n) = .int k n) (ho : ∀ n, (f n).one = true) (hl : ∀ n, (f n).lt 0 = true) :
    FlatOf enc P W e (fun svs => ∃ n, (Lit.int k n).wf = true ∧ svs = [f n]) := by
  intro n cs x h
  obtain ⟨m, rfl, _, hw⟩ := DataW.trod_int ht h
  exact ⟨[f m], ⟨m, hw, rfl⟩, by simp [hc], by simp [ho], by simp [ltL, hl], fun ρ => by simp [denL, hf m hw]⟩
theorem flat_i64 {e : TypeId} (ht : P.underlying e = some (.int .i64)) (hc : P.cellsOf e = 1) :
    FlatOf enc P W e (fun svs => ∃ x : Int, -9223372036854775808 ≤ x ∧ x ≤ 9223372036854775807 ∧ svs = [.i .i64 x]) := by
  intro n cs x h
  obtain ⟨m, rfl, _, hw⟩ := DataW.trod_int ht h
  exact ⟨[.i .i64 m], ⟨m, (wf_i64 hw).1, (wf_i64 hw).2, rfl⟩, by simp [hc], rfl, rfl, fun ρ => by simp [denL, den]⟩
theorem flat_u64 {e : TypeId} (ht : P.underlying e = some (.int .u64)) (hc : P.cellsOf e = 1) :
    FlatOf enc P W e (fun svs => ∃ x : BitVec 64, svs = [.u64 x]) := by
  intro n cs x h
  obtain ⟨m, rfl, _, hw⟩ := DataW.trod_int ht h
  obtain ⟨y, rfl⟩ := u64_of hw
  exact ⟨[.u64 y], ⟨y, rfl⟩, by simp [hc], rfl, rfl, fun ρ => by simp [denL, den]⟩
theorem flat_u8 {e : TypeId} (ht : P.underlying e = some (.int .u8)) (hc : P.cellsOf e = 1) :
    FlatOf enc P W e (fun svs => ∃ x : BitVec 8, svs = [.u8 x]) := by
  intro n cs x h
  obtain ⟨m, rfl, _, hw⟩ := DataW.trod_int ht h
  obtain ⟨y, rfl⟩ := u8_of hw
  exact ⟨[.u8 y], ⟨y, rfl⟩, by simp [hc], rfl, rfl, fun ρ => by simp [denL, den]⟩
theorem flat_arr8 {t e : TypeId} {k : Nat} (ht : P.underlying t = some (.array k e)) (he : P.underlying e = some (.int .u8)) (hc : P.cellsOf e = 1) (hk : P.cellsOf t = k) :
    FlatOf enc P W t (fun svs => ∃ b : List (BitVec 8), b.length = k ∧ svs = bS b) := by
  intro n cs x h
  obtain ⟨xs, m, rfl, hx, hl, hxl, hi⟩ := DataW.trod_array ht h
  rw [hk] at hl
  obtain ⟨l, h1, h2, h3⟩ := cells_u8 he hc cs xs (by omega) (by rw [hl]; exact hi)
  refine ⟨bS l, ⟨l, by omega, rfl⟩, by rw [bS_length, hk]; omega, bS_one l, bS_lt 0 l, fun ρ => ?_⟩
  rw [h2, denL_eq, bS, List.map_map]
  rfl

/-- the cells of a row of flat elements -/
theorem flats_at {e : TypeId} {R : List SV → Prop} {m : Nat} {a : Addr} (hF : FlatOf enc P W e R) (hs : a.spot = none) :
    ∀ (len : Nat) (xs : List (DataW H × List MemPlace)), (∀ i, i < len → ((W.cells? 0 (a.add (i * P.cellsOf e)) (P.cellsOf e)).bind (DataW.trod enc P W 0 (fun _ => true) true m e)) = xs[i]?) → xs.length = len →
      ∃ l : List (List SV), l.length = len ∧ (∀ y ∈ l, R y ∧ y.length = P.cellsOf e) ∧ l.flatten.all SV.one = true ∧ ltL 0 l.flatten = true ∧ ∀ ρ i v, l.flatten[i]? = some v → W.cell? (a.add i) = some (den ρ v) := by
  intro len
  induction len with
  | zero => intro xs _ _; exact ⟨[], rfl, by simp, rfl, rfl, by simp⟩
  | succ len ih =>
    intro xs hel hxl
    obtain ⟨l, h1, h2, h3, h4, h5⟩ := ih (xs.take len) (fun i hi => by rw [hel i (by omega), List.getElem?_take_of_lt hi]) (by simp; omega)
    have h := hel len (by omega)
    rw [List.getElem?_eq_getElem (by omega), Option.bind_eq_some_iff] at h
    obtain ⟨cs, hcs, hy⟩ := h
    obtain ⟨svs, r1, r2, r3, r4, r5⟩ := hF _ _ _ hy
    obtain ⟨_, hcl, hce⟩ := World.cells?_some hcs
    have hfl : ∀ (l : List (List SV)), (∀ y ∈ l, R y ∧ y.length = P.cellsOf e) → l.flatten.length = l.length * P.cellsOf e := by
      intro l
      induction l with
      | nil => intro _; simp
      | cons y l ih => intro h; rw [List.flatten_cons, List.length_append, ih (fun z hz => h z (by simp [hz])), (h y (by simp)).2, List.length_cons, Nat.add_mul, Nat.one_mul, Nat.add_comm]
    refine ⟨l ++ [svs], by simp [h1], ?_, by simp only [List.flatten_append, List.flatten_cons, List.flatten_nil, List.append_nil, List.all_append, h3, r3, Bool.and_self], by simp only [List.flatten_append, List.flatten_cons, List.flatten_nil, List.append_nil, ltL_append, h4, r4, Bool.and_self], ?_⟩
    · intro y hy
      rcases List.mem_append.1 hy with hy | hy
      · exact h2 y hy
      · rw [List.mem_singleton] at hy; subst hy; exact ⟨r1, r2⟩
    · intro ρ i v hv
      rw [List.flatten_append, List.flatten_cons, List.flatten_nil, List.append_nil] at hv
      have hlf := hfl l h2
      rw [h1] at hlf
      rcases Nat.lt_or_ge i l.flatten.length with hi | hi
      · rw [List.getElem?_append_left hi] at hv; exact h5 ρ i v hv
      · rw [List.getElem?_append_right hi] at hv
        have hil := (List.getElem?_eq_some_iff.1 hv).1
        have := hce (i - l.flatten.length) (by omega)
        rw [← r5 ρ, denL_get, hv] at this
        obtain ⟨g, o, s⟩ := a
        simp only at hs
        subst hs
        rw [add_plain, add_plain, hlf, show o + len * P.cellsOf e + (i - len * P.cellsOf e) = o + i by omega] at this
        rw [add_plain, this]; rfl

theorem given_flats {vs : List Value} {ρ : Ren} {M : List Blk} {svs : List SV} (h : Given P W vs ρ M svs) {t e : TypeId} {R : List SV → Prop} {v : Value} {d : DataW H} {ps : List MemPlace} (ht : P.underlying t = some (.slice e)) (hF : FlatOf enc P W e R)
    (hval : Value.okWide P W .any base t v) (hd : DataW.Trod enc P W 0 (fun _ => true) true t v d ps) (hsz : ∀ n ∈ d.weights P t, n ≤ reachBytes) :
    ∃ (ρ' : Ren) (l : List (List SV)) (cap : Nat), l.length ≤ cap ∧ cap * P.bytesOf e ≤ 140737488351232 ∧ (∀ y ∈ l, R y ∧ y.length = P.cellsOf e) ∧ Given P W (vs ++ [v]) ρ' (M ++ [.ro l.flatten]) (svs ++ [.sl M.length 0 l.length cap]) := by
  obtain ⟨a0, len, cap, rfl⟩ := okWide_slice ht hval
  obtain ⟨fuel, hf⟩ := hd
  rcases DataW.trod_slice ht hf with ⟨h0, _⟩ | ⟨a, len', cap', elems, rest, n, _, h1, hx, hb, hl, hm, hlen, hel, hsp, _⟩
  · simp [Value.cells] at h0
    obtain ⟨rfl, rfl, rfl⟩ := h0
    refine ⟨_, [], 0, Nat.le_refl _, by omega, by simp, given_block h none rfl rfl (.inl ⟨rfl, rfl⟩) ?_ (by simp [SV.lt])⟩
    simp [den, adr]
  · simp [Value.cells] at h1
    obtain ⟨rfl, rfl, rfl⟩ := h1
    have hcap : cap * P.bytesOf e ≤ 140737488351232 := by
      have hr := (hsp rfl).1
      simp only [Prod.mk.injEq] at hx
      have := hsz ((elems.length + rest.length) * P.bytesOf e) (by rw [hx.1]; simp [DataW.weights, ht])
      rw [hr, hlen, show len + (cap - len) = cap by omega] at this
      have hr : reachBytes = 140737488351232 := rfl
      omega
    have hok : Cell.ok P W .any base t (.slice (some a) len cap) := by
      simpa [Value.okWide, ht, Cell.okWide] using hval
    have hhas : W.has P .any base a e cap := by
      have := hok
      simp only [Cell.ok, ht] at this
      exact this.2.2
    obtain ⟨_, hspot, row, cells, hshape, _⟩ := hhas
    have hslot : a.spot = none := by obtain ⟨g, o, s⟩ := a; simpa using hspot
    obtain ⟨l, hll, hR, ho, hlt, hcl⟩ := flats_at (m := n) hF hslot len elems hel hlen
    obtain ⟨g, o, s⟩ := a
    simp only at hslot
    subst hslot
    have hg : g < W.heap.size := by
      unfold World.shape? at hshape
      cases hh : W.heap[g]? with
      | none => simp [hh] at hshape
      | some ob => exact heap_some_lt hh
    refine ⟨_, l, cap, by omega, hcap, hR, given_block h (some (g, o)) ho hlt (.inr ⟨g, o, rfl, hg, fun j v hv => ?_⟩) ?_ (by simp [SV.lt])⟩
    · have := hcl ρ j v hv
      rwa [add_plain] at this
    · simp [den, adr, hll]
end
end Go.Proofs.YtbiolfeincepoaaGreatDoor.Eng
