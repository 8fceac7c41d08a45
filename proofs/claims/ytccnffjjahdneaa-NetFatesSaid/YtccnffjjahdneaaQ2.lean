/- Arguments that are lists of structs with a list of bytes in each. -/
import Derived.Test.YtccnffjjahdneaaUi
import Derived.Test.YtccnffjjahdneaaEngQ
namespace Go.Proofs.Ytccnffjjahdneaa.Eng
open Go Go.RowKit Go.ChangeShapes Go.WideShapes
set_option linter.unusedSimpArgs false
set_option linter.unusedVariables false
set_option linter.unusedSimpArgs false
set_option linter.unusedVariables false

/-- a slice inside the arguments: nil, empty somewhere, or the bytes lie there and its address is not nil -/
def ArgB (M : List Blk) (x : SV) (l : List (BitVec 8)) : Prop :=
  l.length ≤ 140737488351232 ∧ ((x = .sn ∧ l = []) ∨ (∃ a, x = .raw (.slice (some a) 0 0) ∧ l = []) ∨ ∃ n cap, x = .sl n 0 l.length cap ∧ l.length ≤ cap ∧ BAt M n 0 l ∧ liveN M n = true)
section
variable {H : Type} {enc : TypeId × Value → H} {P : Program} {W : World} {base : Nat}
/-- a block that a value in the arguments comes with -/
structure InBlk (W : World) (B : Blk) (a : Option (Nat × Nat)) : Prop where
  row : B.isRow = false
  blt : B.lt 0 = true
  ok : ∀ (G : Cx) (ρ : Ren) (n : Nat), ρ n = a → BlkOk G ρ W n B
structure InB (W : World) (x : Nat → SV) (l : List (BitVec 8)) (B : Blk) (a : Option (Nat × Nat)) : Prop where
  blk : InBlk W B a
  one : ∀ m, (x m).one = true
  lt : ∀ m, (x m).lt (m + 1) = true
  bytes : ∀ (M : List Blk) (m : Nat), M[m]? = some B → ArgB M (x m) l

theorem weightsAll_mem {e : TypeId} {k : Nat} : ∀ {l : List (DataW H)} {d : DataW H}, d ∈ l → k ∈ d.weights P e → k ∈ DataW.weightsAll P e l
  | [], _, h, _ => by cases h
  | x :: l, d, h, hk => by
    simp only [DataW.weightsAll, List.mem_append]
    rcases List.mem_cons.1 h with rfl | h
    · exact .inl hk
    · exact .inr (weightsAll_mem h hk)
theorem weightsEach_get {k : Nat} : ∀ {ts : List TypeId} {l : List (DataW H)} {i : Nat} {t : TypeId} {d : DataW H}, ts[i]? = some t → l[i]? = some d → k ∈ d.weights P t → k ∈ DataW.weightsEach P ts l
  | [], _, _, _, _, h, _, _ => by simp at h
  | _ :: _, [], _, _, _, _, h, _ => by simp at h
  | t0 :: ts, d0 :: l, 0, t, d, h, h', hk => by
    simp only [List.getElem?_cons_zero, Option.some.injEq] at h h'
    subst h h'
    simp only [DataW.weightsEach, List.mem_append]
    exact .inl hk
  | t0 :: ts, d0 :: l, i + 1, t, d, h, h', hk => by
    simp only [DataW.weightsEach, List.mem_append]
    exact .inr (weightsEach_get (by simpa using h) (by simpa using h') hk)

theorem cells_spot {a : Addr} {n : Nat} {cs : List Value} (h : W.cells? 0 a n = some cs) (hn : 0 < n) : a.spot = none ∧ a.block < W.heap.size := by
  obtain ⟨_, h1, h2⟩ := World.cells?_some h
  have h3 := h2 0 (by omega)
  rw [show a.add 0 = a from by simp [Addr.add]] at h3
  rw [List.getElem?_eq_getElem (by omega)] at h3
  refine ⟨World.cell?_spot h3, ?_⟩
  unfold World.cell? at h3
  cases hh : W.heap[a.block]? with
  | none => simp [hh] at h3
  | some o => exact heap_some_lt hh

theorem bytes_in {t e : TypeId} {c : Value} {d : DataW H} {ps : List MemPlace} {n : Nat} (ht : P.underlying t = some (.slice e)) (he : P.underlying e = some (.int .u8)) (hc : P.cellsOf e = 1) (hby : P.bytesOf e = 1)
    (hf : DataW.trod enc P W 0 (fun _ => true) true n t [c] = some (d, ps)) (hsz : ∀ n ∈ d.weights P t, n ≤ reachBytes) :
    ∃ (l : List (BitVec 8)) (x : Nat → SV) (B : Blk) (a : Option (Nat × Nat)), InB W x l B a ∧ ∀ (m : Nat) (ρ : Ren), ρ m = a → den ρ (x m) = c := by
  rcases DataW.trod_slice ht hf with ⟨h0, _⟩ | ⟨a, len, cap, elems, rest, n, _, h1, hx, hb, hl, hm, hlen, hel, hsp, _⟩
  · simp only [List.cons.injEq, and_true] at h0
    subst h0
    exact ⟨[], fun _ => .sn, .dead, none, ⟨⟨rfl, rfl, fun _ _ _ _ => trivial⟩, fun _ => rfl, fun _ => rfl, fun M m _ => ⟨by simp, .inl ⟨rfl, rfl⟩⟩⟩, fun m ρ h => by simp [den]⟩
  · simp only [List.cons.injEq, and_true] at h1
    subst h1
    have hrl := (hsp rfl).1
    have hcap : cap ≤ 140737488351232 := by
      simp only [Prod.mk.injEq] at hx
      have := hsz ((elems.length + rest.length) * P.bytesOf e) (by rw [hx.1]; simp [DataW.weights, ht])
      rw [hby, hrl, hlen] at this
      have hr : reachBytes = 140737488351232 := rfl
      omega
    by_cases hc0 : cap = 0
    · subst hc0
      obtain rfl : len = 0 := by omega
      exact ⟨[], fun _ => .raw (.slice (some a) 0 0), .dead, none, ⟨⟨rfl, rfl, fun _ _ _ _ => trivial⟩, fun _ => rfl, fun _ => rfl, fun M m _ => ⟨by simp, .inr (.inl ⟨a, rfl, rfl⟩)⟩⟩, fun m ρ h => by simp [den]⟩
    · obtain ⟨l, hll, hcl⟩ := bytes_at (n := 0) he hc len hel hlen
      have hsp2 : a.spot = none ∧ a.block < W.heap.size := by
        by_cases hl0 : 0 < len
        · have h3 := hel 0 hl0
          rw [List.getElem?_eq_getElem (by omega), Option.bind_eq_some_iff] at h3
          obtain ⟨cs, h4, _⟩ := h3
          have := cells_spot h4 (by omega)
          simpa [Addr.add] using this
        · obtain rfl : len = 0 := by omega
          have h3 := (hsp rfl).2 0 (by omega)
          rw [List.getElem?_eq_getElem (by omega), Option.bind_eq_some_iff] at h3
          obtain ⟨cs, h4, _⟩ := h3
          have := cells_spot h4 (by omega)
          simpa [Addr.add] using this
      obtain ⟨g, o, s⟩ := a
      simp only at hsp2
      obtain ⟨rfl, hg⟩ := hsp2
      by_cases hl0 : l = []
      · subst hl0
        simp at hll
        subst hll
        exact ⟨[], fun m => .sl m 0 0 cap, .here, some (g, o), ⟨⟨rfl, rfl, fun G ρ n h => ⟨g, o, h⟩⟩, fun _ => rfl, fun m => by simp [SV.lt], fun M m hB => ⟨by simp, .inr (.inr ⟨m, cap, rfl, by simp, ⟨(List.getElem?_eq_some_iff.1 hB).1, by simp [cellsAt, hB], by simp [cellsAt, hB, bS]⟩, by simp [liveN, hB]⟩)⟩⟩, fun m ρ h => by simp [den, h, adr]⟩
      · refine ⟨l, fun m => .sl m 0 l.length cap, .ro (bS l), some (g, o), ⟨⟨rfl, bS_lt 0 l, fun G ρ n h => ⟨bS_one l, .inr ⟨g, o, h, hg, fun j v hv => ?_⟩⟩⟩, fun _ => rfl, fun m => by simp [SV.lt], fun M m hB => ⟨by omega, .inr (.inr ⟨m, cap, rfl, by omega, BAt.ro (z := []) (by rw [List.append_nil]; exact hB), ?_⟩)⟩⟩, fun m ρ h => by simp [den, h, adr, hll]⟩
        · unfold bS at hv
          rw [List.getElem?_map] at hv
          cases hj : l[j]? with
          | none => rw [hj] at hv; cases hv
          | some x =>
            rw [hj] at hv
            simp only [Option.map_some, Option.some.injEq] at hv
            subst hv
            have hjl : j < len := by have := (List.getElem?_eq_some_iff.1 hj).1; omega
            have := hcl j hjl
            rw [add_plain, List.getD_eq_getElem?_getD, hj] at this
            rw [this]
            simp [den]
        · have := List.length_pos_iff.2 hl0
          simp [liveN, hB, bS_length]; omega

/-- an element: its cells under its block's name, and its block -/
abbrev Rec := (Nat → List SV) × Blk
def RecOf (enc : TypeId × Value → H) (P : Program) (W : World) (e : TypeId) (R : Rec → Prop) : Prop :=
  ∀ (n : Nat) (cs : List Value) (x : DataW H × List MemPlace), DataW.trod enc P W 0 (fun _ => true) true n e cs = some x → (∀ k ∈ x.1.weights P e, k ≤ reachBytes) →
    ∃ (y : Rec) (a : Option (Nat × Nat)), R y ∧ InBlk W y.2 a ∧ (∀ m, (y.1 m).length = P.cellsOf e ∧ (y.1 m).all SV.one = true ∧ ltL (m + 1) (y.1 m) = true) ∧ ∀ (ρ : Ren) (m : Nat), ρ m = a → denL ρ (y.1 m) = cs
def recC : Nat → List Rec → List SV
  | _, [] => []
  | b, y :: l => y.1 b ++ recC (b + 1) l
theorem recC_length {k : Nat} : ∀ (l : List Rec) (b : Nat), (∀ y, y ∈ l → ∀ m, (y.1 m).length = k) → (recC b l).length = l.length * k
  | [], b, _ => by simp [recC]
  | y :: l, b, h => by
    have ih := recC_length l (b + 1) (fun z hz => h z (by simp [hz]))
    simp only [recC, List.length_append, ih, h y (by simp), List.length_cons, Nat.add_mul, Nat.one_mul]; omega
theorem recC_get {k : Nat} : ∀ (l : List Rec) (b : Nat), (∀ y, y ∈ l → ∀ m, (y.1 m).length = k) → ∀ {j : Nat} {v : SV}, (recC b l)[j]? = some v → ∃ i j' y, l[i]? = some y ∧ j = i * k + j' ∧ (y.1 (b + i))[j']? = some v
  | [], b, _, j, v, hv => by simp [recC] at hv
  | y :: l, b, h, j, v, hv => by
    simp only [recC] at hv
    have hy := h y (by simp) b
    by_cases hj : j < k
    · rw [List.getElem?_append_left (by omega)] at hv
      exact ⟨0, j, y, rfl, by omega, hv⟩
    · rw [List.getElem?_append_right (by omega), hy] at hv
      obtain ⟨i, j', z, h1, h2, h3⟩ := recC_get l (b + 1) (fun z hz => h z (by simp [hz])) hv
      exact ⟨i + 1, j', z, by simpa using h1, by rw [Nat.add_mul, Nat.one_mul]; omega, by rwa [show b + (i + 1) = b + 1 + i by omega]⟩
theorem recC_drop {k : Nat} : ∀ (l : List Rec) (b i : Nat), (∀ y, y ∈ l → ∀ m, (y.1 m).length = k) → ∀ {y : Rec}, l[i]? = some y → ∀ zz, ((recC b l ++ zz).drop (i * k)).take k = y.1 (b + i)
  | [], b, i, _, y, h, zz => by simp at h
  | z :: l, b, 0, hk, y, h, zz => by
    simp only [List.getElem?_cons_zero, Option.some.injEq] at h
    subst h
    simp only [recC, Nat.zero_mul, List.drop_zero, Nat.add_zero, List.append_assoc]
    rw [List.take_append_of_le_length (by rw [hk z (by simp)]; exact Nat.le_refl _), List.take_of_length_le (by rw [hk z (by simp)]; exact Nat.le_refl _)]
  | z :: l, b, i + 1, hk, y, h, zz => by
    have ih := recC_drop l (b + 1) i (fun w hw => hk w (by simp [hw])) (y := y) (by simpa using h) zz
    rw [show b + (i + 1) = b + 1 + i by omega, ← ih]
    simp only [recC, List.append_assoc]
    rw [show (i + 1) * k = (z.1 b).length + i * k by rw [hk z (by simp), Nat.add_mul, Nat.one_mul]; omega, ← List.drop_drop, List.drop_left]

theorem recs_at {e : TypeId} {R : Rec → Prop} {m : Nat} {a : Addr} (hF : RecOf enc P W e R) (hs : a.spot = none) :
    ∀ (len : Nat) (xs : List (DataW H × List MemPlace)), (∀ i, i < len → ((W.cells? 0 (a.add (i * P.cellsOf e)) (P.cellsOf e)).bind (DataW.trod enc P W 0 (fun _ => true) true m e)) = xs[i]?) → xs.length = len → (∀ x ∈ xs, ∀ k ∈ x.1.weights P e, k ≤ reachBytes) →
      ∃ l : List (Rec × Option (Nat × Nat)), l.length = len ∧ ∀ i y, l[i]? = some y → R y.1 ∧ InBlk W y.1.2 y.2 ∧ (∀ m, (y.1.1 m).length = P.cellsOf e ∧ (y.1.1 m).all SV.one = true ∧ ltL (m + 1) (y.1.1 m) = true) ∧
        ∀ (ρ : Ren) (m : Nat), ρ m = y.2 → ∀ j v, (y.1.1 m)[j]? = some v → W.cell? (a.add (i * P.cellsOf e + j)) = some (den ρ v) := by
  intro len
  induction len with
  | zero => intro xs _ _ _; exact ⟨[], rfl, by simp⟩
  | succ len ih =>
    intro xs hel hxl hw
    obtain ⟨l, h1, h2⟩ := ih (xs.take len) (fun i hi => by rw [hel i (by omega), List.getElem?_take_of_lt hi]) (by simp; omega) (fun x hx => hw x (List.mem_of_mem_take hx))
    have h := hel len (by omega)
    rw [List.getElem?_eq_getElem (by omega), Option.bind_eq_some_iff] at h
    obtain ⟨cs, hcs, hy⟩ := h
    obtain ⟨y, a', r1, r2, r3, r4⟩ := hF _ _ _ hy (hw _ (List.getElem_mem _))
    obtain ⟨_, hcl, hce⟩ := World.cells?_some hcs
    refine ⟨l ++ [(y, a')], by simp [h1], fun i z hz => ?_⟩
    rcases Nat.lt_or_ge i l.length with hi | hi
    · rw [List.getElem?_append_left hi] at hz
      exact h2 i z hz
    · rw [List.getElem?_append_right hi] at hz
      have hi0 : i - l.length = 0 := by
        have := (List.getElem?_eq_some_iff.1 hz).1
        simp at this; omega
      rw [hi0] at hz
      simp only [List.getElem?_cons_zero, Option.some.injEq] at hz
      subst hz
      obtain rfl : i = len := by omega
      refine ⟨r1, r2, r3, fun ρ m hρ j v hv => ?_⟩
      have hj : j < P.cellsOf e := by
        have := (List.getElem?_eq_some_iff.1 hv).1
        rw [(r3 m).1] at this; exact this
      have := hce j (by omega)
      rw [← r4 ρ m hρ, denL_get, hv] at this
      obtain ⟨g, o, s⟩ := a
      simp only at hs
      subst hs
      rw [add_plain, add_plain] at this
      rw [add_plain, show o + (i * P.cellsOf e + j) = o + i * P.cellsOf e + j by omega, this]; rfl

def recRen (ρ : Ren) (m : Nat) (top : Option (Nat × Nat)) (l : List (Rec × Option (Nat × Nat))) : Ren := fun k =>
  if k < m then ρ k else if k = m then top else (l[k - (m + 1)]?).bind (·.2)
theorem recRen_lt {ρ : Ren} {m k : Nat} {top : Option (Nat × Nat)} {l : List (Rec × Option (Nat × Nat))} (h : k < m) : recRen ρ m top l k = ρ k := if_pos h
theorem recRen_top {ρ : Ren} {m : Nat} {top : Option (Nat × Nat)} {l : List (Rec × Option (Nat × Nat))} : recRen ρ m top l m = top := by
  unfold recRen; rw [if_neg (by omega), if_pos rfl]
theorem recRen_at {ρ : Ren} {m i : Nat} {top : Option (Nat × Nat)} {l : List (Rec × Option (Nat × Nat))} {y : Rec × Option (Nat × Nat)} (h : l[i]? = some y) : recRen ρ m top l (m + 1 + i) = y.2 := by
  unfold recRen; rw [if_neg (by omega), if_neg (by omega), show m + 1 + i - (m + 1) = i by omega, h]; rfl

theorem given_recs {vs : List Value} {ρ : Ren} {M : List Blk} {svs : List SV} (h : Given P W vs ρ M svs) {t e : TypeId} {R : Rec → Prop} {v : Value} {d : DataW H} {ps : List MemPlace} (ht : P.underlying t = some (.slice e)) (hF : RecOf enc P W e R)
    (hval : Value.okWide P W .any base t v) (hd : DataW.Trod enc P W 0 (fun _ => true) true t v d ps) (hsz : ∀ n ∈ d.weights P t, n ≤ reachBytes) :
    ∃ (ρ' : Ren) (l : List Rec) (cap : Nat), l.length ≤ cap ∧ cap * P.bytesOf e ≤ 140737488351232 ∧ (∀ y ∈ l, R y ∧ ∀ m, (y.1 m).length = P.cellsOf e ∧ (y.1 m).all SV.one = true ∧ ltL (m + 1) (y.1 m) = true) ∧
      Given P W (vs ++ [v]) ρ' (M ++ .ro (recC (M.length + 1) l) :: l.map (·.2)) (svs ++ [.sl M.length 0 l.length cap]) := by
  obtain ⟨a0, len, cap, rfl⟩ := okWide_slice ht hval
  obtain ⟨fuel, hf⟩ := hd
  rcases DataW.trod_slice ht hf with ⟨h0, _⟩ | ⟨a, len', cap', elems, rest, n, _, h1, hx, hb, hl, hm, hlen, hel, hsp, _⟩
  · simp [Value.cells] at h0
    obtain ⟨rfl, rfl, rfl⟩ := h0
    refine ⟨_, [], 0, Nat.le_refl _, by omega, by simp, given_block h none rfl rfl (.inl ⟨rfl, rfl⟩) ?_ (by simp [SV.lt])⟩
    simp [den, adr]
  · simp [Value.cells] at h1
    obtain ⟨rfl, rfl, rfl⟩ := h1
    simp only [Prod.mk.injEq] at hx
    have hcap : cap * P.bytesOf e ≤ 140737488351232 := by
      have hr := (hsp rfl).1
      have := hsz ((elems.length + rest.length) * P.bytesOf e) (by rw [hx.1]; simp [DataW.weights, ht])
      rw [hr, hlen, show len + (cap - len) = cap by omega] at this
      have hr : reachBytes = 140737488351232 := rfl
      omega
    have hwe : ∀ x ∈ elems, ∀ k ∈ x.1.weights P e, k ≤ reachBytes := by
      intro x hx' k hk
      refine hsz k ?_
      rw [hx.1]
      simp only [DataW.weights, ht, List.mem_cons, List.mem_append]
      exact .inr (.inl (weightsAll_mem (List.mem_map.2 ⟨x, hx', rfl⟩) hk))
    have hok : Cell.ok P W .any base t (.slice (some a) len cap) := by
      simpa [Value.okWide, ht, Cell.okWide] using hval
    have hhas : W.has P .any base a e cap := by
      have := hok
      simp only [Cell.ok, ht] at this
      exact this.2.2
    obtain ⟨_, hspot, row, cells, hshape, _⟩ := hhas
    have hslot : a.spot = none := by obtain ⟨g, o, s⟩ := a; simpa using hspot
    obtain ⟨l, hll, hR⟩ := recs_at (m := n) hF hslot len elems hel hlen hwe
    obtain ⟨g, o, s⟩ := a
    simp only at hslot
    subst hslot
    have hg : g < W.heap.size := by
      unfold World.shape? at hshape
      cases hh : W.heap[g]? with
      | none => simp [hh] at hshape
      | some ob => exact heap_some_lt hh
    have hmem : ∀ y, y ∈ l.map (·.1) → R y ∧ ∀ m, (y.1 m).length = P.cellsOf e ∧ (y.1 m).all SV.one = true ∧ ltL (m + 1) (y.1 m) = true := by
      intro y hy
      obtain ⟨z, hz, rfl⟩ := List.mem_map.1 hy
      obtain ⟨i, hi⟩ := List.getElem?_of_mem hz
      obtain ⟨r1, r2, r3, _⟩ := hR i z hi
      exact ⟨r1, r3⟩
    have hk : ∀ y, y ∈ l.map (·.1) → ∀ m, (y.1 m).length = P.cellsOf e := fun y hy m => ((hmem y hy).2 m).1
    have hml : (l.map (·.1)).length = len := by rw [List.length_map, hll]
    refine ⟨recRen ρ M.length (some (g, o)) l, l.map (·.1), cap, by omega, hcap, hmem, ?_⟩
    have hext : Ext ρ (recRen ρ M.length (some (g, o)) l) M.length := fun k hk => recRen_lt hk
    have hlen2 : (M ++ Blk.ro (recC (M.length + 1) (l.map (·.1))) :: (l.map (·.1)).map (·.2)).length = M.length + 1 + len := by
      simp [hll]; omega
    refine ⟨?_, ?_, ?_⟩
    · rw [denL_append, denL_congr hext svs h.lt, h.den]
      simp [denL, den, adr, recRen_top, hll]
    · rw [ltL_append, ltL_mono (by rw [hlen2]; omega) svs h.lt]
      simp [ltL, SV.lt]
    · intro n B hB
      rw [hlen2]
      rcases Nat.lt_or_ge n M.length with hn | hn
      · rw [List.getElem?_append_left hn] at hB
        obtain ⟨h1, h2, h3⟩ := h.ro n B hB
        refine ⟨h1, Blk.lt_mono h2 (by omega), ?_⟩
        have h4 := h3.ren hext hn h2
        cases B with
        | row cs ty => cases h1
        | ro cs => exact h4
        | obj o => cases h1
        | here => exact h4
        | dead => trivial
      · rw [List.getElem?_append_right hn] at hB
        by_cases he : n = M.length
        · subst he
          simp only [Nat.sub_self, List.getElem?_cons_zero, Option.some.injEq] at hB
          subst hB
          have hall : ∀ v, v ∈ recC (M.length + 1) (l.map (·.1)) → v.one = true ∧ v.lt (M.length + 1 + len) = true := by
            intro v hv
            obtain ⟨j, hj⟩ := List.getElem?_of_mem hv
            obtain ⟨i, j', y, g1, g2, g3⟩ := recC_get _ _ hk hj
            have hil : i < len := by have := (List.getElem?_eq_some_iff.1 g1).1; omega
            obtain ⟨_, q⟩ := hmem y (List.mem_of_getElem? g1)
            have q1 := (q (M.length + 1 + i)).2.1
            have q2 := (q (M.length + 1 + i)).2.2
            rw [List.all_eq_true] at q1
            rw [ltL_eq, List.all_eq_true] at q2
            exact ⟨q1 v (List.mem_of_getElem? g3), lt_mono (by omega) v (q2 v (List.mem_of_getElem? g3))⟩
          refine ⟨rfl, ?_, ?_, .inr ⟨g, o, recRen_top, hg, fun j v hv => ?_⟩⟩
          · show ltL _ _ = true
            rw [ltL_eq, List.all_eq_true]
            exact fun v hv => (hall v hv).2
          · rw [List.all_eq_true]
            exact fun v hv => (hall v hv).1
          · obtain ⟨i, j', y, g1, g2, g3⟩ := recC_get _ _ hk hv
            rw [List.getElem?_map] at g1
            cases hz : l[i]? with
            | none => rw [hz] at g1; cases g1
            | some z =>
              rw [hz] at g1
              simp only [Option.map_some, Option.some.injEq] at g1
              subst g1
              obtain ⟨_, _, _, q⟩ := hR i z hz
              have := q (recRen ρ M.length (some (g, o)) l) (M.length + 1 + i) (recRen_at hz) j' v g3
              rw [add_plain] at this
              rw [g2, this]
        · obtain ⟨i, rfl⟩ : ∃ i, n = M.length + 1 + i := ⟨n - (M.length + 1), by omega⟩
          rw [show M.length + 1 + i - M.length = i + 1 by omega, List.getElem?_cons_succ, List.getElem?_map, List.getElem?_map] at hB
          cases hz : l[i]? with
          | none => rw [hz] at hB; cases hB
          | some z =>
            rw [hz] at hB
            simp only [Option.map_some, Option.some.injEq] at hB
            subst hB
            obtain ⟨_, q, _⟩ := hR i z hz
            exact ⟨q.row, Blk.lt_mono q.blt (Nat.zero_le _), q.ok _ _ _ (recRen_at hz)⟩
end
end Go.Proofs.Ytccnffjjahdneaa.Eng
