/- Joined texts: Q4, Q5, Q7. -/
import Derived.Test.YtdkdbeamimkljaaGreatDoorEngQ
import Derived.Test.YtdkdbeamimkljaaGreatDoorMm
namespace Go.Proofs.YtdkdbeamimkljaaGreatDoor.Eng
set_option linter.unusedSimpArgs false
set_option linter.unusedVariables false
open Go Go.RowKit Go.ChangeShapes Go.WideShapes
section
variable {H : Type} {enc : TypeId × Value → H} {P : Program} {W : World} {base : Nat}
theorem weightsAll_mem {e : TypeId} {k : Nat} : ∀ {l : List (DataW H)} {d : DataW H}, d ∈ l → k ∈ d.weights P e → k ∈ DataW.weightsAll P e l
  | [], _, h, _ => by cases h
  | x :: l, d, h, hk => by
    simp only [DataW.weightsAll, List.mem_append]
    rcases List.mem_cons.1 h with rfl | h
    · exact .inl hk
    · exact .inr (weightsAll_mem h hk)
theorem weightsEach_get {k : Nat} : ∀ {ts : List TypeId} {l : List (DataW H)} {i : Nat} {t : TypeId} {d : DataW H}, ts[i]? = some t → l[i]? = some d → k ∈ d.weights P t → k ∈ DataW.weightsEach P ts l
  | [], _, _, _, _, h, _, _ => by simp at h
  | _ :: _, [], _, _, _, _, h, _ => by simp at h
  | t0 :: ts, d0 :: l, 0, t, d, h, h', hk => by
    simp only [List.getElem?_cons_zero, Option.some.injEq] at h h'
    subst h h'
    simp only [DataW.weightsEach, List.mem_append]
    exact .inl hk
  | t0 :: ts, d0 :: l, i + 1, t, d, h, h', hk => by
    simp only [DataW.weightsEach, List.mem_append]
    exact .inr (weightsEach_get (by simpa using h) (by simpa using h') hk)
theorem cells_spot {a : Addr} {n : Nat} {cs : List Value} (h : W.cells? 0 a n = some cs) (hn : 0 < n) : a.spot = none ∧ a.block < W.heap.size := by
  obtain ⟨_, h1, h2⟩ := World.cells?_some h
  have h3 := h2 0 (by omega)
  rw [show a.add 0 = a from by simp [Addr.add]] at h3
  rw [List.getElem?_eq_getElem (by omega)] at h3
  refine ⟨World.cell?_spot h3, ?_⟩
  unfold World.cell? at h3
  cases hh : W.heap[a.block]? with
  | none => simp [hh] at h3
  | some o => exact heap_some_lt hh
def Grd (W : World) (ρ : Ren) (M : List Blk) : Prop := ∀ (n : Nat) (B : Blk), M[n]? = some B → B.isRow = false ∧ B.lt M.length = true ∧ BlkOk ⟨(· < W.heap.size), W, ρ, M.length⟩ ρ W n B
theorem Grd.one {ρ : Ren} {M : List Blk} (h : Grd W ρ M) {B : Blk} (a : Option (Nat × Nat)) (hr : B.isRow = false) (hl : B.lt (M.length + 1) = true)
    (hok : ∀ G, BlkOk G (fun k => if k = M.length then a else ρ k) W M.length B) : Grd W (fun k => if k = M.length then a else ρ k) (M ++ [B]) ∧ Ext ρ (fun k => if k = M.length then a else ρ k) M.length := by
  have hext : Ext ρ (fun k => if k = M.length then a else ρ k) M.length := fun k hk => if_neg (by omega)
  refine ⟨fun n C hC => ?_, hext⟩
  have hlen : (M ++ [B]).length = M.length + 1 := by simp
  rw [hlen]
  rcases Nat.lt_or_ge n M.length with hn | hn
  · rw [List.getElem?_append_left hn] at hC
    obtain ⟨h1, h2, h3⟩ := h n C hC
    refine ⟨h1, Blk.lt_mono h2 (by omega), ?_⟩
    have h4 := h3.ren hext hn h2
    cases C with
    | row cs ty => cases h1
    | ro cs => exact h4
    | obj o => cases h1
    | here => exact h4
    | dead => trivial
  · have hn' : n = M.length := by
      have := (List.getElem?_eq_some_iff.1 hC).1
      simp at this; omega
    subst hn'
    rw [List.getElem?_append_right (Nat.le_refl _), Nat.sub_self] at hC
    simp only [List.getElem?_cons_zero, Option.some.injEq] at hC
    subst hC
    exact ⟨hr, hl, hok _⟩
def Op (enc : TypeId × Value → H) (P : Program) (W : World) (t : TypeId) (R : List Blk → List SV → Prop) : Prop :=
  ∀ (fuel : Nat) (cs : List Value) (x : DataW H × List MemPlace) (ρ : Ren) (M : List Blk), Grd W ρ M → DataW.trod enc P W 0 (fun _ => true) true fuel t cs = some x → (∀ k ∈ x.1.weights P t, k ≤ reachBytes) →
    ∃ (ρ' : Ren) (L : List Blk) (ys : List SV), Grd W ρ' (M ++ L) ∧ Ext ρ ρ' M.length ∧ denL ρ' ys = cs ∧ ltL (M ++ L).length ys = true ∧ ys.all SV.one = true ∧ ys.length = P.cellsOf t ∧ R (M ++ L) ys
def Stab (R : List Blk → List SV → Prop) : Prop := ∀ M L ys, R M ys → R (M ++ L) ys
theorem op_flat {e : TypeId} {R : List SV → Prop} (h : FlatOf enc P W e R) : Op enc P W e (fun _ => R) := by
  intro fuel cs x ρ M hG ht hw
  obtain ⟨ys, h1, h2, h3, h4, h5⟩ := h fuel cs x ht
  exact ⟨ρ, [], ys, by rw [List.append_nil]; exact hG, fun _ _ => rfl, h5 ρ, ltL_mono (Nat.zero_le _) ys h4, h3, h2, h1⟩
theorem op_imp {e : TypeId} {R R' : List Blk → List SV → Prop} (h : Op enc P W e R) (hR : ∀ M ys, R M ys → R' M ys) : Op enc P W e R' := by
  intro fuel cs x ρ M hG ht hw
  obtain ⟨ρ', L, ys, h1, h2, h3, h4, h5, h6, h7⟩ := h fuel cs x ρ M hG ht hw
  exact ⟨ρ', L, ys, h1, h2, h3, h4, h5, h6, hR _ _ h7⟩
def TrF (enc : TypeId × Value → H) (P : Program) (W : World) (n : Nat) : List TypeId → List Value → Prop
  | [], cs => cs = []
  | t :: l, cs => (∃ y, DataW.trod enc P W 0 (fun _ => true) true n t (cs.take (P.cellsOf t)) = some y ∧ ∀ k ∈ y.1.weights P t, k ≤ reachBytes) ∧ TrF enc P W n l (cs.drop (P.cellsOf t))
def RAll : List (TypeId × (List Blk → List SV → Prop)) → List Blk → List SV → Prop
  | [], _, ys => ys = []
  | p :: l, M, ys => ∃ a b, ys = a ++ b ∧ p.2 M a ∧ RAll l M b
theorem RAll.stab : ∀ (l : List (TypeId × (List Blk → List SV → Prop))), (∀ p ∈ l, Stab p.2) → Stab (RAll l)
  | [], _ => fun _ _ _ h => h
  | p :: l, hs => fun M L ys h => by
    obtain ⟨a, b, h1, h2, h3⟩ := h
    exact ⟨a, b, h1, hs p (by simp) M L a h2, RAll.stab l (fun q hq => hs q (by simp [hq])) M L b h3⟩
theorem fields_op {n : Nat} : ∀ (l : List (TypeId × (List Blk → List SV → Prop))), (∀ p ∈ l, Stab p.2) → (∀ p ∈ l, Op enc P W p.1 p.2) → ∀ (cs : List Value) (ρ : Ren) (M : List Blk), Grd W ρ M → TrF enc P W n (l.map (·.1)) cs →
    ∃ (ρ' : Ren) (L : List Blk) (ys : List SV), Grd W ρ' (M ++ L) ∧ Ext ρ ρ' M.length ∧ denL ρ' ys = cs ∧ ltL (M ++ L).length ys = true ∧ ys.all SV.one = true ∧ ys.length = cs.length ∧ RAll l (M ++ L) ys
  | [], _, _, cs, ρ, M, hG, ht => by
    simp only [List.map_nil, TrF] at ht
    subst ht
    exact ⟨ρ, [], [], by rw [List.append_nil]; exact hG, fun _ _ => rfl, rfl, rfl, rfl, rfl, rfl⟩
  | p :: l, hs, ho, cs, ρ, M, hG, ht => by
    simp only [List.map_cons, TrF] at ht
    obtain ⟨⟨y, h1, h2⟩, h3⟩ := ht
    obtain ⟨ρ1, L1, ys1, g1, g2, g3, g4, g5, g6, g7⟩ := ho p (by simp) n _ y ρ M hG h1 h2
    obtain ⟨ρ2, L2, ys2, k1, k2, k3, k4, k5, k6, k7⟩ := fields_op l (fun q hq => hs q (by simp [hq])) (fun q hq => ho q (by simp [hq])) _ ρ1 (M ++ L1) g1 h3
    refine ⟨ρ2, L1 ++ L2, ys1 ++ ys2, by rw [← List.append_assoc]; exact k1, fun k hk => (k2 k (by rw [List.length_append]; omega)).trans (g2 k hk), ?_, ?_, ?_, ?_, ys1, ys2, rfl, ?_, ?_⟩
    · rw [denL_append, denL_congr k2 ys1 g4, g3, k3, List.take_append_drop]
    · rw [← List.append_assoc, ltL_append, ltL_mono (by simp only [List.length_append]; omega) ys1 g4, k4]; rfl
    · rw [List.all_append, g5, k5]; rfl
    · have e1 := congrArg List.length g3
      have e2 := congrArg List.length k3
      rw [denL_length] at e1 e2
      rw [List.length_append, e1, e2, ← List.length_append, List.take_append_drop]
    · rw [← List.append_assoc]; exact hs p (by simp) _ _ _ g7
    · rw [← List.append_assoc]; exact k7
def contig (P : Program) : Nat → List Field → Bool
  | _, [] => true
  | off, f :: l => f.offset == off && contig P (off + P.cellsOf f.type) l
def cellsIn (P : Program) : List Field → Nat
  | [] => 0
  | f :: l => P.cellsOf f.type + cellsIn P l
theorem trF_of {n : Nat} {cs : List Value} {xs : List (DataW H × List MemPlace)} : ∀ (l : List Field) (off i : Nat), (∀ (j : Nat) f, l[j]? = some f → DataW.trod enc P W 0 (fun _ => true) true n f.type ((cs.drop f.offset).take (P.cellsOf f.type)) = xs[i + j]?) → i + l.length = xs.length →
    (∀ (j : Nat) f y, l[j]? = some f → xs[i + j]? = some y → ∀ k ∈ y.1.weights P f.type, k ≤ reachBytes) → contig P off l = true → cs.length = off + cellsIn P l → TrF enc P W n (l.map (·.type)) (cs.drop off)
  | [], off, i, _, _, _, _, hc => by
    simp only [List.map_nil, TrF]
    simp only [cellsIn] at hc
    exact List.drop_eq_nil_of_le (by omega)
  | f :: l, off, i, h, hl, hw, hcon, hc => by
    simp only [contig, Bool.and_eq_true, beq_iff_eq] at hcon
    obtain ⟨ho, hcon⟩ := hcon
    simp only [cellsIn] at hc
    simp only [List.map_cons, TrF]
    have h0 := h 0 f rfl
    rw [ho, Nat.add_zero, List.getElem?_eq_getElem (by simp at hl; omega)] at h0
    refine ⟨⟨_, h0, hw 0 f _ rfl (by rw [Nat.add_zero, List.getElem?_eq_getElem])⟩, ?_⟩
    rw [List.drop_drop]
    exact trF_of l (off + P.cellsOf f.type) (i + 1) (fun j f hj => by have := h (j + 1) f (by simpa using hj); rwa [show i + (j + 1) = i + 1 + j by omega] at this) (by simp at hl; omega)
      (fun j f y hj hy => hw (j + 1) f y (by simpa using hj) (by rwa [show i + (j + 1) = i + 1 + j by omega])) hcon (by omega)
theorem op_struct {t : TypeId} {fs : Array Field} (ht : P.underlying t = some (.struct fs)) (l : List (TypeId × (List Blk → List SV → Prop))) (hl : fs.toList.map (·.type) = l.map (·.1)) (hc : contig P 0 fs.toList = true) (hn : P.cellsOf t = cellsIn P fs.toList)
    (hs : ∀ p ∈ l, Stab p.2) (ho : ∀ p ∈ l, Op enc P W p.1 p.2) : Op enc P W t (RAll l) := by
  intro fuel cs x ρ M hG htr hw
  obtain ⟨xs, n, _, hx, hlen, hxl, hi⟩ := DataW.trod_struct ht htr
  have hT : TrF enc P W n (l.map (·.1)) cs := by
    have := trF_of (enc := enc) (P := P) (W := W) (n := n) (cs := cs) (xs := xs) fs.toList 0 0 (fun j f hj => by rw [Nat.zero_add]; exact hi j f (by simpa using hj)) (by simpa using hxl.symm)
      (fun j f y hj hy k hk => hw k (by
        rw [hx]
        simp only [DataW.weights, ht]
        rw [Nat.zero_add] at hy
        exact weightsEach_get (i := j) (t := f.type) (d := y.1) (by rw [List.getElem?_map, hj]; rfl) (by rw [List.getElem?_map, hy]; rfl) hk)) hc (by rw [hlen, hn]; omega)
    rw [hl] at this
    simpa using this
  obtain ⟨ρ', L, ys, h1, h2, h3, h4, h5, h6, h7⟩ := fields_op l hs ho cs ρ M hG hT
  exact ⟨ρ', L, ys, h1, h2, h3, h4, h5, by rw [h6, hlen], h7⟩
end
section
variable {H : Type} {enc : TypeId × Value → H} {P : Program} {W : World} {base : Nat}
theorem elems_op {e : TypeId} {R : List Blk → List SV → Prop} {m : Nat} {a : Addr} (hR : Stab R) (hF : Op enc P W e R) (hs : a.spot = none) :
    ∀ (len : Nat) (xs : List (DataW H × List MemPlace)), (∀ i, i < len → ((W.cells? 0 (a.add (i * P.cellsOf e)) (P.cellsOf e)).bind (DataW.trod enc P W 0 (fun _ => true) true m e)) = xs[i]?) → xs.length = len → (∀ x ∈ xs, ∀ k ∈ x.1.weights P e, k ≤ reachBytes) →
      ∀ (ρ : Ren) (M : List Blk), Grd W ρ M → ∃ (ρ' : Ren) (L : List Blk) (es : List (List SV)), Grd W ρ' (M ++ L) ∧ Ext ρ ρ' M.length ∧ es.length = len ∧ ∀ (i : Nat) c, es[i]? = some c → c.length = P.cellsOf e ∧ c.all SV.one = true ∧ ltL (M ++ L).length c = true ∧ R (M ++ L) c ∧
        ∀ j v, c[j]? = some v → W.cell? (a.add (i * P.cellsOf e + j)) = some (den ρ' v) := by
  intro len
  induction len with
  | zero => intro xs _ _ _ ρ M hG; exact ⟨ρ, [], [], by rw [List.append_nil]; exact hG, fun _ _ => rfl, rfl, by simp⟩
  | succ len ih =>
    intro xs hel hxl hw ρ M hG
    obtain ⟨ρ1, L1, es, g1, g2, g3, g4⟩ := ih (xs.take len) (fun i hi => by rw [hel i (by omega), List.getElem?_take_of_lt hi]) (by simp; omega) (fun x hx => hw x (List.mem_of_mem_take hx)) ρ M hG
    have h := hel len (by omega)
    rw [List.getElem?_eq_getElem (by omega), Option.bind_eq_some_iff] at h
    obtain ⟨cs, hcs, hy⟩ := h
    obtain ⟨ρ2, L2, ys, k1, k2, k3, k4, k5, k6, k7⟩ := hF _ _ _ ρ1 (M ++ L1) g1 hy (hw _ (List.getElem_mem _))
    obtain ⟨_, hcl, hce⟩ := World.cells?_some hcs
    refine ⟨ρ2, L1 ++ L2, es ++ [ys], by rw [← List.append_assoc]; exact k1, fun k hk => (k2 k (by rw [List.length_append]; omega)).trans (g2 k hk), by simp [g3], fun i c hc => ?_⟩
    rw [← List.append_assoc]
    rcases Nat.lt_or_ge i es.length with hi | hi
    · rw [List.getElem?_append_left hi] at hc
      obtain ⟨q1, q2, q3, q4, q5⟩ := g4 i c hc
      refine ⟨q1, q2, ltL_mono (by simp only [List.length_append]; omega) c q3, hR _ _ _ q4, fun j v hv => ?_⟩
      rw [q5 j v hv]
      have hvl : v.lt (M ++ L1).length = true := by
        rw [ltL_eq, List.all_eq_true] at q3
        exact q3 v (List.mem_of_getElem? hv)
      have := denL_congr k2 [v] (by simpa [ltL] using hvl)
      simp only [denL, List.cons.injEq, and_true] at this
      rw [this]
    · rw [List.getElem?_append_right hi] at hc
      have hi0 : i - es.length = 0 := by
        have := (List.getElem?_eq_some_iff.1 hc).1
        simp at this; omega
      rw [hi0] at hc
      simp only [List.getElem?_cons_zero, Option.some.injEq] at hc
      subst hc
      obtain rfl : i = len := by omega
      refine ⟨k6, k5, k4, k7, fun j v hv => ?_⟩
      have hj : j < P.cellsOf e := by
        have := (List.getElem?_eq_some_iff.1 hv).1
        rw [k6] at this; exact this
      have := hce j (by omega)
      rw [← k3, denL_get, hv] at this
      obtain ⟨g, o, s⟩ := a
      simp only at hs
      subst hs
      rw [add_plain, add_plain] at this
      rw [add_plain, show o + (i * P.cellsOf e + j) = o + i * P.cellsOf e + j by omega, this]; rfl
def RLst (k : Nat) (R : List Blk → List SV → Prop) (M : List Blk) (ys : List SV) : Prop := ∃ x es, ys = [x] ∧ Lst M k x es ∧ ∀ c ∈ es, R M c
def RLstC (k : Nat) (R : List Blk → List SV → Prop) (M : List Blk) (ys : List SV) : Prop := ∃ x es, ys = [x] ∧ Lst M k x es ∧ (∀ c ∈ es, R M c) ∧ ∀ n len cap, x = .sl n 0 len cap → es.length ≤ cap
theorem flat_idx {k : Nat} {es : List (List SV)} (h : ∀ c ∈ es, c.length = k) (hk : 0 < k) {j : Nat} {v : SV} (hv : es.flatten[j]? = some v) : ∃ i j' c, es[i]? = some c ∧ j = i * k + j' ∧ c[j']? = some v := by
  induction es generalizing j with
  | nil => simp at hv
  | cons c es ih =>
    rw [List.flatten_cons] at hv
    have hc := h c (by simp)
    rcases Nat.lt_or_ge j k with g | g
    · rw [List.getElem?_append_left (by omega)] at hv
      exact ⟨0, j, c, rfl, by omega, hv⟩
    · rw [List.getElem?_append_right (by omega), hc] at hv
      obtain ⟨i, j', d, h1, h2, h3⟩ := ih (fun c hc => h c (by simp [hc])) hv
      exact ⟨i + 1, j', d, by simpa using h1, by rw [Nat.add_mul, Nat.one_mul]; omega, h3⟩
theorem op_listC {t e : TypeId} {k : Nat} {R : List Blk → List SV → Prop} (ht : P.underlying t = some (.slice e)) (hct : P.cellsOf t = 1) (hk : P.cellsOf e = k) (hk0 : 0 < k) (hby : 0 < P.bytesOf e) (hR : Stab R) (hF : Op enc P W e R) : Op enc P W t (RLstC k R) := by
  intro fuel cs x ρ M hG htr hw
  rcases DataW.trod_slice ht htr with ⟨rfl, _⟩ | ⟨a, len, cap, elems, rest, n, _, rfl, hx, hb, hl, hm, hlen, hel, hsp, _⟩
  · exact ⟨ρ, [], [.sn], by rw [List.append_nil]; exact hG, fun _ _ => rfl, by simp [denL, den], rfl, rfl, by rw [hct]; rfl, .sn, [], rfl, Lst.sn, by simp, fun _ _ _ h => by cases h⟩
  · have hrl := (hsp rfl).1
    have hcap : cap ≤ 140737488351232 := by
      have := hw ((elems.length + rest.length) * P.bytesOf e) (by rw [hx]; simp [DataW.weights, ht])
      rw [hrl, hlen, show len + (cap - len) = cap by omega] at this
      have hr : reachBytes = 140737488351232 := rfl
      have := Nat.le_mul_of_pos_right cap hby
      omega
    by_cases hc0 : cap = 0
    · subst hc0
      obtain rfl : len = 0 := by omega
      exact ⟨ρ, [], [.raw (.slice (some a) 0 0)], by rw [List.append_nil]; exact hG, fun _ _ => rfl, by simp [denL, den], rfl, rfl, by rw [hct]; rfl, _, [], rfl, ⟨by simp, by simp, .inr (.inl ⟨a, rfl, rfl⟩)⟩, by simp, fun _ _ _ h => by cases h⟩
    · have hsp2 : a.spot = none ∧ a.block < W.heap.size := by
        by_cases hl0 : 0 < len
        · have h3 := hel 0 hl0
          rw [List.getElem?_eq_getElem (by omega), Option.bind_eq_some_iff] at h3
          obtain ⟨cs, h4, _⟩ := h3
          have := cells_spot h4 (by omega)
          simpa [Addr.add] using this
        · obtain rfl : len = 0 := by omega
          have h3 := (hsp rfl).2 0 (by omega)
          rw [List.getElem?_eq_getElem (by omega), Option.bind_eq_some_iff] at h3
          obtain ⟨cs, h4, _⟩ := h3
          have := cells_spot h4 (by omega)
          simpa [Addr.add] using this
      have hwe : ∀ x ∈ elems, ∀ k ∈ x.1.weights P e, k ≤ reachBytes := by
        intro y hy k hk
        refine hw k ?_
        rw [hx]
        simp only [DataW.weights, ht, List.mem_cons, List.mem_append]
        exact .inr (.inl (weightsAll_mem (List.mem_map.2 ⟨y, hy, rfl⟩) hk))
      obtain ⟨ρ1, L1, es, g1, g2, g3, g4⟩ := elems_op hR hF hsp2.1 len elems hel hlen hwe ρ M hG
      rw [hk] at g4
      obtain ⟨g, o, s⟩ := a
      simp only at hsp2
      obtain ⟨rfl, hg⟩ := hsp2
      have hlk : ∀ c ∈ es, c.length = k := fun c hc => by
        obtain ⟨i, hi⟩ := List.getElem?_of_mem hc
        exact (g4 i c hi).1
      have hmem : ∀ c ∈ es, c.length = k ∧ c.all SV.one = true := fun c hc => by
        obtain ⟨i, hi⟩ := List.getElem?_of_mem hc
        exact ⟨(g4 i c hi).1, (g4 i c hi).2.1⟩
      have hfl := flat_length hlk
      have hrs : ∀ c ∈ es, R (M ++ L1) c := fun c hc => by
        obtain ⟨i, hi⟩ := List.getElem?_of_mem hc
        exact (g4 i c hi).2.2.2.1
      have hflat : ∀ j v, es.flatten[j]? = some v → v.one = true ∧ v.lt (M ++ L1).length = true ∧ W.cell? ⟨g, o + j, none⟩ = some (den ρ1 v) := by
        intro j v hv
        obtain ⟨i, j', c, q1, q2, q3⟩ := flat_idx hlk hk0 hv
        obtain ⟨_, p2, p3, _, p5⟩ := g4 i c q1
        rw [List.all_eq_true] at p2
        rw [ltL_eq, List.all_eq_true] at p3
        have := p5 j' v q3
        rw [add_plain] at this
        exact ⟨p2 v (List.mem_of_getElem? q3), p3 v (List.mem_of_getElem? q3), by rw [q2]; exact this⟩
      by_cases hl0 : len = 0
      · subst hl0
        obtain rfl : es = [] := List.length_eq_zero_iff.1 g3
        obtain ⟨k1, k2⟩ := g1.one (B := .here) (some (g, o)) rfl rfl (fun G => ⟨g, o, if_pos rfl⟩)
        refine ⟨_, L1 ++ [.here], [.sl (M ++ L1).length 0 0 cap], by rw [← List.append_assoc]; exact k1, fun q hq => (k2 q (by rw [List.length_append]; omega)).trans (g2 q hq), by simp [denL, den, adr], by simp [ltL, SV.lt], rfl, by rw [hct]; rfl, _, [], rfl, ⟨by simp, by simp, .inr (.inr ⟨(M ++ L1).length, cap, [], rfl, by simp, by rw [← List.append_assoc]; simp [cellsAt, get_app0], .inl (by rw [← List.append_assoc]; simp [liveN, get_app0])⟩)⟩, by simp, fun _ _ _ _ => by simp⟩
      · obtain ⟨k1, k2⟩ := g1.one (B := .ro es.flatten) (some (g, o)) rfl (by
            show ltL _ _ = true
            rw [ltL_eq, List.all_eq_true]
            intro v hv
            obtain ⟨j, hj⟩ := List.getElem?_of_mem hv
            exact lt_mono (by omega) v (hflat j v hj).2.1) (fun G => ⟨by
            rw [List.all_eq_true]
            intro v hv
            obtain ⟨j, hj⟩ := List.getElem?_of_mem hv
            exact (hflat j v hj).1, .inr ⟨g, o, if_pos rfl, hg, fun j v hv => by
            obtain ⟨_, p2, p3⟩ := hflat j v hv
            rw [p3]
            have hext0 : Ext ρ1 (fun k => if k = (M ++ L1).length then some (g, o) else ρ1 k) (M ++ L1).length := fun k hk => if_neg (by omega)
            have := denL_congr hext0 [v] (by simpa [ltL] using p2)
            simp only [denL, List.cons.injEq, and_true] at this
            rw [this]⟩⟩)
        have hpos : 0 < es.flatten.length := by rw [hfl, g3]; exact Nat.mul_pos (by omega) hk0
        refine ⟨_, L1 ++ [.ro es.flatten], [.sl (M ++ L1).length 0 len cap], by rw [← List.append_assoc]; exact k1, fun q hq => (k2 q (by rw [List.length_append]; omega)).trans (g2 q hq), by simp [denL, den, adr], by simp [ltL, SV.lt], rfl, by rw [hct]; rfl, _, es, rfl, ⟨by omega, hmem, .inr (.inr ⟨(M ++ L1).length, cap, [], by rw [g3], by simp, by rw [← List.append_assoc]; simp [cellsAt, get_app0], .inl (by rw [← List.append_assoc, liveN_eq, get_app0]; exact decide_eq_true hpos)⟩)⟩, fun c hc => ?_, fun _ _ _ h => by cases h; omega⟩
        rw [← List.append_assoc]; exact hR _ _ _ (hrs c hc)
theorem op_list {t e : TypeId} {k : Nat} {R : List Blk → List SV → Prop} (ht : P.underlying t = some (.slice e)) (hct : P.cellsOf t = 1) (hk : P.cellsOf e = k) (hk0 : 0 < k) (hby : 0 < P.bytesOf e) (hR : Stab R) (hF : Op enc P W e R) : Op enc P W t (RLst k R) :=
  op_imp (op_listC ht hct hk hk0 hby hR hF) (fun M ys h => by
    obtain ⟨x, es, h1, h2, h3, _⟩ := h
    exact ⟨x, es, h1, h2, h3⟩)
end
theorem list_choose {α β : Type} {f : β → α} {Q : β → Prop} : ∀ {es : List α}, (∀ c ∈ es, ∃ e, c = f e ∧ Q e) → ∃ l : List β, es = l.map f ∧ ∀ e ∈ l, Q e
  | [], _ => ⟨[], rfl, by simp⟩
  | c :: es, h => by
    obtain ⟨e, h1, h2⟩ := h c (by simp)
    obtain ⟨l, h3, h4⟩ := list_choose (es := es) (fun c hc => h c (by simp [hc]))
    exact ⟨e :: l, by rw [List.map_cons, h1, h3], fun x hx => by
      rcases List.mem_cons.1 hx with rfl | hx
      · exact h2
      · exact h4 x hx⟩
theorem flat_u8l : ∀ l : List (BitVec 8), (l.map fun b : BitVec 8 => [SV.u8 b]).flatten = bS l
  | [] => rfl
  | b :: l => by rw [List.map_cons, List.flatten_cons, flat_u8l l]; rfl
def RByt (M : List Blk) (ys : List SV) : Prop := ∃ x l, ys = [x] ∧ Byt M x l
theorem RByt.stab : Stab RByt := fun M L ys h => by
  obtain ⟨x, l, h1, h2⟩ := h
  exact ⟨x, l, h1, h2.app⟩
theorem byt_of {M : List Blk} {ys : List SV} (h : RLst 1 (fun _ svs => ∃ x : BitVec 8, svs = [.u8 x]) M ys) : RByt M ys := by
  obtain ⟨x, es, rfl, ⟨h0, h1, h2⟩, h3⟩ := h
  obtain ⟨l, rfl, _⟩ := list_choose (f := fun b : BitVec 8 => [SV.u8 b]) (Q := fun _ => True) (fun c hc => by
    obtain ⟨b, hb⟩ := h3 c hc
    exact ⟨b, hb, trivial⟩)
  rw [List.length_map] at h0 h2
  refine ⟨x, l, rfl, h0, ?_⟩
  rcases h2 with ⟨rfl, h⟩ | ⟨a, rfl, h⟩ | ⟨n, cap, zz, rfl, hn, hc, ht⟩
  · exact .inl ⟨rfl, List.map_eq_nil_iff.1 h⟩
  · exact .inr (.inl ⟨a, rfl, List.map_eq_nil_iff.1 h⟩)
  · rw [flat_u8l] at hc
    refine .inr (.inr ⟨n, 0, cap, rfl, ⟨hn, by rw [hc]; simp [bS], ?_⟩, by rw [Nat.zero_add]; exact ht⟩)
    rw [hc, List.drop_zero, List.take_append_of_le_length (by simp [bS]), List.take_of_length_le (by simp [bS])]
def Roomed (x : SV) (l : List (BitVec 8)) : Prop := ∀ n off cap, x = .sl n off l.length cap → l.length ≤ cap
def RBytC (M : List Blk) (ys : List SV) : Prop := ∃ x l, ys = [x] ∧ Byt M x l ∧ Roomed x l
theorem RBytC.stab : Stab RBytC := fun M L ys h => by
  obtain ⟨x, l, h1, h2, h3⟩ := h
  exact ⟨x, l, h1, h2.app, h3⟩
theorem bytC_of {M : List Blk} {ys : List SV} (h : RLstC 1 (fun _ svs => ∃ x : BitVec 8, svs = [.u8 x]) M ys) : RBytC M ys := by
  obtain ⟨x, es, rfl, ⟨h0, h1, h2⟩, h3, h4⟩ := h
  obtain ⟨l, rfl, _⟩ := list_choose (f := fun b : BitVec 8 => [SV.u8 b]) (Q := fun _ => True) (fun c hc => by
    obtain ⟨b, hb⟩ := h3 c hc
    exact ⟨b, hb, trivial⟩)
  rw [List.length_map] at h0 h2 h4
  have hroom : Roomed x l := fun n off cap hx => by
    rcases h2 with ⟨rfl, _⟩ | ⟨a, rfl, _⟩ | ⟨n', cap', zz, rfl, _⟩
    · cases hx
    · cases hx
    · cases hx; exact h4 _ _ _ rfl
  refine ⟨x, l, rfl, ⟨h0, ?_⟩, hroom⟩
  rcases h2 with ⟨rfl, h⟩ | ⟨a, rfl, h⟩ | ⟨n, cap, zz, rfl, hn, hc, ht⟩
  · exact .inl ⟨rfl, List.map_eq_nil_iff.1 h⟩
  · exact .inr (.inl ⟨a, rfl, List.map_eq_nil_iff.1 h⟩)
  · rw [flat_u8l] at hc
    refine .inr (.inr ⟨n, 0, cap, rfl, ⟨hn, by rw [hc]; simp [bS], ?_⟩, by rw [Nat.zero_add]; exact ht⟩)
    rw [hc, List.drop_zero, List.take_append_of_le_length (by simp [bS]), List.take_of_length_le (by simp [bS])]
section
variable {H : Type} {enc : TypeId × Value → H} {W : World} {base : Nat}
theorem op_bytesC : Op enc Tryz.prog W 22 RBytC := op_imp (op_listC Tryz.underlying22 (by kernel_rfl) (by kernel_rfl) (by decide) (of_decide_eq_true (by kernel_rfl)) (fun _ _ _ h => h) (op_flat (flat_u8 Tryz.underlying5 (by kernel_rfl)))) (fun M ys h => bytC_of h)
theorem given_op {P : Program} {vs : List Value} {ρ : Ren} {M : List Blk} {svs : List SV} (h : Given P W vs ρ M svs) {t e : TypeId} {R : List Blk → List SV → Prop} {v : Value} {d : DataW H} {ps : List MemPlace} (ht : P.underlying t = some (.slice e)) (hct : P.cellsOf t = 1) (hF : Op enc P W t R)
    (hval : Value.okWide P W .any base t v) (hd : DataW.Trod enc P W 0 (fun _ => true) true t v d ps) (hsz : ∀ n ∈ d.weights P t, n ≤ reachBytes) :
    ∃ (ρ' : Ren) (L : List Blk) (x : SV), Given P W (vs ++ [v]) ρ' (M ++ L) (svs ++ [x]) ∧ R (M ++ L) [x] := by
  obtain ⟨a0, len, cap, rfl⟩ := okWide_slice ht hval
  obtain ⟨fuel, hf⟩ := hd
  obtain ⟨ρ', L, ys, h1, h2, h3, h4, h5, h6, h7⟩ := hF fuel _ _ ρ M h.ro hf hsz
  rw [hct] at h6
  obtain ⟨x, rfl⟩ := List.length_eq_one_iff.1 h6
  refine ⟨ρ', L, x, ⟨?_, ?_, h1⟩, h7⟩
  · rw [denL_append, denL_congr h2 svs h.lt, h.den, h3]; rfl
  · rw [ltL_append, ltL_mono (by simp) svs h.lt, h4]; rfl
end
end Go.Proofs.YtdkdbeamimkljaaGreatDoor.Eng
