/- All that is under way. -/
import Derived.Test.YtccnffjjahdneaaN4
import Derived.Test.YtccnffjjahdneaaNb
namespace Go.Proofs.Ytccnffjjahdneaa.Eng
open Go Go.RowKit
set_option linter.unusedSimpArgs false
set_option linter.unusedVariables false
set_option linter.unusedSimpArgs false
set_option linter.unusedVariables false

/-- a flight in the net's map: number, where to, its slice, its bytes, its stamp -/
abbrev Ent := Int × Int × SV × List (BitVec 8) × Nat
def entE (f : Ent) : Int × SV × Nat := (f.1, flS f.2.1 f.2.2.1, f.2.2.2.2)
/-- the slice is nil, or the bytes lie there -/
def DataAt (M : List Blk) (f : Ent) : Prop :=
  f.2.2.2.1.length ≤ 140737488355000 ∧ ((f.2.2.1 = .sn ∧ f.2.2.2.1 = []) ∨ ∃ n cap, f.2.2.1 = .sl n 0 f.2.2.2.1.length cap ∧ BAt M n 0 f.2.2.2.1 ∧ There M n cap f.2.2.2.1)

/-- a flight in a list: number, where to, its bytes, spare bytes, the block's type -/
abbrev Vis := Int × Int × List (BitVec 8) × List (BitVec 8) × Nat
def outC : Nat → List Vis → List SV
  | _, [] => []
  | b, v :: vs => [.i .i64 v.1, .i .i64 v.2.1, .sl b 0 v.2.2.1.length (v.2.2.1.length + v.2.2.2.1.length)] ++ outC (b + 1) vs
def poolB (v : Vis) : Blk := .row (bS (v.2.2.1 ++ v.2.2.2.1)) v.2.2.2.2
theorem outC_length (b : Nat) (vs : List Vis) : (outC b vs).length = vs.length * 3 := by
  induction vs generalizing b with
  | nil => rfl
  | cons v vs ih => simp only [outC, List.length_append, ih, List.length_cons, List.length_nil]; omega
theorem outC_snoc (b : Nat) (vs : List Vis) (v : Vis) : outC b (vs ++ [v]) = outC b vs ++ [.i .i64 v.1, .i .i64 v.2.1, .sl (b + vs.length) 0 v.2.2.1.length (v.2.2.1.length + v.2.2.2.1.length)] := by
  induction vs generalizing b with
  | nil => simp [outC]
  | cons w vs ih => simp only [List.cons_append, outC, ih, List.length_cons]; rw [show b + 1 + vs.length = b + (vs.length + 1) by omega]; simp

/-- what goes over the map, the list, the lists' bytes -/
def undL (m c b : Nat) (seen : List Nat) (vs : List Vis) (zz : List SV) (ty : TypeId) : List Blk :=
  [.obj (.it m c seen c), .row (outC b vs ++ zz) ty] ++ vs.map poolB

def undF (nx : Nat) (b k cap : Nat) : List (Option SV) := [some (.p nx 0), none, none, some (.sl (b + 1) 0 k cap), none, none, none, none, none, none, some (.p b 0), none, none, none, none, none, none, none, none, none, none, none, none, none, none, none, none, none, none]

theorem stamp_inj {fs : List Ent} (hnd : (fs.map (·.2.2.2.2)).Nodup) {a b : Ent} (ha : a ∈ fs) (hb : b ∈ fs) (h : a.2.2.2.2 = b.2.2.2.2) : a = b := by
  induction fs with
  | nil => cases ha
  | cons x fs ih =>
    simp only [List.map_cons, List.nodup_cons, List.mem_map, not_exists, not_and] at hnd
    rcases List.mem_cons.1 ha with rfl | ha' <;> rcases List.mem_cons.1 hb with rfl | hb'
    · rfl
    · exact absurd h.symm (hnd.1 b hb')
    · exact absurd h (hnd.1 a ha')
    · exact ih hnd.2 ha' hb'
theorem find_ent {fs : List Ent} (hnd : (fs.map (·.2.2.2.2)).Nodup) {f : Ent} (hf : f ∈ fs) : (fs.map entE).find? (fun e => e.2.2 == f.2.2.2.2) = some (f.1, flS f.2.1 f.2.2.1, f.2.2.2.2) := by
  cases h : (fs.map entE).find? (fun e => e.2.2 == f.2.2.2.2) with
  | none =>
    rw [List.find?_eq_none] at h
    have := h (entE f) (List.mem_map.2 ⟨f, hf, rfl⟩)
    simp [entE] at this
  | some e =>
    obtain ⟨a, ha, rfl⟩ := List.mem_map.1 (List.mem_of_find?_eq_some h)
    have h2 := List.find?_some h
    simp only [entE, beq_iff_eq] at h2
    rw [stamp_inj hnd ha hf h2]
    rfl
theorem nodup_of_map {α β : Type} (f : α → β) : ∀ {l : List α}, (l.map f).Nodup → l.Nodup
  | [], _ => List.nodup_nil
  | x :: l, h => by
    rw [List.map_cons, List.nodup_cons] at h
    rw [List.nodup_cons]
    exact ⟨fun hx => h.1 (List.mem_map.2 ⟨x, hx, rfl⟩), nodup_of_map f h.2⟩
theorem visited {fs ws : List Ent} (hnd : (fs.map (·.2.2.2.2)).Nodup) (hw : (ws.map (·.2.2.2.2)).Nodup) (hs : ∀ a, a ∈ ws → a ∈ fs) (hall : ∀ e, e ∈ fs.map entE → e.2.2 ∈ ws.map (·.2.2.2.2)) : ws.Perm fs := by
  have n1 : ws.Nodup := nodup_of_map _ hw
  have n2 : fs.Nodup := nodup_of_map _ hnd
  rw [List.perm_ext_iff_of_nodup n1 n2]
  intro a
  refine ⟨hs a, fun ha => ?_⟩
  obtain ⟨b, hb, h⟩ := List.mem_map.1 (hall (entE a) (List.mem_map.2 ⟨a, ha, rfl⟩))
  rw [← stamp_inj hnd (hs b hb) ha h]
  exact hb
theorem visits_le {fs ws : List Ent} (hw : (ws.map (·.2.2.2.2)).Nodup) (hs : ∀ a, a ∈ ws → a ∈ fs) : ws.length ≤ fs.length :=
  List.Nodup.length_le_of_subset (nodup_of_map _ hw) hs

theorem blksRn_of {τ : Nat → Option Nat} {L : List Blk} : ∀ (ks : List (Option Nat)) (Bs : List Blk), ks.length = Bs.length → (∀ (j : Nat) (k : Option Nat) (B : Blk), ks[j]? = some k → Bs[j]? = some B → BlkRn τ L k B) → blksRn τ L ks Bs
  | [], [], _, _ => trivial
  | [], _ :: _, h, _ => by cases h
  | _ :: _, [], h, _ => by cases h
  | k :: ks, B :: Bs, h, hb => ⟨hb 0 k B rfl rfl, blksRn_of ks Bs (by simpa using h) (fun j k' B' h1 h2 => hb (j + 1) k' B' (by simpa using h1) (by simpa using h2))⟩
theorem dupl_some : ∀ (l : List Nat) (r : List (Option Nat)), l.Nodup → dupl r = false → (∀ x, x ∈ l → some x ∉ r) → dupl (l.map some ++ r) = false
  | [], r, _, hr, _ => hr
  | x :: l, r, hn, hr, hd => by
    rw [List.nodup_cons] at hn
    simp only [List.map_cons, List.cons_append, dupl, Bool.or_eq_false_iff, List.contains_eq_mem, decide_eq_false_iff_not, List.mem_append, not_or]
    refine ⟨⟨fun h => ?_, hd x (by simp)⟩, dupl_some l r hn.2 hr (fun y hy => hd y (by simp [hy]))⟩
    obtain ⟨y, hy, e⟩ := List.mem_map.1 h
    cases e
    exact hn.1 hy

/-- where what is left comes from: the last one of the list is o -/
def undK (k q : Nat) (o : Option Nat) : List (Option Nat) := ((0 :: q :: (List.range k).map (2 + ·)).map some) ++ [o]
theorem undK_dupl {k q : Nat} {o : Option Nat} (hq : k + 2 ≤ q) (ho : ∀ x, o = some x → k + 2 ≤ x ∧ x ≠ q) : dupl (undK k q o) = false := by
  unfold undK
  refine dupl_some _ _ ?_ ?_ ?_
  · rw [List.nodup_cons, List.nodup_cons]
    refine ⟨?_, ?_, ?_⟩
    · simp; omega
    · simp; omega
    · exact List.Pairwise.map _ (fun a b h => by omega) (List.nodup_range)
  · cases o <;> rfl
  · intro x hx
    cases o with
    | none => simp
    | some y =>
      obtain ⟨h1, h2⟩ := ho y rfl
      simp only [List.mem_cons, List.mem_map, List.mem_range] at hx
      simp only [List.mem_singleton, Option.some.injEq]
      rcases hx with rfl | rfl | ⟨a, ha, rfl⟩ <;> omega
theorem undK_get {k q : Nat} {o : Option Nat} {i : Nat} (h : i < k) : (undK k q o)[2 + i]? = some (some (2 + i)) := by
  unfold undK
  rw [List.getElem?_append_left (by simp; omega), show 2 + i = i + 2 by omega]
  simp only [List.map_cons, List.getElem?_cons_succ, List.map_map, List.getElem?_map, List.getElem?_range h, Option.map_some, Function.comp]
  rw [show 2 + i = i + 2 by omega]
theorem undK_last {k q : Nat} {o : Option Nat} : (undK k q o)[2 + k]? = some o := by
  unfold undK
  rw [List.getElem?_append_right (by simp; omega)]
  have : 2 + k - ((0 :: q :: (List.range k).map (2 + ·)).map some).length = 0 := by simp; omega
  rw [this]; rfl

theorem rn_outC {τ : Nat → Option Nat} : ∀ (vs : List Vis) (b : Nat), (∀ i, i < vs.length → τ (b + i) = some (b + i)) → rnL τ (outC b vs) = outC b vs
  | [], b, _ => rfl
  | v :: vs, b, h => by
    have h0 : τ b = some b := h 0 (by simp)
    have ih := rn_outC (τ := τ) vs (b + 1) (fun i hi => by have := h (i + 1) (by simpa using hi); rwa [show b + (i + 1) = b + 1 + i by omega] at this)
    simp only [outC, List.cons_append, List.nil_append, rnL, SV.rn, h0, ih]
theorem outC_one (b : Nat) (vs : List Vis) : (outC b vs).all SV.one = true := by
  induction vs generalizing b with
  | nil => rfl
  | cons v vs ih => simp only [outC, List.all_append, ih]; rfl
theorem outC_lt (vs : List Vis) : ∀ (b m : Nat), b + vs.length ≤ m → ltL m (outC b vs) = true := by
  induction vs with
  | nil => intro b m _; rfl
  | cons v vs ih =>
    intro b m h
    simp only [List.length_cons] at h
    simp only [outC, ltL_append, ih (b + 1) m (by omega), ltL, SV.lt, Bool.true_and, Bool.and_true, decide_eq_true_eq]
    omega
/-- one flight behind flights -/
theorem appF {T : Tab} {M : List Blk} {ts tx e eby : Nat} {K : SV → List Blk → Prop} (n : Nat) (cs zz y : List SV) (ty : TypeId) {x : SV} {len cap : Nat} (htk : T.k ts = .slice e 3 eby) (he0 : 0 < eby) (he : eby ≤ 4096)
    (hz : T.z e = some [.i .i64 0, .i .i64 0, .sn]) (hx : nonInt (T.k tx) = true) (hB : M[n]? = some (.row (cs ++ zz) ty)) (hlen : cs.length = len * 3) (hcap : len * 3 + zz.length = cap * 3)
    (hsrc : ∀ K : List SV → Nat → Prop, K y 1 → srcC M 3 x K) (hzz : ∀ w, w ∈ zz → w ∈ [SV.i .i64 0, SV.sn]) (hb : len ≤ 1048576)
    (hK : ∀ (z' : List SV) (ty' : TypeId) (cap' : Nat), (∀ w, w ∈ z' → w ∈ [SV.i .i64 0, SV.sn]) → (len + 1) * 3 + z'.length = cap' * 3 → K (.sl M.length 0 (len + 1) cap') (M.set n .dead ++ [.row (cs ++ y ++ z') ty'])) :
    appendC T M ts tx (.sl n 0 len cap) x K := by
  refine .inr (.inl ?_)
  unfold appendN
  rw [htk]
  refine ⟨hx, he0, by decide, _, hz, hsrc _ ?_⟩
  have hce : cellsAt M n = cs ++ zz := by simp [cellsAt, hB]
  refine ⟨rfl, by omega, ⟨_, ty, hB, by simp [hlen]; omega⟩, fun hlt => ?_, fun c sp ty' hc hsp hm => ?_⟩
  · have := growslice_fits (need := len + 1) (old := cap) (bytes := eby) hlt (by
      have : (len + 1) * eby ≤ 1048577 * 4096 := Nat.mul_le_mul (by omega) he
      omega)
    omega
  · rw [hce] at hm ⊢
    rw [← hlen] at hm ⊢
    rw [List.drop_left] at hm
    rw [List.take_left]
    refine hK sp ty' c (fun w hw => ?_) (by rw [hsp, Nat.sub_mul]; have := Nat.mul_le_mul_right 3 hc; omega)
    rcases hm w hw with h | h
    · exact hzz w h
    · simp only [List.mem_cons, List.not_mem_nil, or_false] at h ⊢
      rcases h with h | h | h
      · exact .inl h
      · exact .inl h
      · exact .inr h

theorem rn_free {τ : Nat → Option Nat} : ∀ {l : List SV}, (∀ w, w ∈ l → w ∈ [SV.i .i64 0, SV.sn]) → rnL τ l = l
  | [], _ => rfl
  | x :: l, h => by
    have h1 := h x (by simp)
    have ih := rn_free (τ := τ) (l := l) (fun w hw => h w (by simp [hw]))
    simp only [List.mem_cons, List.not_mem_nil, or_false] at h1
    rcases h1 with rfl | rfl <;> simp only [rnL, SV.rn, ih]
theorem free_one {l : List SV} (h : ∀ w, w ∈ l → w ∈ [SV.i .i64 0, SV.sn]) : l.all SV.one = true := by
  rw [List.all_eq_true]
  intro w hw
  have := h w hw
  simp only [List.mem_cons, List.not_mem_nil, or_false] at this
  rcases this with rfl | rfl <;> rfl
theorem free_lt {l : List SV} {m : Nat} (h : ∀ w, w ∈ l → w ∈ [SV.i .i64 0, SV.sn]) : ltL m l = true := by
  rw [ltL_eq, List.all_eq_true]
  intro w hw
  have := h w hw
  simp only [List.mem_cons, List.not_mem_nil, or_false] at this
  rcases this with rfl | rfl <;> rfl
theorem rnL_app (τ : Nat → Option Nat) (l r : List SV) : rnL τ (l ++ r) = rnL τ l ++ rnL τ r := by simp [rnL_eq]

theorem und_blks {b : Nat} {q m c : Nat} {o : Option Nat} {L : List Blk} {vs : List Vis} {v : Vis} {seen : List Nat} {z' : List SV} {ty2 : Nat} {y : SV} (hm : m < b)
    (h0 : L[0]? = some (.obj (.it m c seen c))) (hp : ∀ i, i < vs.length → L[2 + i]? = (vs[i]?).map poolB)
    (hq : L[q]? = some (.row (outC (b + 2) vs ++ ([.i .i64 v.1, .i .i64 v.2.1, y] ++ z')) ty2))
    (hy : ∀ ρ, den ρ ((SV.sl (b + (2 + vs.length)) 0 v.2.2.1.length (v.2.2.1.length + v.2.2.2.1.length)).rn (tau b (undK vs.length q o))) = den ρ y)
    (hz' : ∀ w, w ∈ z' → w ∈ [SV.i .i64 0, SV.sn]) (ho : BlkRn (tau b (undK vs.length q o)) L o (poolB v)) :
    blksRn (tau b (undK vs.length q o)) L (undK vs.length q o) (undL m c (b + 2) seen (vs ++ [v]) z' ty2) := by
  refine blksRn_of _ _ (by simp [undK, undL]) (fun j k B hj hB => ?_)
  unfold undL at hB
  match j with
  | 0 =>
    have e : k = some 0 := by simpa [undK] using hj.symm
    have eB : B = .obj (.it m c seen c) := by simpa using hB.symm
    subst e eB
    exact ⟨_, h0, fun ρ => by simp only [MObj.den, reOf, tau_lt hm, Option.bind_some]⟩
  | 1 =>
    have e : k = some q := by simpa [undK] using hj.symm
    have eB : B = .row (outC (b + 2) (vs ++ [v]) ++ z') ty2 := by simpa using hB.symm
    subst e eB
    refine ⟨_, hq, by rw [List.all_append, outC_one, free_one hz']; rfl, fun ρ => ?_⟩
    rw [outC_snoc, rnL_app, rnL_app, rn_free hz', rn_outC]
    · simp only [denL_append, List.append_assoc, rnL, SV.rn]
      congr 1
      have := hy ρ
      rw [Nat.add_assoc]
      simp only [denL, den, List.cons_append, List.nil_append] at this ⊢
      simp only [SV.rn] at this
      rw [this]
    · intro i hi
      rw [Nat.add_assoc, tau_at, undK_get hi]
      rfl
  | j + 2 =>
    have hB' : ((vs ++ [v]).map poolB)[j]? = some B := by simpa using hB
    rw [List.map_append] at hB'
    by_cases hjv : j < vs.length
    · rw [List.getElem?_append_left (by simpa using hjv)] at hB'
      have e : k = some (2 + j) := by
        have := undK_get (k := vs.length) (q := q) (o := o) hjv
        rw [show 2 + j = j + 2 by omega] at this
        rw [this] at hj
        rw [show 2 + j = j + 2 by omega]
        exact (Option.some.inj hj).symm
      subst e
      have h3 := hp j hjv
      rw [List.getElem?_map] at hB'
      rw [hB'] at h3
      cases hv : vs[j]? with
      | none => rw [hv] at hB'; cases hB'
      | some w =>
        rw [hv] at hB'
        have : B = poolB w := by simpa using hB'.symm
        subst this
        exact keep8 h3
    · have hlt : j < ((List.map poolB vs) ++ (List.map poolB [v])).length := (List.getElem?_eq_some_iff.1 hB').1
      have ej : j = vs.length := by simp at hlt; omega
      subst ej
      have e : k = o := by
        have := undK_last (k := vs.length) (q := q) (o := o)
        rw [show 2 + vs.length = vs.length + 2 by omega] at this
        rw [this] at hj
        exact (Option.some.inj hj).symm
      subst e
      rw [List.getElem?_append_right (by simp)] at hB'
      have : B = poolB v := by simpa using hB'.symm
      subst this
      exact ho
theorem undL_lt {m c b : Nat} {seen : List Nat} {vs : List Vis} {zz : List SV} {ty : Nat} (hm : m < b) (hz : ∀ w, w ∈ zz → w ∈ [SV.i .i64 0, SV.sn]) : (undL m c (b + 2) seen vs zz ty).all (Blk.lt (b + (undL m c (b + 2) seen vs zz ty).length)) = true := by
  have hl : (undL m c (b + 2) seen vs zz ty).length = 2 + vs.length := by simp [undL]; omega
  rw [hl]
  unfold undL
  simp only [List.all_append, List.all_cons, List.all_nil, Bool.and_true, Bool.and_eq_true, Blk.lt, MObj.lt, decide_eq_true_eq, List.all_map]
  refine ⟨⟨by omega, ?_⟩, ?_⟩
  · rw [ltL_append, outC_lt vs _ _ (by omega), free_lt hz]; rfl
  · rw [List.all_eq_true]
    intro v _
    exact lt_row _ _ _

/-- what is known of the visits -/
def seenV (ws : List Ent) (vs : List Vis) : Prop := vs.map (fun v => (v.1, v.2.1, v.2.2.1)) = ws.map fun f => (f.1, f.2.1, f.2.2.2.1)
theorem seenV_snoc {ws : List Ent} {vs : List Vis} (h : seenV ws vs) (f : Ent) (z : List (BitVec 8)) (ty : Nat) : seenV (ws ++ [f]) (vs ++ [(f.1, f.2.1, f.2.2.2.1, z, ty)]) := by
  unfold seenV at *
  rw [List.map_append, List.map_append, h]; rfl
theorem seenV_len {ws : List Ent} {vs : List Vis} (h : seenV ws vs) : vs.length = ws.length := by
  have := congrArg List.length h
  simpa using this

def undI (nx m c : Nat) (fs : List Ent) (M : List Blk) (n : Nat) (ts : List SV) (M' : List Blk) : Prop :=
  ∃ (ws : List Ent) (vs : List Vis) (zz : List SV) (cap : Nat) (ty : TypeId), n + ws.length = fs.length ∧ seenV ws vs ∧ (ws.map (·.2.2.2.2)).Nodup ∧ (∀ a, a ∈ ws → a ∈ fs) ∧
    (∀ y, y ∈ zz → y ∈ [SV.i .i64 0, SV.sn]) ∧ vs.length * 3 + zz.length = cap * 3 ∧ M' = M ++ undL m c (M.length + 2) (ws.map (·.2.2.2.2)) vs zz ty ∧ frC (undF nx M.length vs.length cap) ts

def kOf (x : Int) : Key := ⟨x.toNat % 4611686018427387904, Nat.mod_lt _ (by omega)⟩
theorem kOf_val {x : Int} (h0 : 0 ≤ x) (h1 : x < 4611686018427387904) : ((kOf x).val : Int) = x := by
  unfold kOf
  show ((x.toNat % 4611686018427387904 : Nat) : Int) = x
  rw [Nat.mod_eq_of_lt (by omega)]
  omega
def lookV : Nat → List Vis → Key → SV × SV
  | _, [], _ => (.i .i64 0, .sn)
  | b, v :: vs, x => if x = kOf v.1 then (.i .i64 v.2.1, .sl b 0 v.2.2.1.length (v.2.2.1.length + v.2.2.2.1.length)) else lookV (b + 1) vs x
theorem lookV_one (vs : List Vis) (x : Key) : ∀ b, (lookV b vs x).1.one = true ∧ (lookV b vs x).2.one = true := by
  induction vs with
  | nil => intro b; exact ⟨rfl, rfl⟩
  | cons v vs ih =>
    intro b
    unfold lookV
    split
    · exact ⟨rfl, rfl⟩
    · exact ih (b + 1)
theorem lookV_lt (vs : List Vis) (x : Key) : ∀ b m, b + vs.length ≤ m → (lookV b vs x).1.lt m = true ∧ (lookV b vs x).2.lt m = true := by
  induction vs with
  | nil => intro b m _; exact ⟨rfl, rfl⟩
  | cons v vs ih =>
    intro b m h
    simp only [List.length_cons] at h
    unfold lookV
    split
    · exact ⟨rfl, by simp only [SV.lt, decide_eq_true_eq]; omega⟩
    · exact ih (b + 1) m (by omega)
theorem fcells_congr {a b a' b' : Key → SV} : ∀ {ks : List Key}, (∀ x, x ∈ ks → a x = a' x ∧ b x = b' x) → fcells a b ks = fcells a' b' ks
  | [], _ => rfl
  | x :: ks, h => by
    have h1 := h x (by simp)
    have ih := fcells_congr (a := a) (b := b) (a' := a') (b' := b') (ks := ks) (fun y hy => h y (by simp [hy]))
    simp only [fcells, List.map_cons, List.flatten_cons, fcell, h1.1, h1.2] at ih ⊢
    rw [ih]
theorem outC_f : ∀ (vs : List Vis) (b : Nat), (vs.map fun v => kOf v.1).Nodup → (∀ v, v ∈ vs → 0 ≤ v.1 ∧ v.1 < 4611686018427387904) →
    outC b vs = fcells (fun x => (lookV b vs x).1) (fun x => (lookV b vs x).2) (vs.map fun v => kOf v.1)
  | [], b, _, _ => rfl
  | v :: vs, b, hn, hr => by
    rw [List.map_cons, List.nodup_cons] at hn
    have hv := hr v (by simp)
    have ih := outC_f vs (b + 1) hn.2 (fun w hw => hr w (by simp [hw]))
    have e : fcells (fun x => (lookV b (v :: vs) x).1) (fun x => (lookV b (v :: vs) x).2) (vs.map fun v => kOf v.1) = fcells (fun x => (lookV (b + 1) vs x).1) (fun x => (lookV (b + 1) vs x).2) (vs.map fun v => kOf v.1) := by
      refine fcells_congr (fun x hx => ?_)
      have hne : ¬ x = kOf v.1 := fun e => hn.1 (e ▸ hx)
      constructor <;> simp only [lookV, if_neg hne]
    have hc : fcells (fun x => (lookV b (v :: vs) x).1) (fun x => (lookV b (v :: vs) x).2) ((v :: vs).map fun v => kOf v.1) =
        fcell (fun x => (lookV b (v :: vs) x).1) (fun x => (lookV b (v :: vs) x).2) (kOf v.1) ++ fcells (fun x => (lookV b (v :: vs) x).1) (fun x => (lookV b (v :: vs) x).2) (vs.map fun v => kOf v.1) := by
      simp [fcells]
    rw [hc, e, ← ih]
    simp only [outC, fcell, lookV, if_true, kOf_val hv.1 hv.2]
theorem look_mem : ∀ (vs : List Vis) (b : Nat) {v : Vis}, (vs.map fun v => kOf v.1).Nodup → v ∈ vs → ∃ i, vs[i]? = some v ∧ lookV b vs (kOf v.1) = (.i .i64 v.2.1, .sl (b + i) 0 v.2.2.1.length (v.2.2.1.length + v.2.2.2.1.length))
  | [], _, v, _, h => by cases h
  | w :: vs, b, v, hn, h => by
    rw [List.map_cons, List.nodup_cons] at hn
    rcases List.mem_cons.1 h with rfl | h'
    · exact ⟨0, rfl, by simp [lookV]⟩
    · obtain ⟨i, h1, h2⟩ := look_mem vs (b + 1) hn.2 h'
      have hne : ¬ kOf v.1 = kOf w.1 := fun e => hn.1 (by rw [← e]; exact List.mem_map.2 ⟨v, h', rfl⟩)
      exact ⟨i + 1, by simpa using h1, by simp only [lookV, if_neg hne, h2]; rw [show b + 1 + i = b + (i + 1) by omega]⟩

theorem sort_vis (vs : List Vis) (b n cap : Nat) (ks' : List Key) (zz : List SV) (ty : TypeId) {M : List Blk} {K : SV → List Blk → Prop} (hB : M[n]? = some (.row (outC b vs ++ zz) ty)) (hb : b + vs.length ≤ M.length)
    (hnk : (vs.map fun v => kOf v.1).Nodup) (hr : ∀ v, v ∈ vs → 0 ≤ v.1 ∧ v.1 < 4611686018427387904) (hl : vs.length < 4611686018427387904) (hsk : sortK (vs.map fun v => kOf v.1) = ks')
    (hK : K (.tup []) (M.set n (.row (fcells (fun x => (lookV b vs x).1) (fun x => (lookV b vs x).2) ks' ++ zz) ty))) :
    callVC Try.prog 36 [.sl n 0 vs.length cap, .fn (.func 37) [] []] M K := by
  rw [outC_f vs b hnk hr] at hB
  have hlen : (vs.map fun v => kOf v.1).length = vs.length := List.length_map _
  generalize (vs.map fun v => kOf v.1) = ks at hB hsk hlen
  rw [← hlen] at hl ⊢
  rw [← hsk] at hK
  exact sort_ok (fun x => (lookV b vs x).1) (fun x => (lookV b vs x).2) n ks zz cap ty hB hl (fun x => (lookV_one vs x b).1) (fun x => (lookV_one vs x b).2) (fun x => (lookV_lt vs x b _ hb).1) (fun x => (lookV_lt vs x b _ hb).2) hK

/-- a list of flights in memory -/
def flC : List (Int × Int × SV) → List SV
  | [] => []
  | f :: fs => [.i .i64 f.1, .i .i64 f.2.1, f.2.2] ++ flC fs
/-- it holds these flights -/
def Holds3 (M : List Blk) (fs : List (Int × Int × List (BitVec 8))) (xs : List (Int × Int × SV)) : Prop :=
  xs.map (fun x => (x.1, x.2.1)) = fs.map (fun f => (f.1, f.2.1)) ∧ ∀ (i : Nat) (f : Int × Int × List (BitVec 8)) (x : Int × Int × SV), fs[i]? = some f → xs[i]? = some x → ∃ n cap, x.2.2 = .sl n 0 f.2.2.length cap ∧ BAt M n 0 f.2.2

theorem flC_eq (a b : Key → SV) : ∀ (fs : List Ent), (∀ f, f ∈ fs → ((kOf f.1).val : Int) = f.1 ∧ a (kOf f.1) = .i .i64 f.2.1) → fcells a b (fs.map fun f => kOf f.1) = flC (fs.map fun f => (f.1, f.2.1, b (kOf f.1)))
  | [], _ => rfl
  | f :: fs, h => by
    have h1 := h f (by simp)
    have ih := flC_eq a b fs (fun g hg => h g (by simp [hg]))
    simp only [fcells, List.map_cons, List.flatten_cons, flC] at ih ⊢
    rw [ih, fcell, h1.1, h1.2]
theorem sort_keys {ks ks' : List Key} (hp : ks.Perm ks') (hs : ks'.Pairwise fun a b => a.val < b.val) : sortK ks = ks' := by
  refine List.Perm.eq_of_pairwise (le := fun a b => (!ltOf cfK b a) = true) (fun a b _ _ h1 h2 => ?_) (List.pairwise_mergeSort (fun a b c h1 h2 => ?_) (fun a b => ?_) _) ?_ ((List.mergeSort_perm _ _).trans hp)
  · rw [ltK] at h1 h2
    simp at h1 h2
    exact Fin.ext (by omega)
  · rw [ltK] at h1 h2 ⊢
    simp at h1 h2 ⊢
    omega
  · rw [ltK, ltK]
    simp
    omega
  · refine hs.imp (fun {a b} h => ?_)
    rw [ltK]
    simp
    omega

set_option maxHeartbeats 1000000 in
theorem under_ok (nx m : Nat) (g : Int) (fs : List Ent) (c : Nat) (ty : TypeId) (M : List Blk) (K : SV → List Blk → Prop)
    (h1 : M[nx]? = some (.row [.mp m, .i .i64 g] ty)) (h2 : M[m]? = some (.obj (.map (fs.map entE) c))) (hd : ∀ f, f ∈ fs → DataAt M f) (hc : ∀ f, f ∈ fs → f.2.2.2.2 < c)
    (hnd : (fs.map (·.2.2.2.2)).Nodup) (hfl : fs.length ≤ 1048576)
    (hr : ∀ f, f ∈ fs → 0 ≤ f.1 ∧ f.1 < 4611686018427387904) (hso : fs.Pairwise fun a b => a.1 < b.1)
    (hK : ∀ (L : List Blk) (xs : List (Int × Int × SV)) (zz : List SV) (cap : Nat) (ty : TypeId), L[1]? = some (.row (flC xs ++ zz) ty) → Holds3 (M ++ L) (fs.map fun f => (f.1, f.2.1, f.2.2.2.1)) xs → K (.sl (M.length + 1) 0 fs.length cap) (M ++ L)) :
    callVC Try.prog 22 [.p nx 0] M K := by
  have hn1 := kw h1
  have hn2 := kw h2
  refine fn_rule tabOK Try.func22 rfl Try.call22 (by kernel_rfl) (fun hM => ?_)
  (refine top_in ?_; simp -implicitDefEqProofs only [Try.ntmps22, Try.results22, go_sem, -List.reduceReplicate, ↓L_gdZ_tt, ↓L_gdZ_tf, ↓L_gdZ_ft, ↓L_gdZ_ff, ↓T_and, ↓T_imp, ↓T_all, Nat.reduceBEq, Nat.reduceAdd, Nat.reduceSub, Nat.reduceMul, Nat.reduceLT, Nat.reduceLeDiff, Nat.reduceEqDiff, Int.reduceLT, Int.reduceLE, Int.reduceAdd, Int.reduceSub, Int.reduceMul, Int.reduceNeg, Int.reduceToNat, Int.reduceEq, Int.reduceNe, reduceIte, reduceCtorEq, BitVec.reduceOfInt, BitVec.reduceToNat, h1, h2, get_lt hn1, get_lt hn2]; try simp only [top_out])
  refine loop_gc tabOK (by kernel_rfl) (undI nx m c fs M) fs.length ?_ ?_
  · refine covF_gc hM [some 0, none] (undF nx M.length 0 0) [.obj (.it m c [] c), .row [] 0] rfl ⟨⟨_, rfl, fun ρ => ?_⟩, rfl, trivial⟩ (by simp [Blk.lt, MObj.lt, ltL]; omega) ?_ ?_ (fun ts' h => ⟨[], [], [], 0, 0, by simp, rfl, by simp, by simp, by simp, by simp, rfl, h⟩)
    · simp only [MObj.den, reOf, tau_lt hn2, Option.bind_some]
    · unfold undF
      simp only [Int.natCast_add, cast_lit, Nat.add_assoc, rnSl_n, frRn_nil, frRn_s, frRn_n, frLt_nil, frLt_s, frLt_n, rn_i, rn_u8, rn_u32, rn_u64, rn_b, rn_str, rn_sn, rn_pn, rn_agg, rn_tup, rnL_nil, rnL_cons, rn_bS, rn_nil, rn_sl_at, rn_sl_at0, rn_p_at, rn_p_at0, rnSl_s, rnP_s, lt_i, lt_u8, lt_u32, lt_u64, lt_b, lt_sl, lt_p, lt_agg, lt_tup, ltL_nil', ltL_cons, bS_lt, List.getElem?_cons_succ, List.getElem?_cons_zero, Option.join_some, Nat.add_zero, Nat.zero_add, implies_true, and_self, and_true, true_and, Bool.and_true, Bool.true_and, Bool.and_self, List.length_cons, List.length_nil, List.length_append, decide_eq_true_eq, Bool.and_eq_true, rn_p hn1]
    · unfold undF
      simp only [Int.natCast_add, cast_lit, Nat.add_assoc, rnSl_n, frRn_nil, frRn_s, frRn_n, frLt_nil, frLt_s, frLt_n, rn_i, rn_u8, rn_u32, rn_u64, rn_b, rn_str, rn_sn, rn_pn, rn_agg, rn_tup, rnL_nil, rnL_cons, rn_bS, rn_nil, rn_sl_at, rn_sl_at0, rn_p_at, rn_p_at0, rnSl_s, rnP_s, lt_i, lt_u8, lt_u32, lt_u64, lt_b, lt_sl, lt_p, lt_agg, lt_tup, ltL_nil', ltL_cons, bS_lt, List.getElem?_cons_succ, List.getElem?_cons_zero, Option.join_some, Nat.add_zero, Nat.zero_add, implies_true, and_self, and_true, true_and, Bool.and_true, Bool.true_and, Bool.and_self, List.length_cons, List.length_nil, List.length_append, decide_eq_true_eq, Bool.and_eq_true]; omega
  · rintro n ts _ ⟨ws, vs, zz, cap, ty', hn, hv, hwn, hws, hzz, hcap, rfl, hf⟩
    unfold undL
    unfold undF at hf
    obtain ⟨f, rfl⟩ := frC_open _ _ 0 hf
    clear hf
    (refine top_in ?_; simp -implicitDefEqProofs only [go_sem, -List.reduceReplicate, ↓L_gdZ_tt, ↓L_gdZ_tf, ↓L_gdZ_ft, ↓L_gdZ_ff, ↓T_and, ↓T_imp, ↓T_all, Nat.reduceBEq, Nat.reduceAdd, Nat.reduceSub, Nat.reduceMul, Nat.reduceLT, Nat.reduceLeDiff, Nat.reduceEqDiff, Int.reduceLT, Int.reduceLE, Int.reduceAdd, Int.reduceSub, Int.reduceMul, Int.reduceNeg, Int.reduceToNat, Int.reduceEq, Int.reduceNe, reduceIte, reduceCtorEq, BitVec.reduceOfInt, BitVec.reduceToNat, get_lt hn2, h2]; try simp only [top_out])
    refine ⟨fun e he => ?_, fun hall => ?_, fun e he hns => ?_⟩
    · obtain ⟨a, ha, rfl⟩ := List.mem_map.1 he
      exact hc a ha
    · have hp := visited hnd hwn hws hall
      have hwl := seenV_len hv
      have hkeys : (vs.map fun v => kOf v.1) = ws.map fun f => kOf f.1 := by
        have := congrArg (List.map fun t : Int × Int × List (BitVec 8) => kOf t.1) hv
        simpa [List.map_map, Function.comp_def] using this
      have hkv : ∀ f, f ∈ fs → ((kOf f.1).val : Int) = f.1 := fun f hf => kOf_val (hr f hf).1 (hr f hf).2
      have hps : (fs.map fun f => kOf f.1).Pairwise fun a b => a.val < b.val := by
        rw [List.pairwise_map]
        refine List.Pairwise.imp_of_mem (fun {a b} ha hb h => ?_) hso
        have := hkv a ha
        have := hkv b hb
        omega
      have hpk : (vs.map fun v => kOf v.1).Perm (fs.map fun f => kOf f.1) := by rw [hkeys]; exact hp.map _
      have hnk : (vs.map fun v => kOf v.1).Nodup := by
        rw [hpk.nodup_iff]
        exact hps.imp (fun {a b} h e => by rw [e] at h; omega)
      have hvm : ∀ v, v ∈ vs → ∃ f, f ∈ fs ∧ v.1 = f.1 ∧ v.2.1 = f.2.1 ∧ v.2.2.1 = f.2.2.2.1 := by
        intro v hv'
        have : (v.1, v.2.1, v.2.2.1) ∈ ws.map fun f => (f.1, f.2.1, f.2.2.2.1) := by rw [← hv]; exact List.mem_map.2 ⟨v, hv', rfl⟩
        obtain ⟨f, hf, e⟩ := List.mem_map.1 this
        simp only [Prod.mk.injEq] at e
        exact ⟨f, hws f hf, e.1.symm, e.2.1.symm, e.2.2.symm⟩
      have hfm : ∀ f, f ∈ fs → ∃ v, v ∈ vs ∧ v.1 = f.1 ∧ v.2.1 = f.2.1 ∧ v.2.2.1 = f.2.2.2.1 := by
        intro f hf
        have : (f.1, f.2.1, f.2.2.2.1) ∈ vs.map fun v => (v.1, v.2.1, v.2.2.1) := by rw [hv]; exact List.mem_map.2 ⟨f, hp.mem_iff.2 hf, rfl⟩
        obtain ⟨v, hv', e⟩ := List.mem_map.1 this
        simp only [Prod.mk.injEq] at e
        exact ⟨v, hv', e.1, e.2.1, e.2.2⟩
      have hfl2 : vs.length = fs.length := by rw [hwl]; exact hp.length_eq
      have hsk := sort_keys hpk hps
      have hrv : ∀ v, v ∈ vs → 0 ≤ v.1 ∧ v.1 < 4611686018427387904 := fun v hv' => by obtain ⟨f, hf, e, _⟩ := hvm v hv'; rw [e]; exact hr f hf
      refine sort_vis vs (M.length + 2) (M.length + 1) cap _ zz ty' (by rw [get_app]; rfl) (by simp; omega) hnk hrv (by omega) hsk ?_
      (refine top_in ?_; simp -implicitDefEqProofs only [go_sem, -List.reduceReplicate, ↓L_gdZ_tt, ↓L_gdZ_tf, ↓L_gdZ_ft, ↓L_gdZ_ff, ↓T_and, ↓T_imp, ↓T_all, Nat.reduceBEq, Nat.reduceAdd, Nat.reduceSub, Nat.reduceMul, Nat.reduceLT, Nat.reduceLeDiff, Nat.reduceEqDiff, Int.reduceLT, Int.reduceLE, Int.reduceAdd, Int.reduceSub, Int.reduceMul, Int.reduceNeg, Int.reduceToNat, Int.reduceEq, Int.reduceNe, reduceIte, reduceCtorEq, BitVec.reduceOfInt, BitVec.reduceToNat]; try simp only [top_out])
      rw [hfl2]
      refine dropC_all (by simp) (hK _ (fs.map fun f => (f.1, f.2.1, (lookV (M.length + 2) vs (kOf f.1)).2)) zz cap ty' ?_ ⟨?_, ?_⟩)
      · have hlk : ∀ f, f ∈ fs → (lookV (M.length + 2) vs (kOf f.1)).1 = .i .i64 f.2.1 := by
          intro f hf
          obtain ⟨v, hv', e1, e2, e3⟩ := hfm f hf
          obtain ⟨j, hj, hl⟩ := look_mem vs (M.length + 2) hnk hv'
          rw [← e1, hl, e2]
        rw [List.getElem?_cons_succ, List.getElem?_cons_zero, flC_eq _ _ fs (fun f hf => ⟨hkv f hf, hlk f hf⟩)]
      · simp
      · intro i f x hf hx
        rw [List.getElem?_map] at hf hx
        cases hg : fs[i]? with
        | none => rw [hg] at hf; cases hf
        | some a =>
          rw [hg] at hf hx
          simp only [Option.map_some, Option.some.injEq] at hf hx
          subst hf hx
          have ha := List.mem_of_getElem? hg
          obtain ⟨v, hv', e1, e2, e3⟩ := hfm a ha
          obtain ⟨j, hj, hl⟩ := look_mem vs (M.length + 2) hnk hv'
          refine ⟨M.length + 2 + j, v.2.2.1.length + v.2.2.2.1.length, ?_, ?_⟩
          · show (lookV (M.length + 2) vs (kOf a.1)).2 = _
            rw [← e1, hl, e3]
          · show BAt _ _ _ a.2.2.2.1
            rw [← e3]
            refine BAt.row (z := v.2.2.2.1) (ty := v.2.2.2.2) ?_
            rw [Nat.add_assoc, get_app, show 2 + j = j + 2 by omega, List.getElem?_cons_succ, List.getElem?_cons_succ, List.getElem?_map, hj]
            rfl
    · obtain ⟨a, ha, rfl⟩ := List.mem_map.1 he
      have hfind := find_ent hnd ha
      have hlast : (List.map (fun x : Ent => x.2.2.2.2) ws ++ [a.2.2.2.2]).getLast? = some a.2.2.2.2 := by simp
      simp only [entE] at hns ⊢
      obtain ⟨hal, ⟨hx, hl0⟩ | ⟨d, dc, hx, hb, hlv⟩⟩ := hd a ha
      · rw [hx] at hfind
        (refine top_in ?_; simp -implicitDefEqProofs only [go_sem, -List.reduceReplicate, ↓L_gdZ_tt, ↓L_gdZ_tf, ↓L_gdZ_ft, ↓L_gdZ_ff, ↓T_and, ↓T_imp, ↓T_all, Nat.reduceBEq, Nat.reduceAdd, Nat.reduceSub, Nat.reduceMul, Nat.reduceLT, Nat.reduceLeDiff, Nat.reduceEqDiff, Int.reduceLT, Int.reduceLE, Int.reduceAdd, Int.reduceSub, Int.reduceMul, Int.reduceNeg, Int.reduceToNat, Int.reduceEq, Int.reduceNe, reduceIte, reduceCtorEq, BitVec.reduceOfInt, BitVec.reduceToNat, hlast, hfind, hx, flS]; try simp only [top_out])
        obtain ⟨pl, hpl⟩ : ∃ pl, vs.map poolB = pl := ⟨_, rfl⟩
        rw [hpl]
        refine draw_rule tabOK (by kernel_rfl : _) (.p 0 (.p 1 (.p 2 (.p 3 (.p 4 (.p 5 (.e 6 [2, 3] (.p 7 (.e 8 [] (.e 9 [] (.p 10 .nil) .no) .no)) .no))))))) (by kernel_rfl) (by kernel_rfl) ?_
        (refine top_in ?_; simp -implicitDefEqProofs only [go_sem, -List.reduceReplicate, ↓L_gdZ_tt, ↓L_gdZ_tf, ↓L_gdZ_ft, ↓L_gdZ_ff, ↓T_and, ↓T_imp, ↓T_all, Nat.reduceBEq, Nat.reduceAdd, Nat.reduceSub, Nat.reduceMul, Nat.reduceLT, Nat.reduceLeDiff, Nat.reduceEqDiff, Int.reduceLT, Int.reduceLE, Int.reduceAdd, Int.reduceSub, Int.reduceMul, Int.reduceNeg, Int.reduceToNat, Int.reduceEq, Int.reduceNe, reduceIte, reduceCtorEq, BitVec.reduceOfInt, BitVec.reduceToNat]; try simp only [top_out])
        refine clone_nil _ _ ?_
        (refine top_in ?_; simp -implicitDefEqProofs only [go_sem, -List.reduceReplicate, ↓L_gdZ_tt, ↓L_gdZ_tf, ↓L_gdZ_ft, ↓L_gdZ_ff, ↓T_and, ↓T_imp, ↓T_all, Nat.reduceBEq, Nat.reduceAdd, Nat.reduceSub, Nat.reduceMul, Nat.reduceLT, Nat.reduceLeDiff, Nat.reduceEqDiff, Int.reduceLT, Int.reduceLE, Int.reduceAdd, Int.reduceSub, Int.reduceMul, Int.reduceNeg, Int.reduceToNat, Int.reduceEq, Int.reduceNe, reduceIte, reduceCtorEq, BitVec.reduceOfInt, BitVec.reduceToNat]; try simp only [top_out])
        have hpll : pl.length = vs.length := by rw [← hpl]; simp
        refine ⟨by decide, ?_⟩
        refine appF (M.length + 1) (outC (M.length + 2) vs) zz [.i .i64 a.1, .i .i64 a.2.1, .sn] ty' rfl (by decide) (by decide) rfl rfl (by rw [get_app]; rfl) (outC_length _ _) hcap ?_ hzz (by have := seenV_len hv; omega) (fun z' ty2 cap' hz' hc' => ?_)
        · intro K hK
          simp only [srcC]
          rw [cells_at]
          (refine top_in ?_; simp -implicitDefEqProofs only [go_sem, -List.reduceReplicate, ↓L_gdZ_tt, ↓L_gdZ_tf, ↓L_gdZ_ft, ↓L_gdZ_ff, ↓T_and, ↓T_imp, ↓T_all, Nat.reduceBEq, Nat.reduceAdd, Nat.reduceSub, Nat.reduceMul, Nat.reduceLT, Nat.reduceLeDiff, Nat.reduceEqDiff, Int.reduceLT, Int.reduceLE, Int.reduceAdd, Int.reduceSub, Int.reduceMul, Int.reduceNeg, Int.reduceToNat, Int.reduceEq, Int.reduceNe, reduceIte, reduceCtorEq, BitVec.reduceOfInt, BitVec.reduceToNat]; try simp only [top_out])
          exact hK
        · (refine top_in ?_; simp -implicitDefEqProofs only [go_sem, -List.reduceReplicate, ↓L_gdZ_tt, ↓L_gdZ_tf, ↓L_gdZ_ft, ↓L_gdZ_ff, ↓T_and, ↓T_imp, ↓T_all, Nat.reduceBEq, Nat.reduceAdd, Nat.reduceSub, Nat.reduceMul, Nat.reduceLT, Nat.reduceLeDiff, Nat.reduceEqDiff, Int.reduceLT, Int.reduceLE, Int.reduceAdd, Int.reduceSub, Int.reduceMul, Int.reduceNeg, Int.reduceToNat, Int.reduceEq, Int.reduceNe, reduceIte, reduceCtorEq, BitVec.reduceOfInt, BitVec.reduceToNat]; try simp only [top_out])
          rw [hpll]
          have hwl := seenV_len hv
          have hwn' : ((ws ++ [a]).map (·.2.2.2.2)).Nodup := by
            rw [List.map_append, List.nodup_append]
            refine ⟨hwn, by simp, fun x hx y hy e => ?_⟩
            simp only [List.map_cons, List.map_nil, List.mem_singleton] at hy
            subst e hy
            exact hns hx
          have hws' : ∀ b, b ∈ ws ++ [a] → b ∈ fs := fun b hb' => by
            rcases List.mem_append.1 hb' with h | h
            · exact hws b h
            · rw [List.mem_singleton.1 h]; exact ha
          have hle := visits_le hwn' hws'
          rw [List.length_append, List.length_singleton] at hle
          refine covF_gc hM (undK vs.length (vs.length + 4) none) (undF nx M.length (vs.length + 1) cap') (undL m c (M.length + 2) (ws.map (·.2.2.2.2) ++ [a.2.2.2.2]) (vs ++ [(a.1, a.2.1, [], [], 0)]) z' ty2) (undK_dupl (by omega) (fun x e => by cases e)) ?_ (undL_lt hn2 hz') ?_ ?_ (fun ts' h => ⟨n - 1, by omega, ws ++ [a], vs ++ [(a.1, a.2.1, [], [], 0)], z', cap', ty2, by simp; omega, (by have := seenV_snoc hv a [] 0; rwa [hl0] at this), hwn', hws', hz', by simpa using hc', by rw [List.map_append]; rfl, by simpa using h⟩)
          · refine und_blks (y := .sn) hn2 rfl (fun i hi => ?_) ?_ (fun ρ => ?_) hz' ?_
            · rw [show 2 + i = i + 2 by omega, List.getElem?_cons_succ, List.getElem?_cons_succ, List.getElem?_append_left (by omega), ← hpl, List.getElem?_map]
            · rw [List.getElem?_cons_succ, List.getElem?_cons_succ, List.getElem?_append_right (by omega), hpll, show vs.length + 2 - vs.length = 2 by omega]
              simp
            · simp only [SV.rn, tau_at, undK_last, Option.bind_some, Option.map_none]
              rfl
            · rfl
          · unfold undF
            have k0 : (undK vs.length (vs.length + 4) none)[0]? = some (some 0) := rfl
            have k1 : (undK vs.length (vs.length + 4) none)[1]? = some (some (vs.length + 4)) := rfl
            simp only [Int.natCast_add, cast_lit, Nat.add_assoc, rnSl_n, frRn_nil, frRn_s, frRn_n, frLt_nil, frLt_s, frLt_n, rn_i, rn_u8, rn_u32, rn_u64, rn_b, rn_str, rn_sn, rn_pn, rn_agg, rn_tup, rnL_nil, rnL_cons, rn_bS, rn_nil, rn_sl_at, rn_sl_at0, rn_p_at, rn_p_at0, rnSl_s, rnP_s, lt_i, lt_u8, lt_u32, lt_u64, lt_b, lt_sl, lt_p, lt_agg, lt_tup, ltL_nil', ltL_cons, bS_lt, List.getElem?_cons_succ, List.getElem?_cons_zero, Option.join_some, Nat.add_zero, Nat.zero_add, implies_true, and_self, and_true, true_and, Bool.and_true, Bool.true_and, Bool.and_self, List.length_cons, List.length_nil, List.length_append, decide_eq_true_eq, Bool.and_eq_true, rn_p hn1, k0, k1]
          · unfold undF
            have e : (undL m c (M.length + 2) (ws.map (·.2.2.2.2) ++ [a.2.2.2.2]) (vs ++ [(a.1, a.2.1, [], [], 0)]) z' ty2).length = vs.length + 3 := by simp [undL]
            rw [e]
            simp only [Int.natCast_add, cast_lit, Nat.add_assoc, rnSl_n, frRn_nil, frRn_s, frRn_n, frLt_nil, frLt_s, frLt_n, rn_i, rn_u8, rn_u32, rn_u64, rn_b, rn_str, rn_sn, rn_pn, rn_agg, rn_tup, rnL_nil, rnL_cons, rn_bS, rn_nil, rn_sl_at, rn_sl_at0, rn_p_at, rn_p_at0, rnSl_s, rnP_s, lt_i, lt_u8, lt_u32, lt_u64, lt_b, lt_sl, lt_p, lt_agg, lt_tup, ltL_nil', ltL_cons, bS_lt, List.getElem?_cons_succ, List.getElem?_cons_zero, Option.join_some, Nat.add_zero, Nat.zero_add, implies_true, and_self, and_true, true_and, Bool.and_true, Bool.true_and, Bool.and_self, List.length_cons, List.length_nil, List.length_append, decide_eq_true_eq, Bool.and_eq_true]; omega
      · rw [hx] at hfind
        (refine top_in ?_; simp -implicitDefEqProofs only [go_sem, -List.reduceReplicate, ↓L_gdZ_tt, ↓L_gdZ_tf, ↓L_gdZ_ft, ↓L_gdZ_ff, ↓T_and, ↓T_imp, ↓T_all, Nat.reduceBEq, Nat.reduceAdd, Nat.reduceSub, Nat.reduceMul, Nat.reduceLT, Nat.reduceLeDiff, Nat.reduceEqDiff, Int.reduceLT, Int.reduceLE, Int.reduceAdd, Int.reduceSub, Int.reduceMul, Int.reduceNeg, Int.reduceToNat, Int.reduceEq, Int.reduceNe, reduceIte, reduceCtorEq, BitVec.reduceOfInt, BitVec.reduceToNat, hlast, hfind, hx, flS]; try simp only [top_out])
        obtain ⟨pl, hpl⟩ : ∃ pl, vs.map poolB = pl := ⟨_, rfl⟩
        rw [hpl]
        refine draw_rule tabOK (by kernel_rfl : _) (.p 0 (.p 1 (.p 2 (.p 3 (.p 4 (.p 5 (.e 6 [2, 3] (.p 7 (.e 8 [] (.e 9 [] (.p 10 .nil) .no) .no)) .no))))))) (by kernel_rfl) (by kernel_rfl) ?_
        (refine top_in ?_; simp -implicitDefEqProofs only [go_sem, -List.reduceReplicate, ↓L_gdZ_tt, ↓L_gdZ_tf, ↓L_gdZ_ft, ↓L_gdZ_ff, ↓T_and, ↓T_imp, ↓T_all, Nat.reduceBEq, Nat.reduceAdd, Nat.reduceSub, Nat.reduceMul, Nat.reduceLT, Nat.reduceLeDiff, Nat.reduceEqDiff, Int.reduceLT, Int.reduceLE, Int.reduceAdd, Int.reduceSub, Int.reduceMul, Int.reduceNeg, Int.reduceToNat, Int.reduceEq, Int.reduceNe, reduceIte, reduceCtorEq, BitVec.reduceOfInt, BitVec.reduceToNat]; try simp only [top_out])
        refine clone_any d dc _ a.2.2.2.1 _ _ hb.app (hlv.app hb.lt) (by omega) rfl (fun z tz => ?_)
        (refine top_in ?_; simp -implicitDefEqProofs only [go_sem, -List.reduceReplicate, ↓L_gdZ_tt, ↓L_gdZ_tf, ↓L_gdZ_ft, ↓L_gdZ_ff, ↓T_and, ↓T_imp, ↓T_all, Nat.reduceBEq, Nat.reduceAdd, Nat.reduceSub, Nat.reduceMul, Nat.reduceLT, Nat.reduceLeDiff, Nat.reduceEqDiff, Int.reduceLT, Int.reduceLE, Int.reduceAdd, Int.reduceSub, Int.reduceMul, Int.reduceNeg, Int.reduceToNat, Int.reduceEq, Int.reduceNe, reduceIte, reduceCtorEq, BitVec.reduceOfInt, BitVec.reduceToNat]; try simp only [top_out])
        have hpll : pl.length = vs.length := by rw [← hpl]; simp
        refine ⟨by decide, ?_⟩
        refine appF (M.length + 1) (outC (M.length + 2) vs) zz [.i .i64 a.1, .i .i64 a.2.1, .sl (M.length + (pl.length + 3)) 0 a.2.2.2.1.length (a.2.2.2.1.length + z.length)] ty' rfl (by decide) (by decide) rfl rfl (by rw [get_app]; rfl) (outC_length _ _) hcap ?_ hzz (by have := seenV_len hv; omega) (fun z' ty2 cap' hz' hc' => ?_)
        · intro K hK
          simp only [srcC]
          rw [cells_at]
          (refine top_in ?_; simp -implicitDefEqProofs only [go_sem, -List.reduceReplicate, ↓L_gdZ_tt, ↓L_gdZ_tf, ↓L_gdZ_ft, ↓L_gdZ_ff, ↓T_and, ↓T_imp, ↓T_all, Nat.reduceBEq, Nat.reduceAdd, Nat.reduceSub, Nat.reduceMul, Nat.reduceLT, Nat.reduceLeDiff, Nat.reduceEqDiff, Int.reduceLT, Int.reduceLE, Int.reduceAdd, Int.reduceSub, Int.reduceMul, Int.reduceNeg, Int.reduceToNat, Int.reduceEq, Int.reduceNe, reduceIte, reduceCtorEq, BitVec.reduceOfInt, BitVec.reduceToNat]; try simp only [top_out])
          exact hK
        · (refine top_in ?_; simp -implicitDefEqProofs only [go_sem, -List.reduceReplicate, ↓L_gdZ_tt, ↓L_gdZ_tf, ↓L_gdZ_ft, ↓L_gdZ_ff, ↓T_and, ↓T_imp, ↓T_all, Nat.reduceBEq, Nat.reduceAdd, Nat.reduceSub, Nat.reduceMul, Nat.reduceLT, Nat.reduceLeDiff, Nat.reduceEqDiff, Int.reduceLT, Int.reduceLE, Int.reduceAdd, Int.reduceSub, Int.reduceMul, Int.reduceNeg, Int.reduceToNat, Int.reduceEq, Int.reduceNe, reduceIte, reduceCtorEq, BitVec.reduceOfInt, BitVec.reduceToNat]; try simp only [top_out])
          rw [hpll]
          have hwl := seenV_len hv
          have hwn' : ((ws ++ [a]).map (·.2.2.2.2)).Nodup := by
            rw [List.map_append, List.nodup_append]
            refine ⟨hwn, by simp, fun x hx y hy e => ?_⟩
            simp only [List.map_cons, List.map_nil, List.mem_singleton] at hy
            subst e hy
            exact hns hx
          have hws' : ∀ b, b ∈ ws ++ [a] → b ∈ fs := fun b hb' => by
            rcases List.mem_append.1 hb' with h | h
            · exact hws b h
            · rw [List.mem_singleton.1 h]; exact ha
          have hle := visits_le hwn' hws'
          rw [List.length_append, List.length_singleton] at hle
          refine covF_gc hM (undK vs.length (vs.length + 5) (some (vs.length + 3))) (undF nx M.length (vs.length + 1) cap') (undL m c (M.length + 2) (ws.map (·.2.2.2.2) ++ [a.2.2.2.2]) (vs ++ [(a.1, a.2.1, a.2.2.2.1, z, tz)]) z' ty2) (undK_dupl (by omega) (fun x e => by cases e; omega)) ?_ (undL_lt hn2 hz') ?_ ?_ (fun ts' h => ⟨n - 1, by omega, ws ++ [a], vs ++ [(a.1, a.2.1, a.2.2.2.1, z, tz)], z', cap', ty2, by simp; omega, seenV_snoc hv a z tz, hwn', hws', hz', by simpa using hc', by rw [List.map_append]; rfl, by simpa using h⟩)
          · refine und_blks (y := .sl (M.length + (vs.length + 3)) 0 a.2.2.2.1.length (a.2.2.2.1.length + z.length)) hn2 rfl (fun i hi => ?_) ?_ (fun ρ => ?_) hz' ?_
            · rw [show 2 + i = i + 2 by omega, List.getElem?_cons_succ, List.getElem?_cons_succ, List.getElem?_append_left (by omega), ← hpl, List.getElem?_map]
            · rw [List.getElem?_cons_succ, List.getElem?_cons_succ, List.getElem?_append_right (by omega), hpll, show vs.length + 3 - vs.length = 3 by omega]
              simp
            · simp only [SV.rn, tau_at, undK_last, Option.bind_some, Option.map_some]
            · refine keep8 ?_
              rw [List.getElem?_cons_succ, List.getElem?_cons_succ, List.getElem?_append_right (by omega), hpll, show vs.length + 1 - vs.length = 1 by omega]
              rfl
          · unfold undF
            have k0 : (undK vs.length (vs.length + 5) (some (vs.length + 3)))[0]? = some (some 0) := rfl
            have k1 : (undK vs.length (vs.length + 5) (some (vs.length + 3)))[1]? = some (some (vs.length + 5)) := rfl
            simp only [Int.natCast_add, cast_lit, Nat.add_assoc, rnSl_n, frRn_nil, frRn_s, frRn_n, frLt_nil, frLt_s, frLt_n, rn_i, rn_u8, rn_u32, rn_u64, rn_b, rn_str, rn_sn, rn_pn, rn_agg, rn_tup, rnL_nil, rnL_cons, rn_bS, rn_nil, rn_sl_at, rn_sl_at0, rn_p_at, rn_p_at0, rnSl_s, rnP_s, lt_i, lt_u8, lt_u32, lt_u64, lt_b, lt_sl, lt_p, lt_agg, lt_tup, ltL_nil', ltL_cons, bS_lt, List.getElem?_cons_succ, List.getElem?_cons_zero, Option.join_some, Nat.add_zero, Nat.zero_add, implies_true, and_self, and_true, true_and, Bool.and_true, Bool.true_and, Bool.and_self, List.length_cons, List.length_nil, List.length_append, decide_eq_true_eq, Bool.and_eq_true, rn_p hn1, k0, k1]
          · unfold undF
            have e : (undL m c (M.length + 2) (ws.map (·.2.2.2.2) ++ [a.2.2.2.2]) (vs ++ [(a.1, a.2.1, a.2.2.2.1, z, tz)]) z' ty2).length = vs.length + 3 := by simp [undL]
            rw [e]
            simp only [Int.natCast_add, cast_lit, Nat.add_assoc, rnSl_n, frRn_nil, frRn_s, frRn_n, frLt_nil, frLt_s, frLt_n, rn_i, rn_u8, rn_u32, rn_u64, rn_b, rn_str, rn_sn, rn_pn, rn_agg, rn_tup, rnL_nil, rnL_cons, rn_bS, rn_nil, rn_sl_at, rn_sl_at0, rn_p_at, rn_p_at0, rnSl_s, rnP_s, lt_i, lt_u8, lt_u32, lt_u64, lt_b, lt_sl, lt_p, lt_agg, lt_tup, ltL_nil', ltL_cons, bS_lt, List.getElem?_cons_succ, List.getElem?_cons_zero, Option.join_some, Nat.add_zero, Nat.zero_add, implies_true, and_self, and_true, true_and, Bool.and_true, Bool.true_and, Bool.and_self, List.length_cons, List.length_nil, List.length_append, decide_eq_true_eq, Bool.and_eq_true]; omega
end Go.Proofs.Ytccnffjjahdneaa.Eng
