/- A law's list of bytes: nil, or there. -/
import Derived.Test.YtccnffjjahdneaaUh
import Derived.Test.YtccnffjjahdneaaEngO
namespace Go.Proofs.Ytccnffjjahdneaa.Eng
open Go Go.RowKit Go.ChangeShapes Go.WideShapes
set_option linter.unusedSimpArgs false
set_option linter.unusedVariables false
set_option linter.unusedSimpArgs false
set_option linter.unusedVariables false

/-- a slice handed in: nil, or the bytes lie there and its address is not nil -/
def ArgAt (M : List Blk) (x : SV) (l : List (BitVec 8)) : Prop :=
  l.length ≤ 140737488351232 ∧ ((x = .sn ∧ l = []) ∨ ∃ n cap, x = .sl n 0 l.length cap ∧ BAt M n 0 l ∧ liveN M n = true ∧ l.length ≤ cap)

variable {H : Type} {enc : TypeId × Value → H} {P : Program} {W : World} {base : Nat}
theorem given_here {vs : List Value} {ρ : Ren} {M : List Blk} {svs : List SV} (h : Given P W vs ρ M svs) {v : Value} {x : SV} (g o : Nat)
    (hx : den (fun k => if k = M.length then some (g, o) else ρ k) x = v) (hl : x.lt (M.length + 1) = true) : Given P W (vs ++ [v]) (fun k => if k = M.length then some (g, o) else ρ k) (M ++ [.here]) (svs ++ [x]) := by
  have hext : Ext ρ (fun k => if k = M.length then some (g, o) else ρ k) M.length := fun k hk => if_neg (by omega)
  refine ⟨by rw [denL_append, denL_congr hext svs h.lt, h.den]; simp [denL, hx], by rw [ltL_append, ltL_mono (by simp) svs h.lt]; simpa [ltL] using hl, ?_⟩
  intro n B hB
  rcases Nat.lt_or_ge n M.length with hn | hn
  · rw [List.getElem?_append_left hn] at hB
    obtain ⟨h1, h2, h3⟩ := h.ro n B hB
    refine ⟨h1, Blk.lt_mono h2 (by simp), ?_⟩
    have h4 := h3.ren hext hn h2
    cases B with
    | row cs ty => cases h1
    | ro cs => exact h4
    | obj o => cases h1
    | here => exact h4
    | dead => trivial
  · rw [List.getElem?_append_right hn] at hB
    by_cases he : n = M.length
    · subst he
      simp at hB
      subst hB
      exact ⟨rfl, rfl, g, o, by simp⟩
    · rw [List.getElem?_eq_none (by simp; omega)] at hB; cases hB

theorem given_arg {vs : List Value} {ρ : Ren} {M : List Blk} {svs : List SV} (h : Given P W vs ρ M svs) {t e : TypeId} {v : Value} {d : DataW H} {ps : List MemPlace} (ht : P.underlying t = some (.slice e)) (he : P.underlying e = some (.int .u8)) (hc : P.cellsOf e = 1)
    (hby : P.bytesOf e = 1) (hval : Value.okWide P W .any base t v) (hd : DataW.Trod enc P W 0 (fun _ => true) true t v d ps) (hsz : ∀ n ∈ d.weights P t, n ≤ reachBytes) :
    ∃ (ρ' : Ren) (l : List (BitVec 8)) (x : SV) (L : List Blk), Given P W (vs ++ [v]) ρ' (M ++ L) (svs ++ [x]) ∧ ArgAt (M ++ L) x l := by
  obtain ⟨a0, len, cap, rfl⟩ := okWide_slice ht hval
  obtain ⟨fuel, hf⟩ := hd
  rcases DataW.trod_slice ht hf with ⟨h0, _⟩ | ⟨a, len', cap', elems, rest, n, _, h1, hx, hb, hl, hm, hlen, hel, hsp, _⟩
  · simp [Value.cells] at h0
    obtain ⟨rfl, rfl, rfl⟩ := h0
    exact ⟨ρ, [], .sn, [], by rw [List.append_nil]; exact given_val h (fun ρ => by simp [den]) rfl, by simp, .inl ⟨rfl, rfl⟩⟩
  · simp [Value.cells] at h1
    obtain ⟨rfl, rfl, rfl⟩ := h1
    have hcap : cap ≤ 140737488351232 := by
      have hr := (hsp rfl).1
      simp only [Prod.mk.injEq] at hx
      have := hsz ((elems.length + rest.length) * P.bytesOf e) (by rw [hx.1]; simp [DataW.weights, ht])
      rw [hby, hr, hlen] at this
      have hr : reachBytes = 140737488351232 := rfl
      omega
    obtain ⟨l, hll, hcl⟩ := bytes_at (n := 0) he hc len hel hlen
    have hok : Cell.ok P W .any base t (.slice (some a) len cap) := by
      simpa [Value.okWide, ht, Cell.okWide] using hval
    have hhas : W.has P .any base a e cap := by
      have := hok
      simp only [Cell.ok, ht] at this
      exact this.2.2
    obtain ⟨_, hspot, row, cells, hshape, _⟩ := hhas
    obtain ⟨g, o, s⟩ := a
    simp only at hspot
    subst hspot
    have hg : g < W.heap.size := by
      unfold World.shape? at hshape
      cases hh : W.heap[g]? with
      | none => simp [hh] at hshape
      | some ob => exact heap_some_lt hh
    by_cases hl0 : l = []
    · subst hl0
      simp at hll
      subst hll
      exact ⟨_, [], .sl M.length 0 0 cap, [.here], given_here h g o (by simp [den, adr]) (by simp [SV.lt]), by simp, .inr ⟨_, _, rfl, ⟨by simp, by simp, by simp [cellsAt, bS]⟩, by simp [liveN], by simp⟩⟩
    have hG := given_block h (v := .slice (some ⟨g, o, none⟩) len cap) (x := .sl M.length 0 l.length cap) (some (g, o)) (bS_one l) (bS_lt 0 l) (.inr ⟨g, o, rfl, hg, fun j v hv => ?_⟩) ?_ (by simp [SV.lt])
    refine ⟨_, l, .sl M.length 0 l.length cap, [.ro (bS l)], hG, by omega, .inr ⟨_, _, rfl, BAt.ro (z := []) (by rw [List.append_nil, get_app0]; rfl), ?_, by omega⟩⟩
    · have := List.length_pos_iff.2 hl0
      simp [liveN, bS_length]; omega
    · unfold bS at hv
      rw [List.getElem?_map] at hv
      cases hj : l[j]? with
      | none => rw [hj] at hv; cases hv
      | some x =>
        rw [hj] at hv
        simp only [Option.map_some, Option.some.injEq] at hv
        subst hv
        have hjl : j < len := by have := (List.getElem?_eq_some_iff.1 hj).1; omega
        have := hcl j hjl
        rw [add_plain, List.getD_eq_getElem?_getD, hj] at this
        rw [this]
        simp [den]
    · simp [den, adr, hll]

end Go.Proofs.Ytccnffjjahdneaa.Eng
