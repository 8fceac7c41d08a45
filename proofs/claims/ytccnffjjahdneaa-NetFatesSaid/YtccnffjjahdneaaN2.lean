/- Flights sorted by their numbers. -/
import Derived.Test.YtccnffjjahdneaaN1
import Derived.Test.YtccnffjjahdneaaTab
import Derived.Test.YtccnffjjahdneaaEngM
namespace Go.Proofs.Ytccnffjjahdneaa.Eng
open Go Go.RowKit Go.Sort Go.Shelf
set_option linter.unusedSimpArgs false
set_option linter.unusedVariables false
set_option linter.unusedSimpArgs false
set_option linter.unusedVariables false

theorem cmp_ok (x y : Key) (u v u' v' : Value) (hu : u.oneCell' = true) (hv : v.oneCell' = true) (hu' : u'.oneCell' = true) (hv' : v'.oneCell' = true) :
    callVC Try.prog 37 [.agg [.i .i64 (x.val : Int), .raw u, .raw v], .agg [.i .i64 (y.val : Int), .raw u', .raw v']] [] (fun r _ => r = .i .i64 (cfK x y)) := by
  have r1 : SV.one (.raw u) = true := hu
  have r2 : SV.one (.raw v) = true := hv
  have r3 : SV.one (.raw u') = true := hu'
  have r4 : SV.one (.raw v') = true := hv'
  have hw : IntKind.i64.wrap ((x.val : Int) - (y.val : Int)) = cfK x y := by
    have := x.isLt
    have := y.isLt
    unfold cfK
    simp only [IntKind.wrap, IntKind.bits, IntKind.signed]
    simp
    omega
  refine fn_rule tabOK Try.func37 rfl Try.call37 (by kernel_rfl) (fun hM => ?_)
  (refine top_in ?_; simp -implicitDefEqProofs only [Try.ntmps37, Try.results37, go_sem, -List.reduceReplicate, ↓L_gdZ_tt, ↓L_gdZ_tf, ↓L_gdZ_ft, ↓L_gdZ_ff, ↓T_and, ↓T_imp, ↓T_all, Nat.reduceBEq, Nat.reduceAdd, Nat.reduceSub, Nat.reduceMul, Nat.reduceLT, Nat.reduceLeDiff, Nat.reduceEqDiff, Int.reduceLT, Int.reduceLE, Int.reduceAdd, Int.reduceSub, Int.reduceMul, Int.reduceNeg, Int.reduceToNat, Int.reduceEq, Int.reduceNe, reduceIte, reduceCtorEq, BitVec.reduceOfInt, BitVec.reduceToNat, r1, r2, r3, r4, hw]; try simp only [top_out])
  exact dropC_append hM rfl rfl

def sortK (ks : List Key) : List Key := ks.mergeSort fun x y => !ltOf cfK y x

theorem sortK_len (ks : List Key) : (sortK ks).length = ks.length := List.length_mergeSort _

/-- the cells of a row, laid by the sort -/
theorem put_heap {w : World} {g : Nat} {F T0 : List Value} {ty : TypeId} {fr : Nat × Nat} (F' : List Value) (hl : F'.length = F.length) (h : w.heap[g]? = some (.cells (F ++ T0).toArray ty fr)) :
    (putRow id w g 0 F'.toArray).heap[g]? = some (.cells (F' ++ T0).toArray ty fr) := by
  unfold putRow mapBlock
  simp only [Array.getElem?_modify, if_true, h, Option.map_some, onCells]
  congr 2
  unfold putCells
  apply Array.ext'
  simp only [Array.toList_mapIdx]
  apply List.ext_getElem?
  intro i
  simp only [List.getElem?_mapIdx, List.size_toArray, Nat.zero_le, true_and, Nat.zero_add, Nat.sub_zero]
  by_cases hi : i < F'.length
  · rw [List.getElem?_append_left (by omega), List.getElem?_append_left hi, List.getElem?_eq_getElem (by omega), List.getElem?_eq_getElem hi]
    simp [hi]
  · have hi' : ¬ i < F.length := by omega
    rw [List.getElem?_append_right (by omega), List.getElem?_append_right (by omega), hl]
    simp [hi']

theorem sort_ok (a b : Key → SV) (n : Nat) (ks : List Key) (tail : List SV) (cap : Nat) (ty : TypeId) {M : List Blk} {K : SV → List Blk → Prop} (hB : M[n]? = some (.row (fcells a b ks ++ tail) ty))
    (hlen : ks.length < 4611686018427387904) (ha : ∀ x, (a x).one = true) (hb : ∀ x, (b x).one = true) (hla : ∀ x, (a x).lt M.length = true) (hlb : ∀ x, (b x).lt M.length = true)
    (hK : K (.tup []) (M.set n (.row (fcells a b (sortK ks) ++ tail) ty))) :
    callVC Try.prog 36 [.sl n 0 ks.length cap, .fn (.func 37) [] []] M K := by
  refine ⟨sortL.f6.enters rfl, fun G ρ w hs hlt => ?_⟩
  have hn : n < M.length := (List.getElem?_eq_some_iff.1 hB).1
  by_cases h0 : ks = []
  · subst h0
    have hc := AnyF.slices_SortFunc_none (P := Try.prog) (ρ := sortL_ren) sortL (adr ρ n 0) cap (den ρ (.fn (.func 37) [] [])) w
    refine hc.mono ?_
    rintro e w' ⟨rfl, rfl⟩
    refine ⟨ρ, .tup [], M, Ext.refl _ _, Nat.le_refl _, hs, rfl, by simp [den, denL], ?_⟩
    have e : M.set n (.row (fcells a b (sortK []) ++ tail) ty) = M := by
      have : sortK [] = [] := by simp [sortK]
      rw [this]
      apply List.ext_getElem?
      intro j
      by_cases hj : n = j
      · subst hj; rw [List.getElem?_set_self hn, hB]
      · rw [List.getElem?_set_ne hj]
    rw [e] at hK
    exact hK
  · have hpos : 0 < ks.length := List.length_pos_iff.2 h0
    have hone : ∀ l : List Key, (fcells a b l).all SV.one = true := by
      intro l
      simp only [fcells, List.all_flatten, List.all_map, List.all_eq_true, Function.comp]
      intro x _ y hy
      simp only [fcell, List.mem_cons, List.not_mem_nil, or_false] at hy
      rcases hy with rfl | rfl | rfl
      · rfl
      · exact ha x
      · exact hb x
    have hltf : ∀ l : List Key, ltL M.length (fcells a b l) = true := by
      intro l
      rw [ltL_eq]
      simp only [fcells, List.all_flatten, List.all_map, List.all_eq_true, Function.comp]
      intro x _ y hy
      simp only [fcell, List.mem_cons, List.not_mem_nil, or_false] at hy
      rcases hy with rfl | rfl | rfl
      · rfl
      · exact hla x
      · exact hlb x
    have hrow := hs.blk n _ hB
    have hrl : ltL M.length (fcells a b ks ++ tail) = true := hs.lt n _ hB
    have htone : tail.all SV.one = true := by
      have := hrow.1
      rw [List.all_append, Bool.and_eq_true] at this
      exact this.2
    have htl : ltL M.length tail = true := by
      rw [ltL_append, Bool.and_eq_true] at hrl
      exact hrl.2
    have hne : fcells a b ks ++ tail ≠ [] := by
      intro e
      have := congrArg List.length e
      rw [List.length_append, fcells_length] at this
      simp at this
      omega
    obtain ⟨g, hg, hh, hs'⟩ := hs.setRow hB hne (cs' := fcells a b (sortK ks) ++ tail) (by rw [List.all_append, hone, htone]; rfl) (by rw [ltL_append, hltf, htl]; rfl)
    have hgl : g < w.heap.size := heap_some_lt hh
    -- the cells that the sort sees
    let enc : Key → List Value := fun x => [.int .i64 (x.val : Int), den ρ (a x), den ρ (b x)]
    have hk : ∀ x, (enc x).length = 3 := fun _ => rfl
    have he1 : ∀ x, ∀ v ∈ enc x, v.oneCell' = true := by
      intro x v hv
      simp only [enc, List.mem_cons, List.not_mem_nil, or_false] at hv
      rcases hv with rfl | rfl | rfl
      · rfl
      · exact one_den (ha x)
      · exact one_den (hb x)
    have hfl : ∀ l : List Key, denL ρ (fcells a b l ++ tail) = (l.map enc).flatten ++ denL ρ tail := fun l => by rw [denL_append, denL_fcells]
    have hfk : ∀ l : List Key, flatK enc 3 l.toArray = (l.map enc).flatten.toArray := flatK_eq enc hk
    have hflen : ∀ l : List Key, ((l.map enc).flatten).length = l.length * 3 := by
      intro l
      have := congrArg Array.size (hfk l)
      rw [size_flatK] at this
      simpa using this.symm
    have hH : HoldsK enc 3 w g 0 ks.toArray := by
      unfold HoldsK Holds
      rw [hfk]
      intro j hj
      have hj' : j < ((ks.map enc).flatten).length := by simpa using hj
      rw [hfl] at hh
      constructor
      · rw [Nat.zero_add, cell_of_row w g _ _ _ _ hh]
        simp only [List.getElem?_toArray, List.getElem?_append_left hj', List.getElem?_eq_getElem hj', id]
        congr 1
        rw [getElem!_pos _ j hj]
        simp
      · exact frozen_of_row w g _ _ ty hh
    have hcmp : CmpLays Try.prog 37 #[] enc 3 cfK g 0 ks.toArray.size w := by
      intro m os dk _ x y
      have h := cmp_ok x y (den ρ (a x)) (den ρ (b x)) (den ρ (a y)) (den ρ (b y)) (one_den (ha x)) (one_den (hb x)) (one_den (ha y)) (one_den (hb y))
      have h2 := calls_closed h (by simp [ltL, SV.lt]) rfl ρ (sortWorldK enc 3 w g 0 m dk os)
      simpa [denL, den, enc] using h2
    have hc := AnyQ.slices_SortFunc_total (P := Try.prog) (ρ := sortL_ren) sortL 3 Try.isAgg32 Try.sizeOf32 enc hk he1 cfK swoK 37 #[] g 0 cap ks.toArray w
      ((cmp_ok ⟨0, by omega⟩ ⟨0, by omega⟩ (.bool true) (.bool true) (.bool true) (.bool true) rfl rfl rfl rfl).1) hcmp hH hgl (by simpa using hlen) totK
    have harg : (denL ρ [.sl n 0 ks.length cap, .fn (.func 37) [] []]).toArray = #[.slice (some ⟨g, 0, none⟩) ks.toArray.size cap, .func (.func 37) #[] #[]] := by
      simp [denL, den, adr, hg]
    rw [harg]
    refine hc.mono ?_
    rintro e w' ⟨rfl, m, os, rfl⟩
    refine ⟨ρ, .tup [], _, Ext.refl _ _, by simp, ?_, rfl, by simp [den, denL], hK⟩
    have hsort : (ks.toArray.toList.mergeSort fun x y => !(ltOf cfK) y x).toArray = (sortK ks).toArray := rfl
    rw [hsort]
    refine hs'.agree ?_ ?_ ?_ ?_ ?_ ?_
    · rfl
    · rfl
    · rfl
    · show w.drawn ≤ w.drawn + m; omega
    · have := size_sortWorldK_c enc 3 w g 0 m (sortK ks).toArray os
      simpa using this
    · intro k hkk
      have hkk' : k < w.heap.size := by simpa using hkk
      unfold sortWorldK putRowK
      rw [hfk]
      have hsz : (putRow id (Sort.ahead w m) g 0 ((sortK ks).map enc).flatten.toArray).heap.size = w.heap.size := by simp [Sort.ahead]
      unfold grow
      simp only
      rw [Array.getElem?_append_left (by rw [hsz]; exact hkk')]
      by_cases hkg : k = g
      · subst hkg
        rw [hfl] at hh
        have h1 : (Sort.ahead w m).heap[k]? = some (Obj.cells ((ks.map enc).flatten ++ denL ρ tail).toArray ty (0, 0)) := hh
        rw [put_heap _ (by rw [hflen, hflen, sortK_len]) h1, setRow_heap w k _ _ ty (0, 0) hh, hfl]
      · rw [setRow_other w g k _ hkg]
        unfold putRow mapBlock
        simp only [Array.getElem?_modify, if_neg (fun e : g = k => hkg e.symm)]
        rfl

theorem sort_nil {M : List Blk} {K : SV → List Blk → Prop} (hK : K (.tup []) M) : callVC Try.prog 36 [.sn, .fn (.func 37) [] []] M K := by
  refine ⟨sortL.f6.enters rfl, fun G ρ w hs hlt => ?_⟩
  have hc := AnyF.slices_SortFunc_none (P := Try.prog) (ρ := sortL_ren) sortL none 0 (den ρ (.fn (.func 37) [] [])) w
  refine hc.mono ?_
  rintro e w' ⟨rfl, rfl⟩
  exact ⟨ρ, .tup [], M, Ext.refl _ _, Nat.le_refl _, hs, rfl, by simp [den, denL], hK⟩

end Go.Proofs.Ytccnffjjahdneaa.Eng
