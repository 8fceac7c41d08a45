/- A pair of nets: a packet sent. -/
import Derived.Test.YtccnffjjahdneaaO7
namespace Go.Proofs.Ytccnffjjahdneaa.Eng
open Go Go.RowKit
set_option linter.unusedSimpArgs false
set_option linter.unusedVariables false
set_option linter.unusedSimpArgs false
set_option linter.unusedVariables false

def sndV (n : Nat) (g : Int) : Int := if n < 1024 then g + 1 else 0
def sndG (n : Nat) (g : Int) : Int := if n < 1024 then g + 1 else g
def sndL (fl : List Flt) (g to : Int) (l : List (BitVec 8)) : List Flt := if fl.length < 1024 then fl ++ [(g + 1, to, l)] else fl
theorem vwE_len (fs : List Ent) : (vwE fs).length = fs.length := by simp [vwE]
theorem vwR_len (rs : List Rfl) : (vwR rs).length = rs.length := by simp [vwR]
theorem sndL_len {fl : List Flt} {g to : Int} {l : List (BitVec 8)} (h : fl.length ≤ 1024) : (sndL fl g to l).length ≤ 1024 := by
  unfold sndL
  split
  · simp; omega
  · exact h
theorem sndG_le (n : Nat) (g : Int) : g ≤ sndG n g ∧ sndG n g ≤ g + 1 := by unfold sndG; split <;> omega
theorem send_all (nx m c : Nat) (g to : Int) (x : SV) (l : List (BitVec 8)) (fs : List Ent) (M : List Blk) (F : Nat → Prop) (K : SV → List Blk → Prop) (h : NetSt M F nx m g c fs) (hg1 : g < 4611686018427387900) (hx : SrcR M nx x l)
    (hK : ∀ M' F' c' fs', NetSt M' F' nx m (sndG fs.length g) c' fs' → vwE fs' = sndL (vwE fs) g to l → (∀ n, F' n → F n ∨ M.length ≤ n) → Ag F M M' → K (.i .i64 (sndV fs.length g)) M') :
    callVC Try.prog 11 [.p nx 0, .i .i64 to, x] M K := by
  by_cases hf : fs.length < 1024
  · refine send_st nx m c g to x l fs M F K h hf hg1 hx (fun M' F' x' h' hF' hA => ?_)
    have := hK M' F' (c + 1) _ (by unfold sndG; rw [if_pos hf]; exact h') (by unfold sndL; rw [if_pos (by rw [vwE_len]; exact hf)]; simp [vwE]) hF' hA
    unfold sndV at this
    rwa [if_pos hf] at this
  · refine send_full nx m g to x _ c 63 M K h.row h.map (by simp; omega) ?_
    have := hK M F c fs (by unfold sndG; rw [if_neg hf]; exact h) (by unfold sndL; rw [if_neg (by rw [vwE_len]; exact hf)]) (fun n hn => .inl hn) Ag.refl
    unfold sndV at this
    rwa [if_neg hf] at this
theorem rsend_all (r : Nat) (to last : Int) (x : SV) (l : List (BitVec 8)) (rs : List Rfl) (M : List Blk) (F : Nat → Prop) (K : SV → List Blk → Prop) (h : RefSt M F r last rs) (hl0 : 0 ≤ last) (hl1 : last < 4611686018427387900) (hx : Byt M x l) (hxr : dnS x ≠ some r)
    (hK : ∀ M' F' rs', RefSt M' F' r (sndG rs.length last) rs' → vwR rs' = sndL (vwR rs) last to l → (∀ n, F' n → F n ∨ M.length ≤ n) → Ag F M M' → K (.i .i64 (sndV rs.length last)) M') :
    callVC Try.prog 38 [.p r 0, .i .i64 to, x] M K := by
  refine rsend_ok r to last x l rs M F K h hl0 hl1 hx hxr (fun hf => ?_) (fun hf M' F' x' h' hF' hA => ?_)
  · have hf' : ¬ rs.length < 1024 := by omega
    have := hK M F rs (by unfold sndG; rw [if_neg hf']; exact h) (by unfold sndL; rw [if_neg (by rw [vwR_len]; exact hf')]) (fun n hn => .inl hn) Ag.refl
    unfold sndV at this
    rwa [if_neg hf'] at this
  · have := hK M' F' _ (by unfold sndG; rw [if_pos hf]; exact h') (by unfold sndL; rw [if_pos (by rw [vwR_len]; exact hf)]; simp [vwR]) hF' hA
    unfold sndV at this
    rwa [if_pos hf] at this
set_option maxHeartbeats 1000000 in
theorem same_byt (M : List Blk) (x y : SV) (a b : List (BitVec 8)) (K : SV → List Blk → Prop) (ha : Byt M x a) (hb : Byt M y b) (hK : K (.b (a == b)) M) :
    callVC Try.prog 16 [x, y] M K := by
  have la : ∀ {M' : List Blk} {e a' b' : Nat} {K : SV → Prop}, lenB (.slice e a' b') M' x K = K (.i .i64 a.length) := ha.lenB
  have lb : ∀ {M' : List Blk} {e a' b' : Nat} {K : SV → Prop}, lenB (.slice e a' b') M' y K = K (.i .i64 b.length) := hb.lenB
  have ha0 := ha.1
  have hb0 := hb.1
  refine fn_rule tabOK Try.func16 rfl Try.call16 (by kernel_rfl) (fun hM => ?_)
  (refine top_in ?_; simp -implicitDefEqProofs only [Try.ntmps16, Try.results16, go_sem, -List.reduceReplicate, ↓L_gdZ_tt, ↓L_gdZ_tf, ↓L_gdZ_ft, ↓L_gdZ_ff, ↓T_and, ↓T_imp, ↓T_all, Nat.reduceBEq, Nat.reduceAdd, Nat.reduceSub, Nat.reduceMul, Nat.reduceLT, Nat.reduceLeDiff, Nat.reduceEqDiff, Int.reduceLT, Int.reduceLE, Int.reduceAdd, Int.reduceSub, Int.reduceMul, Int.reduceNeg, Int.reduceToNat, Int.reduceEq, Int.reduceNe, reduceIte, reduceCtorEq, BitVec.reduceOfInt, BitVec.reduceToNat, la, lb]; try simp only [top_out])
  refine ⟨fun h => ?_, fun h => ?_⟩
  · refine dropC_self hM rfl ?_
    have : (a == b) = false := by
      rw [beq_eq_false_iff_ne]; intro e; subst e; simp at h
    rw [this] at hK; exact hK
  · have hl : a.length = b.length := by simp at h; omega
    clear h
    refine loop_code tabOK (by kernel_rfl) (fun m ts M' => ∃ k : Nat, k + m = a.length ∧ a.take k = b.take k ∧ M' = M ∧ frC [some (x), some (y), none, none, none, some (.i .i64 k), none, none, none, none, none, none, none, none, none, none, none, none, none, none, none, none, none, none, none, none] ts) a.length ?_ ?_
    · exact ⟨0, by omega, rfl, rfl, by simp [frC]⟩
    · rintro m ts _ ⟨k, hk, he, rfl, hf⟩
      obtain ⟨f, rfl⟩ := frC_open _ _ 0 hf
      clear hf
      (refine top_in ?_; simp -implicitDefEqProofs only [go_sem, -List.reduceReplicate, ↓L_gdZ_tt, ↓L_gdZ_tf, ↓L_gdZ_ft, ↓L_gdZ_ff, ↓T_and, ↓T_imp, ↓T_all, Nat.reduceBEq, Nat.reduceAdd, Nat.reduceSub, Nat.reduceMul, Nat.reduceLT, Nat.reduceLeDiff, Nat.reduceEqDiff, Int.reduceLT, Int.reduceLE, Int.reduceAdd, Int.reduceSub, Int.reduceMul, Int.reduceNeg, Int.reduceToNat, Int.reduceEq, Int.reduceNe, reduceIte, reduceCtorEq, BitVec.reduceOfInt, BitVec.reduceToNat, la, lb]; try simp only [top_out])
      refine ⟨fun h => ?_, fun h => ?_⟩
      · obtain ⟨_, ⟨rfl, rfl⟩ | ⟨a1, rfl, rfl⟩ | ⟨n1, cap1, rfl, ha⟩⟩ := ha
        · simp at h; omega
        · simp at h; omega
        obtain ⟨_, ⟨rfl, rfl⟩ | ⟨a2, rfl, rfl⟩ | ⟨n2, cap2, rfl, hb⟩⟩ := hb
        · rw [List.length_nil] at hl; omega
        · rw [List.length_nil] at hl; omega
        refine draw_rule tabOK (by kernel_rfl : _) (.p 0 (.p 1 (.p 2 (.p 3 (.p 4 (.p 5 (.p 6 (.p 7 (.p 8 .nil))))))))) (by kernel_rfl) (by kernel_rfl) ?_
        have g1 := ha.is8 (show k < a.length by omega)
        have g2 := ha.cell8 (show k < a.length by omega)
        have g3 := ha.le (show k + 1 ≤ a.length by omega)
        have g4 := hb.is8 (show k < b.length by omega)
        have g5 := hb.cell8 (show k < b.length by omega)
        have g6 := hb.le (show k + 1 ≤ b.length by omega)
        simp only [Nat.zero_add] at g1 g2 g3 g4 g5 g6
        (refine top_in ?_; simp -implicitDefEqProofs only [go_sem, -List.reduceReplicate, ↓L_gdZ_tt, ↓L_gdZ_tf, ↓L_gdZ_ft, ↓L_gdZ_ff, ↓T_and, ↓T_imp, ↓T_all, Nat.reduceBEq, Nat.reduceAdd, Nat.reduceSub, Nat.reduceMul, Nat.reduceLT, Nat.reduceLeDiff, Nat.reduceEqDiff, Int.reduceLT, Int.reduceLE, Int.reduceAdd, Int.reduceSub, Int.reduceMul, Int.reduceNeg, Int.reduceToNat, Int.reduceEq, Int.reduceNe, reduceIte, reduceCtorEq, BitVec.reduceOfInt, BitVec.reduceToNat, g1, g2, g3, g4, g5, g6]; try simp only [top_out])
        refine ⟨by omega, by omega, by omega, by omega, fun h1 => dropC_self hM rfl ?_, fun h1 => ⟨m - 1, by omega, k + 1, by omega, ?_, w64 (by omega) (by omega)⟩⟩
        · have : (a == b) = false := by
            rw [beq_eq_false_iff_ne]; intro e; subst e; simp at h1
          rw [this] at hK; exact hK
        · rw [take_snoc (by omega), take_snoc (by omega), he]
          rw [eq_of_beq (by simpa using h1 : (a.getD k 0#8 == b.getD k 0#8) = true)]
      · have hka : k = a.length := by omega
        subst hka
        have e := same_take hl he
        subst e
        refine dropC_self hM rfl ?_
        simpa using hK
theorem loop_from {P : Program} {bs : Nat} {c : Code} {ts : List SV} {M : List Blk} {Q : Exit → List SV → List Blk → Prop} (U : List Blk → Prop) (hU : U M) (h : U M → LoopVC P bs c ts M Q) : LoopVC P bs c ts M Q := h hU
theorem take_set_ge {l : List (BitVec 8)} {k j : Nat} (v : BitVec 8) (h : k ≤ j) : (l.set j v).take k = l.take k := by
  apply List.ext_getElem?
  intro i
  by_cases hi : i < k
  · rw [List.getElem?_take_of_lt hi, List.getElem?_take_of_lt hi, List.getElem?_set_ne (by omega)]
  · rw [List.getElem?_eq_none (by simp; omega), List.getElem?_eq_none (by simp; omega)]
theorem take_set_next {w b : List (BitVec 8)} {k : Nat} (h : w.take k = b.take k) (hk : k < b.length) (hw : k < w.length) : (w.set k (b.getD k 0#8)).take (k + 1) = b.take (k + 1) := by
  rw [take_snoc (by simpa using hw), take_snoc hk, take_set_ge _ (Nat.le_refl k), h]
  simp [List.getD_eq_getElem?_getD, List.getElem?_set_self hw]
/-- the pair's row and its room -/
def RoomX (M : List Blk) (p nx r d : Nat) (w : List (BitVec 8)) (long : Bool) (ty : TypeId) : Prop :=
  M[p]? = some (.row [.p nx 0, .p r 0, .sl d 0 w.length w.length, .b long] 49) ∧ M[d]? = some (.row (bS w) ty)
theorem RoomX.set {M : List Blk} {p nx r d : Nat} {w : List (BitVec 8)} {long : Bool} {ty : TypeId} (h : RoomX M p nx r d w long ty) (hdp : d ≠ p) (k : Nat) (v : BitVec 8) : RoomX (M.set d (.row (bS (w.set k v)) ty)) p nx r d (w.set k v) long ty :=
  ⟨by rw [List.getElem?_set_ne hdp, List.length_set]; exact h.1, List.getElem?_set_self (kw h.2)⟩
theorem RoomX.ag {S : Nat → Prop} {M M' : List Blk} {p nx r d : Nat} {w : List (BitVec 8)} {long : Bool} {ty : TypeId} (h : RoomX M p nx r d w long ty) (hA : Ag S M M') (h1 : ¬ S p) (h2 : ¬ S d) : RoomX M' p nx r d w long ty :=
  ⟨hA.get h.1 h1, hA.get h.2 h2⟩
set_option maxHeartbeats 4000000 in
set_option maxRecDepth 20000 in
theorem sends_fl (p nx m c r : Nat) (g to : Int) (x : SV) (b : List (BitVec 8)) (fs : List Ent) (rs : List Rfl) (y : SV) (z : List (BitVec 8)) (long : Bool) (M : List Blk) (F Fn Fr : Nat → Prop) (K : SV → List Blk → Prop) (h : PairS M F Fn Fr p nx m c r g fs rs y z long) (hg1 : g < 4611686018427387800) (hx : Byt M x b) (hxF : ∀ d, dnS x = some d → ¬ F d)
    (hKb : 65536 < b.length → K (.b true) M)
    (hK : ∀ M' F' Fn' Fr' c' fs' rs' y' z' long', PairS M' F' Fn' Fr' p nx m c' r (sndG fs.length g) fs' rs' y' z' long' → vwE fs' = sndL (vwE fs) g to b → (∀ n, F' n → F n ∨ M.length ≤ n) → Ag F M M' → K (.b true) M') :
    callVC Try.prog 30 [.p p 0, .i .i64 to, x] M K := by
  have hrow := h.row
  have hp := kw hrow
  have hlb : ∀ {M' : List Blk} {e a b' : Nat} {K : SV → Prop}, lenB (.slice e a b') M' x K = K (.i .i64 b.length) := hx.lenB
  have hly : ∀ {M' : List Blk} {e a b' : Nat} {K : SV → Prop}, lenB (.slice e a b') M' y K = K (.i .i64 z.length) := by
    intro M' e a b' K
    rcases h.room with ⟨rfl, rfl⟩ | ⟨d, ty, rfl, _⟩ <;> rfl
  have hyo : y.one = true := by
    rcases h.room with ⟨rfl, rfl⟩ | ⟨d, ty, rfl, _⟩ <;> rfl
  have hs4 : ∀ B, (M.set p B)[p]? = some B := fun B => List.getElem?_set_self hp
  have hw3 : b.length ≤ 65536 → IntKind.i64.wrap ((b.length : Int) + 3) = (b.length : Int) + 3 := fun h => w64 (by omega) (by omega)
  by_cases hbig : 65536 < b.length
  · refine fn_rule tabOK Try.func30 rfl Try.call30 (by kernel_rfl) (fun hM => ?_)
    (refine top_in ?_; simp -implicitDefEqProofs only [Try.ntmps30, Try.results30, go_sem, -List.reduceReplicate, ↓L_gdZ_tt, ↓L_gdZ_tf, ↓L_gdZ_ft, ↓L_gdZ_ff, ↓T_and, ↓T_imp, ↓T_all, Nat.reduceBEq, Nat.reduceAdd, Nat.reduceSub, Nat.reduceMul, Nat.reduceLT, Nat.reduceLeDiff, Nat.reduceEqDiff, Int.reduceLT, Int.reduceLE, Int.reduceAdd, Int.reduceSub, Int.reduceMul, Int.reduceNeg, Int.reduceToNat, Int.reduceEq, Int.reduceNe, reduceIte, reduceCtorEq, BitVec.reduceOfInt, BitVec.reduceToNat, hlb]; try simp only [top_out])
    exact ⟨fun _ => dropC_self hM rfl (hKb hbig), fun h => absurd h (by omega)⟩
  have hw := hw3 (by omega)
  have htn : ((b.length : Int) + 3).toNat = b.length + 3 := by omega
  have hs5 : ∀ B N, (M.set p B ++ N)[p]? = some B := fun B N => by rw [get_lt (by rw [List.length_set]; exact hp)]; exact hs4 B
  have hs6 : ∀ B B' N, (M.set p B ++ N).set p B' = M.set p B' ++ N := fun B B' N => by rw [set_lt (by rw [List.length_set]; exact hp), List.set_set]
  have hs7 : ∀ B B' N, ((M.set p B ++ N).set p B')[p]? = some B' := fun B B' N => by rw [hs6]; exact hs5 _ _
  refine fn_rule tabOK Try.func30 rfl Try.call30 (by kernel_rfl) (fun hM => ?_)
  (refine top_in ?_; simp -implicitDefEqProofs only [Try.ntmps30, Try.results30, go_sem, -List.reduceReplicate, ↓L_gdZ_tt, ↓L_gdZ_tf, ↓L_gdZ_ft, ↓L_gdZ_ff, ↓T_and, ↓T_imp, ↓T_all, Nat.reduceBEq, Nat.reduceAdd, Nat.reduceSub, Nat.reduceMul, Nat.reduceLT, Nat.reduceLeDiff, Nat.reduceEqDiff, Int.reduceLT, Int.reduceLE, Int.reduceAdd, Int.reduceSub, Int.reduceMul, Int.reduceNeg, Int.reduceToNat, Int.reduceEq, Int.reduceNe, reduceIte, reduceCtorEq, BitVec.reduceOfInt, BitVec.reduceToNat, hrow, hlb, hly, hyo, hs4, hw, hs5, hs6, htn]; try simp only [top_out])
  have u1 : ∀ long2, ∃ d w ty long3, RoomX (M.set p (Blk.row [SV.p nx 0, SV.p r 0, SV.sl M.length 0 (b.length + 3) (b.length + 3), SV.b long2] 49) ++ [Blk.row (bS (List.replicate (b.length + 3) 0#8)) 5]) p nx r d w long3 ty ∧ b.length + 3 ≤ w.length ∧ d ≠ p ∧ (F d ∨ M.length ≤ d) ∧ ¬ Fn d ∧ ¬ Fr d ∧ dnS x ≠ some d ∧
      Ag (fun n => n = p) M (M.set p (Blk.row [SV.p nx 0, SV.p r 0, SV.sl M.length 0 (b.length + 3) (b.length + 3), SV.b long2] 49) ++ [Blk.row (bS (List.replicate (b.length + 3) 0#8)) 5]) := by
    intro long2
    refine ⟨M.length, List.replicate (b.length + 3) 0#8, 5, long2, ⟨by rw [hs5, List.length_replicate], by simp [go_sem]⟩, by rw [List.length_replicate]; exact Nat.le_refl _, by omega, .inr (Nat.le_refl _), fun e => by have := h.net.inn _ e; omega, fun e => by have := h.ref.inn _ e; omega, fun e => ?_, Ag.trans (Ag.set rfl) (Ag.app (S := fun _ => False)) (fun _ _ e => e.elim)⟩
    obtain ⟨_, ⟨rfl, _⟩ | ⟨a, rfl, _⟩ | ⟨n, cap, rfl, hb⟩⟩ := hx
    · cases e
    · cases e
    · cases e; have := hb.lt; omega
  have u2 : ¬ (z.length : Int) < b.length + 3 → ∀ long2, ∃ d w ty long3, RoomX (M.set p (Blk.row [SV.p nx 0, SV.p r 0, y, SV.b long2] 49)) p nx r d w long3 ty ∧ b.length + 3 ≤ w.length ∧ d ≠ p ∧ (F d ∨ M.length ≤ d) ∧ ¬ Fn d ∧ ¬ Fr d ∧ dnS x ≠ some d ∧ Ag (fun n => n = p) M (M.set p (Blk.row [SV.p nx 0, SV.p r 0, y, SV.b long2] 49)) := by
    intro hsm long2
    rcases h.room with ⟨rfl, rfl⟩ | ⟨d, ty, rfl, h1, h2, h3⟩
    · simp at hsm; omega
    · exact ⟨d, z, ty, long2, ⟨by rw [hs4], by rw [List.getElem?_set_ne (Ne.symm h3)]; exact h1⟩, by omega, h3, .inl h2, fun e => (h.fn d e).2.2.2 rfl, fun e => (h.fr d e).2.2 rfl, fun e => hxF d e h2, Ag.set rfl⟩
  refine ⟨fun h => absurd h (by omega), fun _ => ⟨fun hlo => ⟨fun hsm => ⟨by omega, by omega, by omega, by omega, ?_⟩, fun hsm => ?_⟩, fun hlo => ⟨fun hsm => ⟨by omega, by omega, by omega, by omega, ?_⟩, fun hsm => ?_⟩⟩⟩
  all_goals
    refine loop_from (fun M2 => ∃ d w ty long2, RoomX M2 p nx r d w long2 ty ∧ b.length + 3 ≤ w.length ∧ d ≠ p ∧ (F d ∨ M.length ≤ d) ∧ ¬ Fn d ∧ ¬ Fr d ∧ dnS x ≠ some d ∧ Ag (fun n => n = p) M M2) (by first | exact u1 _ | exact u2 (by omega) _) ?_
    rintro ⟨d, w0, ty0, long0, hX0, hwl0, hdp, hdF, hdn, hdr, hdx, hA0⟩
    refine loop_code tabOK (by kernel_rfl) (fun n ts M' => ∃ (k : Nat) (w : List (BitVec 8)), k + n = b.length ∧ RoomX M' p nx r d w long0 ty0 ∧ b.length + 3 ≤ w.length ∧ w.take k = b.take k ∧ Ag (fun n => n = p ∨ n = d) M M' ∧ frC (some (.p p 0) :: some (.i .i64 to) :: some (x) :: none :: none :: none :: none :: some (.i .i64 k) :: none :: none :: none :: none :: none :: none :: none :: none :: none :: none :: none :: none :: none :: none :: none :: none :: none :: none :: none :: none :: none :: none :: none :: none :: none :: none :: none :: none :: none :: none :: none :: none :: none :: none :: none :: none :: none :: none :: none :: none :: none :: none :: none :: none :: none :: none :: none :: none :: none :: none :: none :: none :: none :: none :: none :: none :: none :: none :: none :: none :: none :: none :: none :: none :: none :: none :: none :: none :: none :: none :: none :: none :: none :: none :: none :: none :: none :: none :: none :: none :: none :: none :: none :: none :: none :: none :: none :: none :: none :: none :: none :: none :: none :: none :: none :: none :: none :: none :: none :: none :: none :: none :: none :: none :: none :: none :: none :: none :: none :: none :: none :: none :: none :: none :: none :: none :: none :: none :: none :: none :: none :: none :: none :: none :: none :: none :: none :: none :: none :: none :: none :: none :: none :: none :: none :: none :: none :: []) ts) b.length ?_ ?_
    · exact ⟨0, w0, by omega, hX0, hwl0, rfl, hA0.mono (fun _ e => .inl e), by simp [frC]⟩
    · rintro n ts M1 ⟨k, w, hk, hX, hwl, hwk, hA1, hf⟩
      have hXr := hX.1
      have hXd := hX.2
      obtain ⟨f, rfl⟩ := frC_open _ _ 0 hf
      clear hf
      (refine top_in ?_; simp -implicitDefEqProofs only [go_sem, -List.reduceReplicate, ↓L_gdZ_tt, ↓L_gdZ_tf, ↓L_gdZ_ft, ↓L_gdZ_ff, ↓T_and, ↓T_imp, ↓T_all, Nat.reduceBEq, Nat.reduceAdd, Nat.reduceSub, Nat.reduceMul, Nat.reduceLT, Nat.reduceLeDiff, Nat.reduceEqDiff, Int.reduceLT, Int.reduceLE, Int.reduceAdd, Int.reduceSub, Int.reduceMul, Int.reduceNeg, Int.reduceToNat, Int.reduceEq, Int.reduceNe, reduceIte, reduceCtorEq, BitVec.reduceOfInt, BitVec.reduceToNat, hlb]; try simp only [top_out])
      refine ⟨fun hlt => ?_, fun hlt => ?_⟩
      · obtain ⟨hx0, ⟨rfl, rfl⟩ | ⟨a, rfl, rfl⟩ | ⟨n1, cap, rfl, hb⟩⟩ := hx
        · simp at hlt; omega
        · simp at hlt; omega
        have hb1 : BAt M1 n1 0 b := hb.ag hA1 (fun e => by
          rcases e with e | e
          · exact hxF n1 rfl (e ▸ h.fp)
          · exact hdx (by rw [e]; rfl))
        have hkb : k < b.length := by omega
        have g1 := hb1.is8 hkb
        have g2 := hb1.cell8 hkb
        have g3 := hb1.le (show k + 1 ≤ b.length by omega)
        simp only [Nat.zero_add] at g1 g2 g3
        refine draw_rule tabOK (by kernel_rfl : _) (.p 0 (.p 1 (.p 2 (.p 3 (.p 4 (.p 5 (.p 6 (.p 7 (.p 8 (.p 9 (.e 10 [] .nil .no))))))))))) (by kernel_rfl) (by kernel_rfl) ?_
        (refine top_in ?_; simp -implicitDefEqProofs only [go_sem, -List.reduceReplicate, ↓L_gdZ_tt, ↓L_gdZ_tf, ↓L_gdZ_ft, ↓L_gdZ_ff, ↓T_and, ↓T_imp, ↓T_all, Nat.reduceBEq, Nat.reduceAdd, Nat.reduceSub, Nat.reduceMul, Nat.reduceLT, Nat.reduceLeDiff, Nat.reduceEqDiff, Int.reduceLT, Int.reduceLE, Int.reduceAdd, Int.reduceSub, Int.reduceMul, Int.reduceNeg, Int.reduceToNat, Int.reduceEq, Int.reduceNe, reduceIte, reduceCtorEq, BitVec.reduceOfInt, BitVec.reduceToNat, hXr, hXd, g1, g2, g3]; try simp only [top_out])
        exact ⟨by omega, by omega, by omega, by omega, by omega, by omega, n - 1, by omega, k + 1, _, by omega, hX.set hdp k _, by rw [List.length_set]; exact hwl, take_set_next hwk hkb (by omega), Ag.trans hA1 (S' := fun n => n = d) (Ag.set rfl) (fun _ _ e => .inr e), w64 (by omega) (by omega)⟩
      · have hkb : k = b.length := by omega
        subst hkb
        rw [List.take_length] at hwk
        clear hlt hk hXr hXd
        refine loop_code tabOK (by kernel_rfl) (fun n ts M' => ∃ (k : Nat) (w : List (BitVec 8)), k + n = 3 ∧ RoomX M' p nx r d w long0 ty0 ∧ b.length + 3 ≤ w.length ∧ w.take b.length = b ∧ (∀ j, j < k → w[b.length + j]? = some (BitVec.ofNat 8 (201 + j))) ∧ Ag (fun n => n = p ∨ n = d) M M' ∧ frC (some (.p p 0) :: some (.i .i64 to) :: some (x) :: none :: none :: none :: none :: none :: some (.i .i64 k) :: none :: none :: none :: none :: none :: none :: none :: none :: none :: none :: none :: none :: none :: none :: none :: none :: none :: none :: none :: none :: none :: none :: none :: none :: none :: none :: none :: none :: none :: none :: none :: none :: none :: none :: none :: none :: none :: none :: none :: none :: none :: none :: none :: none :: none :: none :: none :: none :: none :: none :: none :: none :: none :: none :: none :: none :: none :: none :: none :: none :: none :: none :: none :: none :: none :: none :: none :: none :: none :: none :: none :: none :: none :: none :: none :: none :: none :: none :: none :: none :: none :: none :: none :: none :: none :: none :: none :: none :: none :: none :: none :: none :: none :: none :: none :: none :: none :: none :: none :: none :: none :: none :: none :: none :: none :: none :: none :: none :: none :: none :: none :: none :: none :: none :: none :: none :: none :: none :: none :: none :: none :: none :: none :: none :: none :: none :: none :: none :: none :: none :: none :: none :: none :: none :: none :: none :: []) ts) 3 ?_ ?_
        · exact ⟨0, w, by omega, hX, hwl, hwk, fun j hj => absurd hj (by omega), hA1, by simp [frC]⟩
        clear hA1 hX hwl hwk w
        rintro n ts M2 ⟨k, w, hk, hX, hwl, hwb, hwm, hA2, hf⟩
        have hXr := hX.1
        have hXd := hX.2
        have hwk1 : IntKind.i64.wrap ((b.length : Int) + k) = (b.length : Int) + k := w64 (by omega) (by omega)
        have hwk2 : IntKind.i64.wrap (201 + (k : Int)) = 201 + (k : Int) := w64 (by omega) (by omega)
        have htk : ((b.length : Int) + k).toNat = b.length + k := by omega
        obtain ⟨f, rfl⟩ := frC_open _ _ 0 hf
        clear hf
        (refine top_in ?_; simp -implicitDefEqProofs only [go_sem, -List.reduceReplicate, ↓L_gdZ_tt, ↓L_gdZ_tf, ↓L_gdZ_ft, ↓L_gdZ_ff, ↓T_and, ↓T_imp, ↓T_all, Nat.reduceBEq, Nat.reduceAdd, Nat.reduceSub, Nat.reduceMul, Nat.reduceLT, Nat.reduceLeDiff, Nat.reduceEqDiff, Int.reduceLT, Int.reduceLE, Int.reduceAdd, Int.reduceSub, Int.reduceMul, Int.reduceNeg, Int.reduceToNat, Int.reduceEq, Int.reduceNe, reduceIte, reduceCtorEq, BitVec.reduceOfInt, BitVec.reduceToNat, hlb, hXr, hXd, hwk1, hwk2, htk]; try simp only [top_out])
        refine ⟨fun hlt => ?_, fun hlt => ?_⟩
        · have hv : BitVec.ofInt 8 (201 + (k : Int)) = BitVec.ofNat 8 (201 + k) := by
            rw [show (201 + (k : Int)) = ((201 + k : Nat) : Int) by omega, BitVec.ofInt_natCast]
          rw [hv]
          refine ⟨by omega, by omega, by omega, by omega, n - 1, by omega, k + 1, _, by omega, hX.set hdp _ _, by rw [List.length_set]; exact hwl, by rw [take_set_ge _ (by omega)]; exact hwb, fun j hj => ?_, Ag.trans hA2 (S' := fun n => n = d) (Ag.set rfl) (fun _ _ e => .inr e), w64 (by omega) (by omega)⟩
          by_cases hjk : j = k
          · subst hjk; exact List.getElem?_set_self (by omega)
          · rw [List.getElem?_set_ne (by omega)]; exact hwm j (by omega)
        · have hk3 : k = 3 := by omega
          subst hk3
          have hpn : ¬ Fn p := fun e => (h.fn p e).2.2.1 rfl
          have hpr : ¬ Fr p := fun e => (h.fr p e).2.1 rfl
          have hAnr : ∀ n, Fn n ∨ Fr n → ¬ (n = p ∨ n = d) := by
            rintro n e (e2 | e2) <;> subst e2
            · exact e.elim hpn hpr
            · exact e.elim hdn hdr
          have hN := h.net.ag hA2 (fun n e => hAnr n (.inl e))
          have hR := h.ref.ag hA2 (fun n e => hAnr n (.inr e))
          have hwsp : w = b ++ w.drop b.length := by conv => lhs; rw [← List.take_append_drop b.length w, hwb]
          have hwl2 : w.length = b.length + (w.drop b.length).length := by rw [List.length_drop]; omega
          have hXb : M2[d]? = some (.row (bS (b ++ w.drop b.length)) ty0) := by rw [← hwsp]; exact hXd
          have hsrc : SrcR M2 nx (.sl d 0 b.length w.length) b := ⟨by omega, .inr ⟨d, w.length, rfl, BAt.row hXb, by rw [hwl2]; exact There.row hXb, fun e => hdn (e ▸ h.net.fx)⟩⟩
          refine draw_rule tabOK (by kernel_rfl : _) (.p 0 (.p 1 (.p 2 (.p 3 (.p 4 (.p 5 (.p 6 (.p 7 (.p 8 (.p 9 (.p 10 (.p 11 (.e 12 [] (.p 13 .nil) .no))))))))))))) (by kernel_rfl) (by kernel_rfl) ?_
          (refine top_in ?_; simp -implicitDefEqProofs only [go_sem, -List.reduceReplicate, ↓L_gdZ_tt, ↓L_gdZ_tf, ↓L_gdZ_ft, ↓L_gdZ_ff, ↓T_and, ↓T_imp, ↓T_all, Nat.reduceBEq, Nat.reduceAdd, Nat.reduceSub, Nat.reduceMul, Nat.reduceLT, Nat.reduceLeDiff, Nat.reduceEqDiff, Int.reduceLT, Int.reduceLE, Int.reduceAdd, Int.reduceSub, Int.reduceMul, Int.reduceNeg, Int.reduceToNat, Int.reduceEq, Int.reduceNe, reduceIte, reduceCtorEq, BitVec.reduceOfInt, BitVec.reduceToNat, hlb, hXr, hXd]; try simp only [top_out])
          refine ⟨by omega, by omega, ?_⟩
          refine send_all nx m c g to _ b fs M2 Fn _ hN (by omega) hsrc (fun M3 Fn3 c3 fs3 hN3 hv3 hF3 hA3 => ?_)
          have hX3 := hX.ag hA3 hpn hdn
          have hXr3 := hX3.1
          have hXd3 := hX3.2
          (refine top_in ?_; simp -implicitDefEqProofs only [go_sem, -List.reduceReplicate, ↓L_gdZ_tt, ↓L_gdZ_tf, ↓L_gdZ_ft, ↓L_gdZ_ff, ↓T_and, ↓T_imp, ↓T_all, Nat.reduceBEq, Nat.reduceAdd, Nat.reduceSub, Nat.reduceMul, Nat.reduceLT, Nat.reduceLeDiff, Nat.reduceEqDiff, Int.reduceLT, Int.reduceLE, Int.reduceAdd, Int.reduceSub, Int.reduceMul, Int.reduceNeg, Int.reduceToNat, Int.reduceEq, Int.reduceNe, reduceIte, reduceCtorEq, BitVec.reduceOfInt, BitVec.reduceToNat, hlb, hXr3, hXd3]; try simp only [top_out])
          have hx3 : Byt M3 x b := (hx.ag hA2 (fun d' e e2 => by
            rcases e2 with e2 | e2
            · exact hxF d' e (e2 ▸ h.fp)
            · exact hdx (e2 ▸ e))).ag hA3 (fun d' e e2 => hxF d' e (h.fn d' e2).1)
          have hR3 := hR.ag hA3 (fun n e e2 => (h.fn n e2).2.1 e)
          refine rsend_all r to g x b rs M3 Fr _ hR3 h.net.g0 (by omega) hx3 (fun e => hxF r e (h.fr r h.ref.fr).1) (fun M4 Fr4 rs4 hR4 hv4 hF4 hA4 => ?_)
          have hX4 := hX3.ag hA4 hpr hdr
          have hXr4 := hX4.1
          have hXd4 := hX4.2
          (refine top_in ?_; simp -implicitDefEqProofs only [go_sem, -List.reduceReplicate, ↓L_gdZ_tt, ↓L_gdZ_tf, ↓L_gdZ_ft, ↓L_gdZ_ff, ↓T_and, ↓T_imp, ↓T_all, Nat.reduceBEq, Nat.reduceAdd, Nat.reduceSub, Nat.reduceMul, Nat.reduceLT, Nat.reduceLeDiff, Nat.reduceEqDiff, Int.reduceLT, Int.reduceLE, Int.reduceAdd, Int.reduceSub, Int.reduceMul, Int.reduceNeg, Int.reduceToNat, Int.reduceEq, Int.reduceNe, reduceIte, reduceCtorEq, BitVec.reduceOfInt, BitVec.reduceToNat, hlb, hXr4, hXd4]; try simp only [top_out])
          have hx4 : Byt M4 x b := hx3.ag hA4 (fun d' e e2 => hxF d' e (h.fr d' e2).1)
          have hXb4 : M4[d]? = some (.row (bS (b ++ w.drop b.length)) ty0) := by rw [← hwsp]; exact hXd4
          refine ⟨by omega, by omega, ?_⟩
          refine same_byt M4 _ _ b b _ ⟨by omega, .inr (.inr ⟨d, _, rfl, BAt.row hXb4⟩)⟩ hx4 ?_
          rw [beq_self_eq_true]
          (refine top_in ?_; simp -implicitDefEqProofs only [go_sem, -List.reduceReplicate, ↓L_gdZ_tt, ↓L_gdZ_tf, ↓L_gdZ_ft, ↓L_gdZ_ff, ↓T_and, ↓T_imp, ↓T_all, Nat.reduceBEq, Nat.reduceAdd, Nat.reduceSub, Nat.reduceMul, Nat.reduceLT, Nat.reduceLeDiff, Nat.reduceEqDiff, Int.reduceLT, Int.reduceLE, Int.reduceAdd, Int.reduceSub, Int.reduceMul, Int.reduceNeg, Int.reduceToNat, Int.reduceEq, Int.reduceNe, reduceIte, reduceCtorEq, BitVec.reduceOfInt, BitVec.reduceToNat]; try simp only [top_out])
          refine loop_code tabOK (by kernel_rfl) (fun n ts M' => ∃ (k : Nat), k + n = 3 ∧ M' = M4 ∧ frC (some (.p p 0) :: some (.i .i64 to) :: some (x) :: none :: none :: none :: none :: none :: none :: some (.i .i64 (sndV fs.length g)) :: some (.i .i64 (sndV rs.length g)) :: some (.b true) :: some (.i .i64 k) :: none :: none :: none :: none :: none :: none :: none :: none :: none :: none :: none :: none :: none :: none :: none :: none :: none :: none :: none :: none :: none :: none :: none :: none :: none :: none :: none :: none :: none :: none :: none :: none :: none :: none :: none :: none :: none :: none :: none :: none :: none :: none :: none :: none :: none :: none :: none :: none :: none :: none :: none :: none :: none :: none :: none :: none :: none :: none :: none :: none :: none :: none :: none :: none :: none :: none :: none :: none :: none :: none :: none :: none :: none :: none :: none :: none :: none :: none :: none :: none :: none :: none :: none :: none :: none :: none :: none :: none :: none :: none :: none :: none :: none :: none :: none :: none :: none :: none :: none :: none :: none :: none :: none :: none :: none :: none :: none :: none :: none :: none :: none :: none :: none :: none :: none :: none :: none :: none :: none :: none :: none :: none :: none :: none :: none :: none :: none :: none :: none :: none :: none :: none :: []) ts) 3 ?_ ?_
          · exact ⟨0, by omega, rfl, by simp [frC]⟩
          rintro n ts M4b ⟨k, hk, hMe, hf⟩
          obtain rfl : M4 = M4b := hMe.symm
          have hwk1 : IntKind.i64.wrap ((b.length : Int) + k) = (b.length : Int) + k := w64 (by omega) (by omega)
          have hwk2 : IntKind.i64.wrap (201 + (k : Int)) = 201 + (k : Int) := w64 (by omega) (by omega)
          have htk : ((b.length : Int) + k).toNat = b.length + k := by omega
          obtain ⟨f, rfl⟩ := frC_open _ _ 0 hf
          clear hf
          (refine top_in ?_; simp -implicitDefEqProofs only [go_sem, -List.reduceReplicate, ↓L_gdZ_tt, ↓L_gdZ_tf, ↓L_gdZ_ft, ↓L_gdZ_ff, ↓T_and, ↓T_imp, ↓T_all, Nat.reduceBEq, Nat.reduceAdd, Nat.reduceSub, Nat.reduceMul, Nat.reduceLT, Nat.reduceLeDiff, Nat.reduceEqDiff, Int.reduceLT, Int.reduceLE, Int.reduceAdd, Int.reduceSub, Int.reduceMul, Int.reduceNeg, Int.reduceToNat, Int.reduceEq, Int.reduceNe, reduceIte, reduceCtorEq, BitVec.reduceOfInt, BitVec.reduceToNat, hlb, hXr4, hXd4, hwk1, hwk2, htk]; try simp only [top_out])
          refine ⟨fun hlt => ?_, fun hlt => ?_⟩
          · have hv : BitVec.ofInt 8 (201 + (k : Int)) = BitVec.ofNat 8 (201 + k) := by
              rw [show (201 + (k : Int)) = ((201 + k : Nat) : Int) by omega, BitVec.ofInt_natCast]
            have hg : w.getD (b.length + k) 0#8 = BitVec.ofNat 8 (201 + k) := by rw [List.getD_eq_getElem?_getD, hwm k (by omega)]; rfl
            rw [hv, hg]
            exact ⟨by omega, by omega, by omega, by omega, n - 1, by omega, k + 1, by omega, beq_self_eq_true _, w64 (by omega) (by omega)⟩
          · clear hlt hk
            refine loop_code tabOK (by kernel_rfl) (fun n ts M' => ∃ (k : Nat) (w' : List (BitVec 8)), k + n = b.length ∧ RoomX M' p nx r d w' long0 ty0 ∧ w'.length = w.length ∧ Ag (fun n => n = d) M4 M' ∧ frC (some (.p p 0) :: some (.i .i64 to) :: some (x) :: none :: none :: none :: none :: none :: none :: some (.i .i64 (sndV fs.length g)) :: some (.i .i64 (sndV rs.length g)) :: some (.b true) :: none :: some (.i .i64 k) :: none :: none :: none :: none :: none :: none :: none :: none :: none :: none :: none :: none :: none :: none :: none :: none :: none :: none :: none :: none :: none :: none :: none :: none :: none :: none :: none :: none :: none :: none :: none :: none :: none :: none :: none :: none :: none :: none :: none :: none :: none :: none :: none :: none :: none :: none :: none :: none :: none :: none :: none :: none :: none :: none :: none :: none :: none :: none :: none :: none :: none :: none :: none :: none :: none :: none :: none :: none :: none :: none :: none :: none :: none :: none :: none :: none :: none :: none :: none :: none :: none :: none :: none :: none :: none :: none :: none :: none :: none :: none :: none :: none :: none :: none :: none :: none :: none :: none :: none :: none :: none :: none :: none :: none :: none :: none :: none :: none :: none :: none :: none :: none :: none :: none :: none :: none :: none :: none :: none :: none :: none :: none :: none :: none :: none :: none :: none :: none :: none :: none :: none :: []) ts) b.length ?_ ?_
            · exact ⟨0, w, by omega, hX4, rfl, Ag.refl, by simp [frC]⟩
            rintro n ts M5 ⟨k, w', hk, hX5, hwl5, hA5, hf⟩
            have hXr5 := hX5.1
            have hXd5 := hX5.2
            obtain ⟨f, rfl⟩ := frC_open _ _ 0 hf
            clear hf
            (refine top_in ?_; simp -implicitDefEqProofs only [go_sem, -List.reduceReplicate, ↓L_gdZ_tt, ↓L_gdZ_tf, ↓L_gdZ_ft, ↓L_gdZ_ff, ↓T_and, ↓T_imp, ↓T_all, Nat.reduceBEq, Nat.reduceAdd, Nat.reduceSub, Nat.reduceMul, Nat.reduceLT, Nat.reduceLeDiff, Nat.reduceEqDiff, Int.reduceLT, Int.reduceLE, Int.reduceAdd, Int.reduceSub, Int.reduceMul, Int.reduceNeg, Int.reduceToNat, Int.reduceEq, Int.reduceNe, reduceIte, reduceCtorEq, BitVec.reduceOfInt, BitVec.reduceToNat, hlb, hXr5, hXd5]; try simp only [top_out])
            refine ⟨fun hlt => ?_, fun hlt => ?_⟩
            · exact ⟨by omega, by omega, by omega, by omega, n - 1, by omega, k + 1, _, by omega, hX5.set hdp k _, by rw [List.length_set]; exact hwl5, Ag.trans hA5 (S' := fun n => n = d) (Ag.set rfl) (fun _ _ e => e), w64 (by omega) (by omega)⟩
            · have hrl := vw_len h.same
              have m2 := hA2.1
              have m3 := hA3.1
              have m4 := hA4.1
              have m5 := hA5.1
              have hdl := kw hXd
              have k1 : ∀ n, Fn3 n → Fr n → False := fun n e1 e2 => by
                rcases hF3 n e1 with e | e
                · exact (h.fn n e).2.1 e2
                · have := h.ref.inn n e2; omega
              have k2 : ¬ Fn3 d := fun e => by
                rcases hF3 d e with e | e
                · exact hdn e
                · omega
              have k3 : ¬ Fr4 d := fun e => by
                rcases hF4 d e with e | e
                · exact hdr e
                · omega
              have k4 : ¬ Fn3 p := fun e => by
                rcases hF3 p e with e | e
                · exact hpn e
                · omega
              have k5 : ¬ Fr4 p := fun e => by
                rcases hF4 p e with e | e
                · exact hpr e
                · omega
              have hN5 := (hN3.ag hA4 (fun n e1 e2 => k1 n e1 e2)).ag hA5 (fun n e1 e2 => k2 (e2 ▸ e1))
              have hR5 := hR4.ag hA5 (fun n e1 e2 => k3 (e2 ▸ e1))
              have hsv : (sndV fs.length g == sndV rs.length g) = true := by rw [hrl]; exact beq_self_eq_true _
              rw [hsv]
              rw [← hrl] at hR5
              have hv5 : vwE fs3 = vwR rs4 := by rw [hv3, hv4, h.same]
              have hl5 : fs3.length ≤ 1024 := by rw [← vwE_len, hv3]; exact sndL_len (by rw [vwE_len]; exact h.len)
              have hAF : Ag F M M5 := by
                refine Ag.trans (Ag.trans (Ag.trans (S := F) (S' := Fn) (Ag.mono (S := fun n => n = p ∨ (n = d ∧ F d)) ⟨m2, fun n hn hS => hA2.2 n hn (fun e => hS (e.elim .inl (fun e => .inr ⟨e, ?_⟩)))⟩ (fun n e => ?_)) hA3 (fun n _ e => (h.fn n e).1)) hA4 (fun n _ e => (h.fr n e).1)) hA5 (fun n hn e => ?_)
                · rcases hdF with e2 | e2
                  · exact e2
                  · omega
                · rcases e with e | ⟨e, e2⟩
                  · exact e ▸ h.fp
                  · exact e ▸ e2
                · rcases hdF with e2 | e2
                  · exact e ▸ e2
                  · omega
              refine dropC_all hAF.1 (hK M5 (fun n => F n ∨ n = d ∨ Fn3 n ∨ Fr4 n) Fn3 Fr4 c3 fs3 rs4 (.sl d 0 w'.length w'.length) w' long0 ⟨hXr5, .inr ⟨d, ty0, rfl, hXd5, .inr (.inl rfl), hdp⟩, hN5, hR5, hv5, hl5, ?_, ?_, .inl h.fp, ?_⟩ hv3 ?_ hAF)
              · intro n e
                refine ⟨.inr (.inr (.inl e)), fun e2 => ?_, fun e2 => k4 (e2 ▸ e), fun e2 => ?_⟩
                · rcases hF4 n e2 with e3 | e3
                  · exact k1 n e e3
                  · have := hN3.inn n e; omega
                · cases e2; exact k2 e
              · intro n e
                refine ⟨.inr (.inr (.inr e)), fun e2 => k5 (e2 ▸ e), fun e2 => ?_⟩
                cases e2; exact k3 e
              · rintro n (e | e | e | e)
                · have := h.inn n e; omega
                · omega
                · have := hN5.inn n e; omega
                · have := hR5.inn n e; omega
              · rintro n (e | e | e | e)
                · exact .inl e
                · rcases hdF with e2 | e2
                  · exact .inl (e ▸ e2)
                  · exact .inr (by omega)
                · rcases hF3 n e with e | e
                  · exact .inl (h.fn n e).1
                  · exact .inr (by omega)
                · rcases hF4 n e with e | e
                  · exact .inl (h.fr n e).1
                  · exact .inr (by omega)
theorem sends_ok (p : Nat) (g to : Int) (x : SV) (b : List (BitVec 8)) (M : List Blk) (F : Nat → Prop) (K : SV → List Blk → Prop) (h : PairSt M F p g) (hg1 : g < 4611686018427387800) (hx : Byt M x b) (hxF : ∀ d, dnS x = some d → ¬ F d)
    (hK : ∀ M' F' g', PairSt M' F' p g' → g ≤ g' → g' ≤ g + 1 → (∀ n, F' n → F n ∨ M.length ≤ n) → Ag F M M' → K (.b true) M') :
    callVC Try.prog 30 [.p p 0, .i .i64 to, x] M K := by
  have hps := h
  obtain ⟨Fn, Fr, nx, m, c, r, fs, rs, y, z, long, h⟩ := h
  exact sends_fl p nx m c r g to x b fs rs y z long M F Fn Fr K h hg1 hx hxF (fun _ => hK M F g hps (by omega) (by omega) (fun n hn => .inl hn) Ag.refl)
    (fun M' F' Fn' Fr' c' fs' rs' y' z' long' h' _ hF hA => hK M' F' _ ⟨Fn', Fr', nx, m, c', r, fs', rs', y', z', long', h'⟩ (sndG_le _ _).1 (sndG_le _ _).2 hF hA)
end Go.Proofs.Ytccnffjjahdneaa.Eng
