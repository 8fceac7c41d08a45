/- Joined texts: G1, G2, G3. -/
import Derived.Test.YtdkdbeamimkljaaGreatDoorMi
import Derived.Test.YtdkdbeamimkljaaGreatDoorMf
import Derived.Test.YtdkdbeamimkljaaGreatDoorMa
namespace Go.Proofs.YtdkdbeamimkljaaGreatDoor.Eng
set_option linter.unusedSimpArgs false
set_option linter.unusedVariables false
open Go Go.RowKit
def ctrL (nonce : List (BitVec 8)) (i : BitVec 32) : List (BitVec 8) := gl 16 fun j => if j < 12 then nonce.getD j 0#8 else (i >>> (8 * (15 - j))).setWidth 8
theorem ctrL_len (nonce : List (BitVec 8)) (i : BitVec 32) : (ctrL nonce i).length = 16 := gl_len
theorem set_ext {n j : Nat} {v : BitVec 8} {f g : Nat → BitVec 8} (h : ∀ i, i < n → g i = if i = j then v else f i) : (gl n f).set j v = gl n g := by
  rw [gl_set]; exact gl_ext fun i hi => (h i hi).symm
theorem counter_ok (n off cap : Nat) (nonce : List (BitVec 8)) (i : BitVec 32) (M : List Blk) (K : SV → List Blk → Prop) (ha : BAt M n off nonce) (hl : nonce.length = 12) (hK : K (.agg (bS (ctrL nonce i))) M) :
    callVC Tryz.prog 121 [.sl n off 12 cap, .u32 i] M K := by
  refine fn_rule tabOK Tryz.func121 rfl Tryz.call121 (by kernel_rfl) (fun hM => ?_)
  (refine top_in ?_; simp -implicitDefEqProofs only [Tryz.ntmps121, Tryz.results121, go_sem, -List.reduceReplicate, ↓L_gdZ_tt, ↓L_gdZ_tf, ↓L_gdZ_ft, ↓L_gdZ_ff, ↓T_and, ↓T_imp, ↓T_all]; try simp only [top_out])
  have hs : SrcIs (M ++ [.row (bS (List.replicate 16 0#8)) 113, .row (bS (List.replicate 16 0#8)) 113]) (.sl n off 12 cap) nonce := by
    have := (ha.app (L := [.row (bS (List.replicate 16 0#8)) 113, .row (bS (List.replicate 16 0#8)) 113])).src (cap := cap)
    rwa [hl] at this
  refine copy8 (M.length + 1) 0 (List.replicate 16 0#8) nonce 113 rfl (by rw [get_app]; rfl) (by simp) hs ?_
  have e0 : (List.replicate 16 0#8).take 0 ++ nonce.take 16 ++ (List.replicate 16 0#8).drop (0 + Nat.min nonce.length 16) = gl 16 fun j => if j < 12 then nonce.getD j 0#8 else 0#8 := by
    have e1 : nonce.take 16 = nonce := List.take_of_length_le (by omega)
    rw [hl, e1]
    refine gl_eq (by simp [hl]) 0#8 fun j hj => ?_
    rw [List.take_zero, List.nil_append, List.getD_eq_getElem?_getD]
    by_cases h : j < 12
    · rw [List.getElem?_append_left (by omega), if_pos h, List.getD_eq_getElem?_getD]
    · rw [List.getElem?_append_right (by omega), if_neg h, hl, List.getElem?_drop, List.getElem?_replicate]
      split <;> rfl
  rw [e0]
  (refine top_in ?_; simp -implicitDefEqProofs only [go_sem, -List.reduceReplicate, ↓L_gdZ_tt, ↓L_gdZ_tf, ↓L_gdZ_ft, ↓L_gdZ_ff, ↓T_and, ↓T_imp, ↓T_all, hl]; try simp only [top_out])
  refine loop_code tabOK (by kernel_rfl) (fun m ts M' => ∃ k : Nat, k + m = 4 ∧ frC [none, some (.u32 i), none, none, some (.p M.length 0), some (.p (M.length + 1) 0), none, none, none, none, some (.i .i64 k), none, none, none, none, none, none, none, none, none, none, none, none] ts ∧
    M' = M ++ [.row (bS (List.replicate 16 0#8)) 113, .row (bS (gl 16 fun j => if j < 12 then nonce.getD j 0#8 else if 16 - k ≤ j then (i >>> (8 * (15 - j))).setWidth 8 else 0#8)) 113]) 4 ?_ ?_
  · refine ⟨0, rfl, by simp [frC], ?_⟩
    have : (gl 16 fun j => if j < 12 then nonce.getD j 0#8 else if 16 - 0 ≤ j then (i >>> (8 * (15 - j))).setWidth 8 else 0#8) = gl 16 fun j => if j < 12 then nonce.getD j 0#8 else 0#8 := gl_ext fun j hj => by
      split
      · rfl
      · rw [if_neg (by omega)]
    rw [this]
  · rintro m ts _ ⟨k, hk, hf, rfl⟩
    by_cases hk4 : k < 4
    · have hlt : ((k : Int) < 4) = True := by simp; omega
      have w1 : IntKind.i64.wrap (15 - (k : Int)) = ((15 - k : Nat) : Int) := by rw [w64 (by omega) (by omega)]; omega
      have w2 : IntKind.i64.wrap (8 * (k : Int)) = ((8 * k : Nat) : Int) := by rw [w64 (by omega) (by omega)]; omega
      obtain ⟨f, rfl⟩ := frC_open _ _ 0 hf
      clear hf
      (refine top_in ?_; simp -implicitDefEqProofs only [go_sem, -List.reduceReplicate, ↓L_gdZ_tt, ↓L_gdZ_tf, ↓L_gdZ_ft, ↓L_gdZ_ff, ↓T_and, ↓T_imp, ↓T_all, hlt, w1, w2]; try simp only [top_out])
      refine ⟨by omega, by omega, by omega, by omega, by omega, m - 1, by omega, k + 1, by omega, by rw [w64 (by omega) (by omega)]; rfl, ?_⟩
      rw [set_ext]
      intro j hj
      by_cases e : j = 15 - k
      · subst e; rw [if_pos rfl, if_neg (by omega), if_pos (by omega), show 15 - (15 - k) = k by omega]
      · rw [if_neg e]
        split
        · rfl
        · split
          · rw [if_pos (by omega)]
          · rw [if_neg (by omega)]
    · have hlt : ((k : Int) < 4) = False := by simp; omega
      obtain rfl : k = 4 := by omega
      have e : (gl 16 fun j => if j < 12 then nonce.getD j 0#8 else if 16 - 4 ≤ j then (i >>> (8 * (15 - j))).setWidth 8 else 0#8) = ctrL nonce i := gl_ext fun j hj => by
        split
        · rfl
        · rw [if_pos (by omega)]
      rw [e]
      obtain ⟨f, rfl⟩ := frC_open _ _ 0 hf
      clear hf
      (refine top_in ?_; simp -implicitDefEqProofs only [go_sem, -List.reduceReplicate, ↓L_gdZ_tt, ↓L_gdZ_tf, ↓L_gdZ_ft, ↓L_gdZ_ff, ↓T_and, ↓T_imp, ↓T_all, hlt, ctrL_len]; try simp only [top_out])
      exact dropC_append hM (bS_lt _ _) hK
theorem set_lt {M L : List Blk} {a : Nat} {B : Blk} (h : a < M.length) : (M ++ L).set a B = M.set a B ++ L := List.set_append_left _ _ h
theorem next_ok (a b d m nn no nc : Nat) (nonce C : List (BitVec 8)) (i : BitVec 32) (t1 t2 t3 t4 : TypeId) (M : List Blk) (K : SV → List Blk → Prop) (hA : M[a]? = some (.row [.u32 i] t1)) (hB : M[b]? = some (.row [.p m 0] t2)) (hD : M[d]? = some (.row [.sl nn no 12 nc] t3))
    (hC : M[m]? = some (.row (bS C) t4)) (hCl : C.length = 496) (hn : BAt M nn no nonce) (hl : nonce.length = 12) (hne : a ≠ m) (hne2 : a ≠ nn) (hne3 : a ≠ b) (hne4 : a ≠ d)
    (hK : K (.agg (bS (aesN C (ctrL nonce (i + 1#32)) 14))) (M.set a (.row [.u32 (i + 1#32)] t1))) : callVC Tryz.prog 171 [.p a 0, .p b 0, .p d 0] M K := by
  have ha : a < M.length := (List.getElem?_eq_some_iff.1 hA).1
  have hb : b < M.length := (List.getElem?_eq_some_iff.1 hB).1
  have hd : d < M.length := (List.getElem?_eq_some_iff.1 hD).1
  have hm : m < M.length := (List.getElem?_eq_some_iff.1 hC).1
  refine fn_rule tabOK Tryz.func171 rfl Tryz.call171 (by kernel_rfl) (fun hM => ?_)
  (refine top_in ?_; simp -implicitDefEqProofs only [Tryz.ntmps171, Tryz.results171, go_sem, -List.reduceReplicate, ↓L_gdZ_tt, ↓L_gdZ_tf, ↓L_gdZ_ft, ↓L_gdZ_ff, ↓T_and, ↓T_imp, ↓T_all, get_lt ha, get_lt hb, get_lt hd, hA, hB, hD, set_lt ha]; try simp only [top_out])
  obtain ⟨M2, hM2⟩ : ∃ M2, M.set a (.row [.u32 (i + 1#32)] t1) = M2 := ⟨_, rfl⟩
  rw [hM2] at hK ⊢
  have hl2 : M2.length = M.length := by rw [← hM2, List.length_set]
  have hM' : ∀ (n : Nat) (B : Blk), M2[n]? = some B → B.lt M2.length = true := by
    intro n B hB
    rw [← hM2] at hB
    rw [hl2]
    by_cases e : a = n
    · subst e; rw [List.getElem?_set_self ha] at hB; cases hB; rfl
    · rw [List.getElem?_set_ne e] at hB; exact hM n B hB
  have sA : M2[a]? = some (.row [.u32 (i + 1#32)] t1) := by rw [← hM2]; exact List.getElem?_set_self ha
  have sB : M2[b]? = some (.row [.p m 0] t2) := by rw [← hM2, List.getElem?_set_ne hne3]; exact hB
  have sD : M2[d]? = some (.row [.sl nn no 12 nc] t3) := by rw [← hM2, List.getElem?_set_ne hne4]; exact hD
  have sC : M2[m]? = some (.row (bS C) t4) := by rw [← hM2, List.getElem?_set_ne hne]; exact hC
  have sN : BAt M2 nn no nonce := by
    have e : cellsAt M2 nn = cellsAt M nn := by rw [← hM2]; unfold cellsAt; rw [List.getElem?_set_ne hne2]
    exact ⟨by rw [hl2]; exact hn.lt, by rw [e]; exact hn.len, by rw [e]; exact hn.cells⟩
  rw [← hl2] at ha hb hd ⊢
  clear hM2 hl2 hA hB hD hC hn hM hm
  have hm : m < M2.length := (List.getElem?_eq_some_iff.1 sC).1
  refine draw_rule tabOK (by kernel_rfl : _) (.p 0 (.p 1 (.p 2 (.e 3 [0] (.e 4 [] (.e 5 [] .nil .no) .no) .no)))) (by kernel_rfl) (by kernel_rfl) ?_
  (refine top_in ?_; simp -implicitDefEqProofs only [go_sem, -List.reduceReplicate, ↓L_gdZ_tt, ↓L_gdZ_tf, ↓L_gdZ_ft, ↓L_gdZ_ff, ↓T_and, ↓T_imp, ↓T_all, get_lt ha, get_lt hb, get_lt hd, sA, sB, sD]; try simp only [top_out])
  refine counter_ok nn no nc nonce (i + 1#32) _ _ sN.app hl ?_
  (refine top_in ?_; simp -implicitDefEqProofs only [go_sem, -List.reduceReplicate, ↓L_gdZ_tt, ↓L_gdZ_tf, ↓L_gdZ_ft, ↓L_gdZ_ff, ↓T_and, ↓T_imp, ↓T_all, ctrL_len, get_lt ha, get_lt hb, get_lt hd, sA, sB, sD]; try simp only [top_out])
  refine block_ok m C t4 (ctrL nonce (i + 1#32)) _ _ (by rw [get_lt hm]; exact sC) hCl (ctrL_len _ _) ?_
  (refine top_in ?_; simp -implicitDefEqProofs only [go_sem, -List.reduceReplicate, ↓L_gdZ_tt, ↓L_gdZ_tf, ↓L_gdZ_ft, ↓L_gdZ_ff, ↓T_and, ↓T_imp, ↓T_all, ctrL_len, aesN_len, get_lt ha, get_lt hb, get_lt hd, sA, sB, sD]; try simp only [top_out])
  exact dropC_append hM' (bS_lt _ _) hK
def lenL (a s : Nat) : List (BitVec 8) := gl 16 fun j => if j < 8 then ((BitVec.ofNat 64 a * 8#64) >>> (8 * (7 - j))).setWidth 8 else ((BitVec.ofNat 64 s * 8#64) >>> (8 * (15 - j))).setWidth 8
theorem lenL_len (a s : Nat) : (lenL a s).length = 16 := gl_len
theorem lengths_ok (a s : Nat) (M : List Blk) (K : SV → List Blk → Prop) (hK : K (.agg (bS (lenL a s))) M) :
    callVC Tryz.prog 120 [.i .i64 a, .i .i64 s] M K := by
  refine fn_rule tabOK Tryz.func120 rfl Tryz.call120 (by kernel_rfl) (fun hM => ?_)
  (refine top_in ?_; simp -implicitDefEqProofs only [Tryz.ntmps120, Tryz.results120, go_sem, -List.reduceReplicate, ↓L_gdZ_tt, ↓L_gdZ_tf, ↓L_gdZ_ft, ↓L_gdZ_ff, ↓T_and, ↓T_imp, ↓T_all]; try simp only [top_out])
  refine loop_code tabOK (by kernel_rfl) (fun m ts M' => ∃ k : Nat, k + m = 8 ∧ frC [some (.i .i64 a), some (.i .i64 s), none, none, some (.p M.length 0), some (.p (M.length + 1) 0), none, some (.i .i64 k), none, none, none, none, none, none, none, none, none, none, none, none, none, none, none, none, none, none, none, none, none, none, none, none] ts ∧
    M' = M ++ [.row (bS (List.replicate 16 0#8)) 113, .row (bS (gl 16 fun j => if j < 8 then (if 8 - k ≤ j then (lenL a s).getD j 0#8 else 0#8) else (if 16 - k ≤ j then (lenL a s).getD j 0#8 else 0#8))) 113]) 8 ?_ ?_
  · refine ⟨0, rfl, by simp [frC], ?_⟩
    have : (gl 16 fun j => if j < 8 then (if 8 - 0 ≤ j then (lenL a s).getD j 0#8 else 0#8) else (if 16 - 0 ≤ j then (lenL a s).getD j 0#8 else 0#8)) = List.replicate 16 0#8 := by
      rw [← gl_const]
      exact gl_ext fun j hj => by
        by_cases h : j < 8
        · rw [if_pos h, if_neg (by omega)]
        · rw [if_neg h, if_neg (by omega)]
    rw [this]
  · rintro m ts _ ⟨k, hk, hf, rfl⟩
    by_cases hk8 : k < 8
    · have hlt : ((k : Int) < 8) = True := by simp; omega
      have w0 : IntKind.i64.wrap (7 - (k : Int)) = ((7 - k : Nat) : Int) := by rw [w64 (by omega) (by omega)]; omega
      have w1 : IntKind.i64.wrap (15 - (k : Int)) = ((15 - k : Nat) : Int) := by rw [w64 (by omega) (by omega)]; omega
      have w2 : IntKind.i64.wrap (8 * (k : Int)) = ((8 * k : Nat) : Int) := by rw [w64 (by omega) (by omega)]; omega
      have e1 : BitVec.ofInt 64 (a : Int) = BitVec.ofNat 64 a := BitVec.ofInt_natCast _ _
      have e2 : BitVec.ofInt 64 (s : Int) = BitVec.ofNat 64 s := BitVec.ofInt_natCast _ _
      have c1 : (lenL a s).getD (7 - k) 0#8 = ((BitVec.ofNat 64 a * 8#64) >>> (8 * k)).setWidth 8 := by
        unfold lenL; rw [gl_getD (by omega), if_pos (by omega), show 8 * (7 - (7 - k)) = 8 * k by omega]
      have c2 : (lenL a s).getD (15 - k) 0#8 = ((BitVec.ofNat 64 s * 8#64) >>> (8 * k)).setWidth 8 := by
        unfold lenL; rw [gl_getD (by omega), if_neg (by omega), show 8 * (15 - (15 - k)) = 8 * k by omega]
      obtain ⟨f, rfl⟩ := frC_open _ _ 0 hf
      clear hf
      (refine top_in ?_; simp -implicitDefEqProofs only [go_sem, -List.reduceReplicate, ↓L_gdZ_tt, ↓L_gdZ_tf, ↓L_gdZ_ft, ↓L_gdZ_ff, ↓T_and, ↓T_imp, ↓T_all, hlt, w0, w1, w2, e1, e2]; try simp only [top_out])
      rw [← c1, ← c2]
      repeat (with_reducible refine And.intro (by omega) ?_)
      refine ⟨m - 1, by omega, k + 1, by omega, by rw [w64 (by omega) (by omega)]; rfl, ?_⟩
      rw [gl_set, set_ext]
      intro j hj
      by_cases e : j = 15 - k
      · subst e; rw [if_pos rfl, if_neg (by omega), if_pos (by omega)]
      · rw [if_neg e]
        by_cases e' : j = 7 - k
        · subst e'; rw [if_pos rfl, if_pos (by omega), if_pos (by omega)]
        · rw [if_neg e']
          by_cases h : j < 8
          · rw [if_pos h, if_pos h]
            by_cases h' : 8 - k ≤ j
            · rw [if_pos h', if_pos (by omega)]
            · rw [if_neg h', if_neg (by omega)]
          · rw [if_neg h, if_neg h]
            by_cases h' : 16 - k ≤ j
            · rw [if_pos h', if_pos (by omega)]
            · rw [if_neg h', if_neg (by omega)]
    · have hlt : ((k : Int) < 8) = False := by simp; omega
      obtain rfl : k = 8 := by omega
      have e : (gl 16 fun j => if j < 8 then (if 8 - 8 ≤ j then (lenL a s).getD j 0#8 else 0#8) else (if 16 - 8 ≤ j then (lenL a s).getD j 0#8 else 0#8)) = lenL a s := by
        conv => rhs; rw [gl_self (lenL_len a s) 0#8]
        exact gl_ext fun j hj => by
          by_cases h : j < 8
          · rw [if_pos h, if_pos (by omega)]
          · rw [if_neg h, if_pos (by omega)]
      rw [e]
      obtain ⟨f, rfl⟩ := frC_open _ _ 0 hf
      clear hf
      (refine top_in ?_; simp -implicitDefEqProofs only [go_sem, -List.reduceReplicate, ↓L_gdZ_tt, ↓L_gdZ_tf, ↓L_gdZ_ft, ↓L_gdZ_ff, ↓T_and, ↓T_imp, ↓T_all, hlt, lenL_len]; try simp only [top_out])
      exact dropC_append hM (bS_lt _ _) hK
theorem rn_fn {τ : Nat → Option Nat} {f : Fn} {x c : List SV} : (SV.fn f x c).rn τ = .fn f (rnL τ x) (rnL τ c) := rfl
theorem keepP {m0 : Nat} {ks : List (Option Nat)} {L : List Blk} {k m off : Nat} {ty : TypeId} (hm : m < m0) (h : L[k]? = some (.row [.p m off] ty)) : BlkRn (tau m0 ks) L (some k) (.row [.p m off] ty) :=
  ⟨_, h, rfl, fun ρ => by rw [rnL, rnL, rn_p hm]⟩
theorem keepSl {m0 : Nat} {ks : List (Option Nat)} {L : List Blk} {k n o l c : Nat} {ty : TypeId} (hn : n < m0) (h : L[k]? = some (.row [.sl n o l c] ty)) : BlkRn (tau m0 ks) L (some k) (.row [.sl n o l c] ty) :=
  ⟨_, h, rfl, fun ρ => by rw [rnL, rnL, rn_sl hn]⟩
theorem keep32 {τ : Nat → Option Nat} {L : List Blk} {k : Nat} {x : BitVec 32} {ty : TypeId} (h : L[k]? = some (.row [.u32 x] ty)) : BlkRn τ L (some k) (.row [.u32 x] ty) :=
  ⟨_, h, rfl, fun ρ => rfl⟩
theorem stream_ok (m nn no nc : Nat) (M : List Blk) (K : SV → List Blk → Prop)
    (hK : K (.fn (.func 171) [] [.p (M.length + 2) 0, .p M.length 0, .p (M.length + 1) 0]) (M ++ [.row [.p m 0] 109, .row [.sl nn no 12 nc] 22, .row [.u32 1#32] 98])) :
    callVC Tryz.prog 115 [.p m 0, .sl nn no 12 nc] M K := by
  refine fn_rule tabOK Tryz.func115 rfl Tryz.call115 (by kernel_rfl) (fun hM => ?_)
  (refine top_in ?_; simp -implicitDefEqProofs only [Tryz.ntmps115, Tryz.results115, go_sem, -List.reduceReplicate, ↓L_gdZ_tt, ↓L_gdZ_tf, ↓L_gdZ_ft, ↓L_gdZ_ff, ↓T_and, ↓T_imp, ↓T_all]; try simp only [top_out])
  exact dropC_all (by simp) hK
def cryL (E : List (BitVec 8) → List (BitVec 8)) (nonce text : List (BitVec 8)) : List (BitVec 8) := gl text.length fun j => text.getD j 0#8 ^^^ (E (ctrL nonce (BitVec.ofNat 32 (2 + j / 16)))).getD (j % 16) 0#8
theorem cryL_len (E : List (BitVec 8) → List (BitVec 8)) (nonce text : List (BitVec 8)) : (cryL E nonce text).length = text.length := gl_len
def pad16 (l : List (BitVec 8)) : List (BitVec 8) := gl 16 fun j => l.getD j 0#8
theorem pad16_len (l : List (BitVec 8)) : (pad16 l).length = 16 := gl_len
theorem pad16_copy (l : List (BitVec 8)) : (List.replicate 16 0#8).take 0 ++ l.take 16 ++ (List.replicate 16 0#8).drop (0 + Nat.min l.length 16) = pad16 l := by
  refine gl_eq (by rw [List.length_append, List.length_append, List.length_take, List.length_take, List.length_drop, List.length_replicate, show Nat.min l.length 16 = min l.length 16 from rfl]; omega) 0#8 fun j hj => ?_
  rw [List.take_zero, List.nil_append, Nat.zero_add, List.getD_eq_getElem?_getD, List.getD_eq_getElem?_getD]
  have hm : Nat.min l.length 16 = min l.length 16 := rfl
  rw [hm]
  by_cases h : j < l.length
  · rw [List.getElem?_append_left (by simp; omega), List.getElem?_take_of_lt hj]
  · rw [List.getElem?_append_right (by simp; omega), List.getElem?_drop, List.getElem?_replicate, List.getElem?_eq_none (l := l) (by omega)]
    split <;> rfl
theorem getD_ext' {x y : List (BitVec 8)} {n : Nat} (hx : x.length = n) (hy : y.length = n) (h : ∀ j, j < n → x.getD j 0#8 = y.getD j 0#8) : x = y := by
  rw [gl_self hx 0#8, gl_self hy 0#8]
  exact gl_ext h
theorem cryL_step (E : List (BitVec 8) → List (BitVec 8)) {nonce text : List (BitVec 8)} {r : Nat} (hr : 16 * r < text.length) :
    (cryL E nonce text).take (16 * r) ++ (xorL (pad16 (text.drop (16 * r))) (E (ctrL nonce (BitVec.ofNat 32 (2 + r))))).take (min (text.length - 16 * r) 16) = (cryL E nonce text).take (16 * r + min (text.length - 16 * r) 16) := by
  have hl := cryL_len E nonce text
  have hx := xorL_len (pad16 (text.drop (16 * r))) (E (ctrL nonce (BitVec.ofNat 32 (2 + r))))
  rw [List.take_add]
  congr 1
  refine getD_ext' (n := min (text.length - 16 * r) 16) (by simp [hx]) (by simp [hl]) fun j hj => ?_
  rw [List.getD_eq_getElem?_getD, List.getD_eq_getElem?_getD, List.getElem?_take_of_lt hj, List.getElem?_take_of_lt hj, List.getElem?_drop, ← List.getD_eq_getElem?_getD, ← List.getD_eq_getElem?_getD]
  unfold xorL cryL pad16
  rw [gl_getD (by omega), gl_getD (by omega), gl_getD (by omega), List.getD_eq_getElem?_getD (l := text.drop _), List.getElem?_drop, ← List.getD_eq_getElem?_getD, show (16 * r + j) / 16 = r by omega, show (16 * r + j) % 16 = j by omega]
theorem BAt.adv {M : List Blk} {n o c q : Nat} {l : List (BitVec 8)} (h : BAt M n o l) (hq : q ≤ l.length) (hc : l.length ≤ c) : BAt M n (if c = q then o else o + q) (l.drop q) := by
  by_cases e : c = q
  · rw [if_pos e]
    have : l.drop q = [] := List.drop_eq_nil_of_le (by omega)
    rw [this]
    exact ⟨h.lt, by have := h.len; simp; omega, by simp; rfl⟩
  · rw [if_neg e]
    have := h.sub (a := q) (k := l.length - q) (by omega)
    rwa [List.take_of_length_le (by rw [List.length_drop]; exact Nat.le_refl _)] at this
set_option maxHeartbeats 1000000 in
theorem crypt_ok (m nn no nc nt ot len ct : Nat) (C nonce text : List (BitVec 8)) (t4 : TypeId) (M : List Blk) (K : SV → List Blk → Prop) (hC : M[m]? = some (.row (bS C) t4)) (hCl : C.length = 496) (hn : BAt M nn no nonce) (hl : nonce.length = 12)
    (ht : BAt M nt ot text) (hlen : len = text.length) (hcap : len ≤ ct) (hmax : len ≤ 140737488355000)
    (hK : ∀ z ty, K (.sl M.length 0 text.length (text.length + z.length)) (M ++ [.row (bS (cryL (fun x => aesN C x 14) nonce text ++ z)) ty])) :
    callVC Tryz.prog 52 [.p m 0, .sl nn no 12 nc, .sl nt ot len ct] M K := by
  subst hlen
  have hm : m < M.length := (List.getElem?_eq_some_iff.1 hC).1
  have w0 : IntKind.i64.wrap ((text.length : Int) + 16) = ((text.length + 16 : Nat) : Int) := by rw [w64 (by omega) (by omega)]; omega
  refine fn_rule tabOK Tryz.func52 rfl Tryz.call52 (by kernel_rfl) (fun hM => ?_)
  (refine top_in ?_; simp -implicitDefEqProofs only [Tryz.ntmps52, Tryz.results52, go_sem, -List.reduceReplicate, ↓L_gdZ_tt, ↓L_gdZ_tf, ↓L_gdZ_ft, ↓L_gdZ_ff, ↓T_and, ↓T_imp, ↓T_all, w0]; try simp only [top_out])
  refine ⟨by omega, by omega, by omega, ?_⟩
  refine stream_ok m nn no nc _ _ ?_
  (refine top_in ?_; simp -implicitDefEqProofs only [go_sem, -List.reduceReplicate, ↓L_gdZ_tt, ↓L_gdZ_tf, ↓L_gdZ_ft, ↓L_gdZ_ff, ↓T_and, ↓T_imp, ↓T_all]; try simp only [top_out])
  generalize hE : (fun x => aesN C x 14) = E at hK
  have hcl := cryL_len E nonce text
  refine loop_gc tabOK (by kernel_rfl) (fun n ts M' => ∃ (r k o c : Nat) (z : List (BitVec 8)) (ty : TypeId), k + n = text.length ∧ (k = 16 * r ∨ k = text.length) ∧ BAt M nt o (text.drop k) ∧ text.length - k ≤ c ∧
      frC [none, none, some (.sl nt o (text.length - k) c), none, none, none, none, some (.sl M.length 0 k (k + z.length)), some (.fn (.func 171) [] [.p (M.length + 3) 0, .p (M.length + 1) 0, .p (M.length + 2) 0]), none, none, none, none, none, none, none, none, none, none, none, none, none, none, none, none, none, none, none, none, none, none, none, none, none, none, none] ts ∧
      M' = M ++ [.row (bS ((cryL E nonce text).take k ++ z)) ty, .row [.p m 0] 109, .row [.sl nn no 12 nc] 22, .row [.u32 (BitVec.ofNat 32 (1 + r))] 98]) text.length ?_ ?_
  · refine covF_self ⟨0, 0, ot, ct, List.replicate (text.length + 16) 0#8, _, by omega, .inl rfl, ht, by omega, by simp [frC], rfl⟩
  · rintro n ts _ ⟨r, k, o, c, z, ty, hk, hr, hb, hc, hf, rfl⟩
    by_cases hlt : k < text.length
    · obtain rfl : k = 16 * r := by omega
      have hp : (0 < ((text.length - 16 * r : Nat) : Int)) = True := by simp; omega
      obtain ⟨f, rfl⟩ := frC_open _ _ 0 hf
      clear hf
      (refine top_in ?_; simp -implicitDefEqProofs only [go_sem, -List.reduceReplicate, ↓L_gdZ_tt, ↓L_gdZ_tf, ↓L_gdZ_ft, ↓L_gdZ_ff, ↓T_and, ↓T_imp, ↓T_all, hp]; try simp only [top_out])
      have hdl : (text.drop (16 * r)).length = text.length - 16 * r := List.length_drop
      generalize hq : min (text.length - 16 * r) 16 = q
      have hst := cryL_step E (nonce := nonce) hlt
      rw [hq] at hst
      generalize hre : text.drop (16 * r) = re at hdl hst hb
      have hs := hb.app (L := [.row (bS ((cryL E nonce text).take (16 * r) ++ z)) ty, .row [.p m 0] 109, .row [.sl nn no 12 nc] 22, .row [.u32 (BitVec.ofNat 32 (1 + r))] 98, .row (bS (List.replicate 16 0#8)) 113]) |>.src (cap := c)
      rw [hdl] at hs
      refine copy8 (M.length + 4) 0 (List.replicate 16 0#8) re 113 rfl (by rw [get_app]; rfl) (by simp) hs ?_
      rw [pad16_copy, show Nat.min re.length 16 = q by rw [hdl]; exact hq]
      have hpl := pad16_len re
      (refine top_in ?_; simp -implicitDefEqProofs only [go_sem, -List.reduceReplicate, ↓L_gdZ_tt, ↓L_gdZ_tf, ↓L_gdZ_ft, ↓L_gdZ_ff, ↓T_and, ↓T_imp, ↓T_all, hpl]; try simp only [top_out])
      refine draw_rule tabOK (by kernel_rfl : _) (.p 0 (.p 1 (.e 2 [0] (.e 3 [] (.e 4 [] .nil .no) .no) .no))) (by kernel_rfl) (by kernel_rfl) ?_
      (refine top_in ?_; simp -implicitDefEqProofs only [go_sem, -List.reduceReplicate, ↓L_gdZ_tt, ↓L_gdZ_tf, ↓L_gdZ_ft, ↓L_gdZ_ff, ↓T_and, ↓T_imp, ↓T_all, hpl]; try simp only [top_out])
      refine next_ok (M.length + 3) (M.length + 1) (M.length + 2) m nn no nc nonce C (BitVec.ofNat 32 (1 + r)) _ _ _ t4 _ _ (by rw [get_app]; rfl) (by rw [get_app]; rfl) (by rw [get_app]; rfl) (by rw [get_lt hm]; exact hC) hCl hn.app hl (by omega) (by have := hn.lt; omega) (by omega) (by omega) ?_
      rw [show aesN C (ctrL nonce (BitVec.ofNat 32 (1 + r) + 1#32)) 14 = E (ctrL nonce (BitVec.ofNat 32 (2 + r))) by rw [← hE, show BitVec.ofNat 32 (1 + r) + 1#32 = BitVec.ofNat 32 (2 + r) by rw [show 2 + r = 1 + r + 1 by omega, BitVec.ofNat_add (1 + r)]]]
      have hel : (E (ctrL nonce (BitVec.ofNat 32 (2 + r)))).length = 16 := by rw [← hE]; exact aesN_len _ _ _
      (refine top_in ?_; simp -implicitDefEqProofs only [go_sem, -List.reduceReplicate, ↓L_gdZ_tt, ↓L_gdZ_tf, ↓L_gdZ_ft, ↓L_gdZ_ff, ↓T_and, ↓T_imp, ↓T_all, hpl, hel]; try simp only [top_out])
      refine xor_ok _ _ hpl hel _ _ ?_
      have hxl := xorL_len (pad16 re) (E (ctrL nonce (BitVec.ofNat 32 (2 + r))))
      have hb2 : BitVec.ofNat 32 (1 + r) + 1#32 = BitVec.ofNat 32 (1 + (r + 1)) := by rw [show 1 + (r + 1) = 1 + r + 1 by omega, BitVec.ofNat_add (1 + r)]
      rw [hb2]
      (refine top_in ?_; simp -implicitDefEqProofs only [go_sem, -List.reduceReplicate, ↓L_gdZ_tt, ↓L_gdZ_tf, ↓L_gdZ_ft, ↓L_gdZ_ff, ↓T_and, ↓T_imp, ↓T_all, hpl, hel, hxl]; try simp only [top_out])
      repeat (with_reducible refine And.intro (by omega) ?_)
      generalize hxx : xorL (pad16 re) (E (ctrL nonce (BitVec.ofNat 32 (2 + r)))) = xx at hxl hst
      have htl : (xx.take q).length = q := by rw [List.length_take]; omega
      have htk : ((cryL E nonce text).take (16 * r)).length = 16 * r := by rw [List.length_take]; omega
      refine app8 M.length ((cryL E nonce text).take (16 * r)) z (xx.take q) ty rfl rfl rfl (by rw [get_app0]; rfl) htk.symm (by rw [htk]) ?_ (by omega) ?_
      · have := (BAt.row (M := M ++ [.row (bS ((cryL E nonce text).take (16 * r) ++ z)) ty, .row [.p m 0] 109, .row [.sl nn no 12 nc] 22, .row [.u32 (BitVec.ofNat 32 (1 + (r + 1)))] 98, .row (bS xx) 113]) (n := M.length + 4) (l := xx.take q) (z := xx.drop q) (ty := 113) (by rw [get_app, List.take_append_drop]; rfl)).src (cap := 16)
        rw [htl] at this
        exact this
      intro z' ty'
      rw [hst, htl, htk]
      (refine top_in ?_; simp -implicitDefEqProofs only [go_sem, -List.reduceReplicate, ↓L_gdZ_tt, ↓L_gdZ_tf, ↓L_gdZ_ft, ↓L_gdZ_ff, ↓T_and, ↓T_imp, ↓T_all]; try simp only [top_out])
      have hsub : text.length - (16 * r + q) = text.length - 16 * r - q := by omega
      repeat (with_reducible refine And.intro (by omega) ?_)
      have hdr : text.drop (16 * r + q) = re.drop q := by rw [← hre, List.drop_drop]
      have hq' : 16 * r + q = 16 * (r + 1) ∨ 16 * r + q = text.length := by omega
      have hb' := hb.adv (c := c) (q := q) (by omega) (by omega)
      generalize (if c = q then o else o + q) = o' at hb'
      refine covF_gc hM [some 5, some 1, some 2, some 3] [none, none, some (.sl nt o' (text.length - 16 * r - q) (c - q)), none, none, none, none, some (.sl M.length 0 (16 * r + q) (16 * r + (q + z'.length))), some (.fn (.func 171) [] [.p (M.length + 3) 0, .p (M.length + 1) 0, .p (M.length + 2) 0]), none, none, none, none, none, none, none, none, none, none, none, none, none, none, none, none, none, none, none, none, none, none, none, none, none, none, none]
        [.row (bS ((cryL E nonce text).take (16 * r + q) ++ z')) ty', .row [.p m 0] 109, .row [.sl nn no 12 nc] 22, .row [.u32 (BitVec.ofNat 32 (1 + (r + 1)))] 98] rfl ⟨keep8 rfl, keepP hm rfl, keepSl hn.lt rfl, keep32 rfl, trivial⟩ ?_ ?_ ?_
        (fun ts' h => ⟨n - q, by omega, r + 1, 16 * r + q, o', c - q, z', ty', by omega, hq', by rw [hdr]; exact hb', by omega, by rw [hsub, Nat.add_assoc]; exact h, rfl⟩)
      · have := hn.lt
        simp only [List.all_cons, List.all_nil, lt_row, Bool.and_true, Bool.true_and, Blk.lt, Int.natCast_add, cast_lit, Nat.add_assoc, rnSl_n, frRn_nil, frRn_s, frRn_n, frLt_nil, frLt_s, frLt_n, rn_i, rn_u8, rn_u32, rn_u64, rn_b, rn_str, rn_sn, rn_pn, rn_agg, rn_tup, rnL_nil, rnL_cons, rn_bS, rn_nil, rn_sl_at, rn_sl_at0, rn_p_at, rn_p_at0, rnSl_s, rnP_s, lt_i, lt_u8, lt_u32, lt_u64, lt_b, lt_sl, lt_p, lt_agg, lt_tup, ltL_nil', ltL_cons, bS_lt, List.getElem?_cons_succ, List.getElem?_cons_zero, Option.join_some, Nat.add_zero, Nat.zero_add, implies_true, and_self, and_true, true_and, Bool.and_true, Bool.true_and, Bool.and_self, List.length_cons, List.length_nil, List.length_append, decide_eq_true_eq, Bool.and_eq_true]; omega
      · simp only [Int.natCast_add, cast_lit, Nat.add_assoc, rnSl_n, frRn_nil, frRn_s, frRn_n, frLt_nil, frLt_s, frLt_n, rn_i, rn_u8, rn_u32, rn_u64, rn_b, rn_str, rn_sn, rn_pn, rn_agg, rn_tup, rnL_nil, rnL_cons, rn_bS, rn_nil, rn_sl_at, rn_sl_at0, rn_p_at, rn_p_at0, rnSl_s, rnP_s, lt_i, lt_u8, lt_u32, lt_u64, lt_b, lt_sl, lt_p, lt_agg, lt_tup, ltL_nil', ltL_cons, bS_lt, List.getElem?_cons_succ, List.getElem?_cons_zero, Option.join_some, Nat.add_zero, Nat.zero_add, implies_true, and_self, and_true, true_and, Bool.and_true, Bool.true_and, Bool.and_self, List.length_cons, List.length_nil, List.length_append, decide_eq_true_eq, Bool.and_eq_true, rn_fn, rn_sl ht.lt]
      · have := ht.lt
        simp only [Int.natCast_add, cast_lit, Nat.add_assoc, rnSl_n, frRn_nil, frRn_s, frRn_n, frLt_nil, frLt_s, frLt_n, rn_i, rn_u8, rn_u32, rn_u64, rn_b, rn_str, rn_sn, rn_pn, rn_agg, rn_tup, rnL_nil, rnL_cons, rn_bS, rn_nil, rn_sl_at, rn_sl_at0, rn_p_at, rn_p_at0, rnSl_s, rnP_s, lt_i, lt_u8, lt_u32, lt_u64, lt_b, lt_sl, lt_p, lt_agg, lt_tup, ltL_nil', ltL_cons, bS_lt, List.getElem?_cons_succ, List.getElem?_cons_zero, Option.join_some, Nat.add_zero, Nat.zero_add, implies_true, and_self, and_true, true_and, Bool.and_true, Bool.true_and, Bool.and_self, List.length_cons, List.length_nil, List.length_append, decide_eq_true_eq, Bool.and_eq_true, lt_fn]
        omega
    · obtain rfl : k = text.length := by omega
      have hp : (0 < ((text.length - text.length : Nat) : Int)) = False := by simp
      obtain ⟨f, rfl⟩ := frC_open _ _ 0 hf
      clear hf
      (refine top_in ?_; simp -implicitDefEqProofs only [go_sem, -List.reduceReplicate, ↓L_gdZ_tt, ↓L_gdZ_tf, ↓L_gdZ_ft, ↓L_gdZ_ff, ↓T_and, ↓T_imp, ↓T_all, hp]; try simp only [top_out])
      rw [List.take_of_length_le (by omega)]
      refine dropC_gc (L := [.row (bS (cryL E nonce text ++ z)) ty, .row [.p m 0] 109, .row [.sl nn no 12 nc] 22, .row [.u32 (BitVec.ofNat 32 (1 + r))] 98]) hM [some 0] (.sl M.length 0 text.length (text.length + z.length)) [.row (bS (cryL E nonce text ++ z)) ty] rfl ⟨keep8 rfl, trivial⟩ (by simp [lt_row]) (by simp [SV.lt]) (fun ρ => ?_) (hK z ty)
      simp only [rn_sl_at0, List.getElem?_cons_zero, Option.join_some, rnSl_s, Nat.add_zero]
def foldN (h y b : List (BitVec 8)) : Nat → List (BitVec 8)
  | 0 => y
  | r + 1 => mulL (xorL (foldN h y b r) (pad16 (b.drop (16 * r)))) h
theorem mulL_len' (x y : List (BitVec 8)) : (mulL x y).length = 16 := gl_len
theorem foldN_len {h y b : List (BitVec 8)} (hy : y.length = 16) : ∀ r, (foldN h y b r).length = 16
  | 0 => hy
  | _ + 1 => mulL_len' _ _
def foldL (h y b : List (BitVec 8)) : List (BitVec 8) := foldN h y b ((b.length + 15) / 16)
theorem foldL_len {h y b : List (BitVec 8)} (hy : y.length = 16) : (foldL h y b).length = 16 := foldN_len hy _
theorem fold_ok (y h b : List (BitVec 8)) (n ob len cb : Nat) (M : List Blk) (K : SV → List Blk → Prop) (hy : y.length = 16) (hh : h.length = 16) (hb : BAt M n ob b) (hlen : len = b.length) (hcap : len ≤ cb) (hmax : len ≤ 140737488355000)
    (hK : K (.agg (bS (foldL h y b))) M) : callVC Tryz.prog 118 [.agg (bS y), .agg (bS h), .sl n ob len cb] M K := by
  subst hlen
  refine fn_rule tabOK Tryz.func118 rfl Tryz.call118 (by kernel_rfl) (fun hM => ?_)
  (refine top_in ?_; simp -implicitDefEqProofs only [Tryz.ntmps118, Tryz.results118, go_sem, -List.reduceReplicate, ↓L_gdZ_tt, ↓L_gdZ_tf, ↓L_gdZ_ft, ↓L_gdZ_ff, ↓T_and, ↓T_imp, ↓T_all, hy, hh]; try simp only [top_out])
  refine loop_gc tabOK (by kernel_rfl) (fun i ts M' => ∃ (r k o c : Nat), k + i = b.length ∧ (k = 16 * r ∨ k = b.length) ∧ r = (k + 15) / 16 ∧ BAt M n o (b.drop k) ∧ b.length - k ≤ c ∧
      frC [none, none, some (.sl n o (b.length - k) c), some (.p M.length 0), some (.p (M.length + 1) 0), none, some (.p (M.length + 2) 0), none, none, none, none, none, none, none, none, none, none, none, none, none, none, none, none, none] ts ∧
      M' = M ++ [.row (bS (foldN h y b r)) 113, .row (bS h) 113, .row (bS (List.replicate 16 0#8)) 113]) b.length ?_ ?_
  · exact covF_self ⟨0, 0, ob, cb, by omega, .inl rfl, rfl, hb, by omega, by simp [frC], rfl⟩
  · rintro i ts _ ⟨r, k, o, c, hk, hr, hrk, hbk, hc, hf, rfl⟩
    have hfl := foldN_len (h := h) (b := b) hy r
    by_cases hlt : k < b.length
    · obtain rfl : k = 16 * r := by omega
      have hp : (0 < ((b.length - 16 * r : Nat) : Int)) = True := by simp; omega
      have hnx : foldN h y b (r + 1) = mulL (xorL (foldN h y b r) (pad16 (b.drop (16 * r)))) h := rfl
      generalize hfy : foldN h y b r = fy at hfl hnx
      obtain ⟨f, rfl⟩ := frC_open _ _ 0 hf
      clear hf
      (refine top_in ?_; simp -implicitDefEqProofs only [go_sem, -List.reduceReplicate, ↓L_gdZ_tt, ↓L_gdZ_tf, ↓L_gdZ_ft, ↓L_gdZ_ff, ↓T_and, ↓T_imp, ↓T_all, hp, hfl, hh]; try simp only [top_out])
      have hdl : (b.drop (16 * r)).length = b.length - 16 * r := List.length_drop
      generalize hq : min (b.length - 16 * r) 16 = q
      generalize hre : b.drop (16 * r) = re at hdl hbk hnx
      have hs := hbk.app (L := [.row (bS fy) 113, .row (bS h) 113, .row (bS (List.replicate 16 0#8)) 113, .row (bS (List.replicate 16 0#8)) 113]) |>.src (cap := c)
      rw [hdl] at hs
      refine copy8 (M.length + 3) 0 (List.replicate 16 0#8) re 113 rfl (by rw [get_app]; rfl) (by simp) hs ?_
      rw [pad16_copy, show Nat.min re.length 16 = q by rw [hdl]; exact hq]
      have hpl := pad16_len re
      (refine top_in ?_; simp -implicitDefEqProofs only [go_sem, -List.reduceReplicate, ↓L_gdZ_tt, ↓L_gdZ_tf, ↓L_gdZ_ft, ↓L_gdZ_ff, ↓T_and, ↓T_imp, ↓T_all, hpl, hfl, hh]; try simp only [top_out])
      refine draw_rule tabOK (by kernel_rfl : _) (.p 0 (.p 1 (.p 3 (.e 2 [3] (.e 4 [] (.e 5 [] .nil .no) .no) .no)))) (by kernel_rfl) (by kernel_rfl) ?_
      (refine top_in ?_; simp -implicitDefEqProofs only [go_sem, -List.reduceReplicate, ↓L_gdZ_tt, ↓L_gdZ_tf, ↓L_gdZ_ft, ↓L_gdZ_ff, ↓T_and, ↓T_imp, ↓T_all, hpl, hfl, hh]; try simp only [top_out])
      refine xor_ok _ _ hfl hpl _ _ ?_
      have hxl := xorL_len fy (pad16 re)
      (refine top_in ?_; simp -implicitDefEqProofs only [go_sem, -List.reduceReplicate, ↓L_gdZ_tt, ↓L_gdZ_tf, ↓L_gdZ_ft, ↓L_gdZ_ff, ↓T_and, ↓T_imp, ↓T_all, hpl, hfl, hh, hxl]; try simp only [top_out])
      refine mul128_ok _ _ hxl hh _ _ ?_
      rw [← hnx]
      have hnl := foldN_len (h := h) (b := b) hy (r + 1)
      (refine top_in ?_; simp -implicitDefEqProofs only [go_sem, -List.reduceReplicate, ↓L_gdZ_tt, ↓L_gdZ_tf, ↓L_gdZ_ft, ↓L_gdZ_ff, ↓T_and, ↓T_imp, ↓T_all, hpl, hfl, hh, hxl, hnl]; try simp only [top_out])
      repeat (with_reducible refine And.intro (by omega) ?_)
      have hdr : b.drop (16 * r + q) = re.drop q := by rw [← hre, List.drop_drop]
      have hq' : 16 * r + q = 16 * (r + 1) ∨ 16 * r + q = b.length := by omega
      have hsub : b.length - (16 * r + q) = b.length - 16 * r - q := by omega
      have hb' := hbk.adv (c := c) (q := q) (by omega) (by omega)
      generalize (if c = q then o else o + q) = o' at hb'
      refine covF_gc hM [some 0, some 1, some 2] [none, none, some (.sl n o' (b.length - 16 * r - q) (c - q)), some (.p M.length 0), some (.p (M.length + 1) 0), none, some (.p (M.length + 2) 0), none, none, none, none, none, none, none, none, none, none, none, none, none, none, none, none, none]
        [.row (bS (foldN h y b (r + 1))) 113, .row (bS h) 113, .row (bS (List.replicate 16 0#8)) 113] rfl ⟨keep8 rfl, keep8 rfl, keep8 rfl, trivial⟩ (by simp [lt_row]) ?_ ?_
        (fun ts' h => ⟨i - q, by omega, r + 1, 16 * r + q, o', c - q, by omega, hq', by omega, by rw [hdr]; exact hb', by omega, by rw [hsub]; exact h, rfl⟩)
      · simp only [Int.natCast_add, cast_lit, Nat.add_assoc, rnSl_n, frRn_nil, frRn_s, frRn_n, frLt_nil, frLt_s, frLt_n, rn_i, rn_u8, rn_u32, rn_u64, rn_b, rn_str, rn_sn, rn_pn, rn_agg, rn_tup, rnL_nil, rnL_cons, rn_bS, rn_nil, rn_sl_at, rn_sl_at0, rn_p_at, rn_p_at0, rnSl_s, rnP_s, lt_i, lt_u8, lt_u32, lt_u64, lt_b, lt_sl, lt_p, lt_agg, lt_tup, ltL_nil', ltL_cons, bS_lt, List.getElem?_cons_succ, List.getElem?_cons_zero, Option.join_some, Nat.add_zero, Nat.zero_add, implies_true, and_self, and_true, true_and, Bool.and_true, Bool.true_and, Bool.and_self, List.length_cons, List.length_nil, List.length_append, decide_eq_true_eq, Bool.and_eq_true, rn_sl hb.lt]
      · have := hb.lt
        simp only [Int.natCast_add, cast_lit, Nat.add_assoc, rnSl_n, frRn_nil, frRn_s, frRn_n, frLt_nil, frLt_s, frLt_n, rn_i, rn_u8, rn_u32, rn_u64, rn_b, rn_str, rn_sn, rn_pn, rn_agg, rn_tup, rnL_nil, rnL_cons, rn_bS, rn_nil, rn_sl_at, rn_sl_at0, rn_p_at, rn_p_at0, rnSl_s, rnP_s, lt_i, lt_u8, lt_u32, lt_u64, lt_b, lt_sl, lt_p, lt_agg, lt_tup, ltL_nil', ltL_cons, bS_lt, List.getElem?_cons_succ, List.getElem?_cons_zero, Option.join_some, Nat.add_zero, Nat.zero_add, implies_true, and_self, and_true, true_and, Bool.and_true, Bool.true_and, Bool.and_self, List.length_cons, List.length_nil, List.length_append, decide_eq_true_eq, Bool.and_eq_true]; omega
    · obtain rfl : k = b.length := by omega
      have hp : (0 < ((b.length - b.length : Nat) : Int)) = False := by simp
      obtain ⟨f, rfl⟩ := frC_open _ _ 0 hf
      clear hf
      (refine top_in ?_; simp -implicitDefEqProofs only [go_sem, -List.reduceReplicate, ↓L_gdZ_tt, ↓L_gdZ_tf, ↓L_gdZ_ft, ↓L_gdZ_ff, ↓T_and, ↓T_imp, ↓T_all, hp, hfl]; try simp only [top_out])
      refine dropC_append hM (bS_lt _ _) ?_
      rw [hrk]
      exact hK
end Go.Proofs.YtdkdbeamimkljaaGreatDoor.Eng
