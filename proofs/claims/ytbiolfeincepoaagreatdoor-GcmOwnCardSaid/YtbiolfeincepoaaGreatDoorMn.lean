/- Joined texts: H3, H4. -/
import Derived.Test.YtbiolfeincepoaaGreatDoorMi
import Derived.Test.YtbiolfeincepoaaGreatDoorMm
namespace Go.Proofs.YtbiolfeincepoaaGreatDoor.Eng
set_option linter.unusedSimpArgs false
set_option linter.unusedVariables false
open Go Go.RowKit
set_option maxHeartbeats 1000000 in
set_option maxRecDepth 20000 in
theorem refseal_e (nk ok ck nn no nc : Nat) (key nonce : List (BitVec 8)) (M : List Blk) (K : SV → List Blk → Prop) (hk : BAt M nk ok key) (k32 : key.length = 32) (hck : 32 ≤ ck) (hn : BAt M nn no nonce) (n12 : nonce.length = 12) (e : SV) (hle : ∀ {M' : List Blk} {e' a' b' : Nat} {K : SV → Prop}, lenB (.slice e' a' b') M' e K = K (.i .i64 0)) (heo : e.one = true) (het : e.lt M.length = true)
    (hK : ∀ M' y, OwnB M' y (sealL key nonce [] []) → NmG (fun n => M.length ≤ n) y → Ag (fun _ => False) M M' → K (.tup [y, .i .i64 0]) M') :
    callVC Tryz.prog 13 [.sl nk ok key.length ck, .sl nn no 12 nc, e, e] M K := by
  have b1 : ((key.length : Int) != 32) = false := by rw [k32]; rfl
  have b2 : ((12 : Int) != 12) = false := rfl
  refine fn_rule tabOK Tryz.func13 rfl Tryz.call13 (by kernel_rfl) (fun hM => ?_)
  (refine top_in ?_; simp -implicitDefEqProofs only [Tryz.ntmps13, Tryz.results13, go_sem, -List.reduceReplicate, ↓L_gdZ_tt, ↓L_gdZ_tf, ↓L_gdZ_ft, ↓L_gdZ_ff, ↓T_and, ↓T_imp, ↓T_all, b1, b2, heo, hle]; try simp only [top_out])
  refine refnew_ok nk ok ck key _ _ hk (by omega) (by omega) (fun _ => ?_) (fun h => absurd k32 h)
  (refine top_in ?_; simp -implicitDefEqProofs only [go_sem, -List.reduceReplicate, ↓L_gdZ_tt, ↓L_gdZ_tf, ↓L_gdZ_ft, ↓L_gdZ_ff, ↓T_and, ↓T_imp, ↓T_all, q00, heo, hle]; try simp only [top_out])
  have hcl : (cryL (encE key) nonce []).length = 0 := cryL_len (encE key) nonce []
  have htl := tagL_len (encE key) nonce [] (cryL (encE key) nonce [])
  refine streamed_e M.length nn no nc (ciphR key) nonce _ _ e (@hle) heo ?_
  intro z ty
  rw [encE_ref]
  (refine top_in ?_; simp -implicitDefEqProofs only [go_sem, -List.reduceReplicate, ↓L_gdZ_tt, ↓L_gdZ_tf, ↓L_gdZ_ft, ↓L_gdZ_ff, ↓T_and, ↓T_imp, ↓T_all, heo, hle]; try simp only [top_out])
  refine reftag_g e M.length nn no nc (M.length + 1) 0 0 _ (ciphR key) nonce [] (cryL (encE key) nonce []) 93 _ _ (by rw [get_app0]; rfl) (ciphR_len k32) ciphR_two hn.app n12 (@hle) heo (lt_mono (by simp) e het) (by simp) (fun y h L K hy hh hK => folded_e y h _ K e (@hle) heo hy hh hK) (BAt.row (z := z) (ty := ty) (by rw [get_app]; rfl)) hcl.symm (by omega) ?_
  rw [encE_ref]
  have hse : cryL (encE key) nonce [] ++ tagL (encE key) nonce [] (cryL (encE key) nonce []) = sealL key nonce [] [] := rfl
  have hc0 : cryL (encE key) nonce [] = [] := List.length_eq_zero_iff.1 hcl
  generalize tagL (encE key) nonce [] (cryL (encE key) nonce []) = tg at htl hse
  rw [hc0] at hse ⊢
  rw [List.nil_append] at hse
  rw [← hse] at hK
  (refine top_in ?_; simp -implicitDefEqProofs only [go_sem, -List.reduceReplicate, ↓L_gdZ_tt, ↓L_gdZ_tf, ↓L_gdZ_ft, ↓L_gdZ_ff, ↓T_and, ↓T_imp, ↓T_all, htl, heo, hle]; try simp only [top_out])
  refine loop_code tabOK (by kernel_rfl) (fun i ts M' => ∃ (k nt : Nat) (y : SV), k + i = 16 ∧ OwnB M' y (tg.take k) ∧ NmG (fun n => M.length ≤ n ∧ n ≠ nt) y ∧ M.length ≤ nt ∧ M'[nt]? = some (.row (bS tg) 61) ∧ Ag (fun _ => False) M M' ∧ frC [none, none, none, none, none, none, none, none, none, none, none, none, some (y), some (.p nt 0), some (.i .i64 k), none, none, none, none, none, none, none, none, none, none, none, none, none, none, none, none, none, none, none, none, none, none, none, none, none, none, none, none, none, none, none, none, none, none, none, none, none, none, none] ts) 16 ?_ ?_
  · refine ⟨0, M.length + 2, .sl (M.length + 1) 0 0 (0 + z.length), by omega, ⟨by simp, .inr ⟨M.length + 1, z, ty, rfl, by rw [get_app]; rfl⟩⟩, fun d hd => by cases hd; exact ⟨by omega, by omega⟩, by omega, by rw [get_app]; rfl, Ag.app, by simp [frC]⟩
  · rintro i ts M1 ⟨k, nt, y, hki, hy, hyn, hnt, hr, hA, hf⟩
    have oy := hy.one
    have hm := hA.1
    have hltg : (tg.take k).length = k := by rw [List.length_take]; omega
    obtain ⟨f, rfl⟩ := frC_open _ _ 0 hf
    clear hf
    (refine top_in ?_; simp -implicitDefEqProofs only [go_sem, -List.reduceReplicate, ↓L_gdZ_tt, ↓L_gdZ_tf, ↓L_gdZ_ft, ↓L_gdZ_ff, ↓T_and, ↓T_imp, ↓T_all, oy]; try simp only [top_out])
    refine ⟨fun e1 => ?_, fun e1 => ?_⟩
    · have hb : BAt M1 nt 0 tg := BAt.row (z := []) (by rw [List.append_nil]; exact hr)
      have g1 := hb.is8 (j := k) (by omega)
      have g2 := hb.cell8 (j := k) (by omega)
      have g3 := hb.le (j := k + 1) (by omega)
      simp only [Nat.zero_add] at g1 g2 g3
      (refine top_in ?_; simp -implicitDefEqProofs only [go_sem, -List.reduceReplicate, ↓L_gdZ_tt, ↓L_gdZ_tf, ↓L_gdZ_ft, ↓L_gdZ_ff, ↓T_and, ↓T_imp, ↓T_all, oy, g1, g2]; try simp only [top_out])
      repeat (with_reducible refine And.intro (by omega) ?_)
      refine appO rfl rfl rfl hy.app (src_u8 (by rw [get_app0]; rfl)) (by simp; omega) (fun M2 y2 ho hn2 A2 => ?_)
      rw [← take_snoc (by omega)] at ho
      have hm2 := A2.1
      rw [List.length_append, List.length_singleton] at hm2 hn2
      have hntl := (List.getElem?_eq_some_iff.1 hr).1
      (refine top_in ?_; simp -implicitDefEqProofs only [go_sem, -List.reduceReplicate, ↓L_gdZ_tt, ↓L_gdZ_tf, ↓L_gdZ_ft, ↓L_gdZ_ff, ↓T_and, ↓T_imp, ↓T_all, ho.one]; try simp only [top_out])
      refine ⟨i - 1, by omega, k + 1, nt, y2, by omega, ho, fun d hd => ?_, hnt, A2.get ((get_lt hntl).trans hr) (fun e => (hyn nt e).2 rfl), Ag.trans hA (S' := fun n => dnS y = some n) (Ag.app.then A2) (fun n hn h => by have := (hyn n h).1; omega), rfl, rfl, w64 (by omega) (by omega)⟩
      have g := hn2 d hd
      exact ⟨by omega, by omega⟩
    · obtain rfl : k = 16 := by omega
      rw [List.take_of_length_le (by omega)] at hy
      exact dropC_all hm (hK M1 y hy (hyn.mono (fun n h => h.1)) hA)
theorem seal_n (nk ok ck nn no nc : Nat) (key nonce : List (BitVec 8)) (l : List (BitVec 8)) (e : SV) (M : List Blk) (K : SV → List Blk → Prop) (hk : BAt M nk ok key) (k32 : key.length = 32) (hck : 32 ≤ ck) (hn : BAt M nn no nonce) (n12 : nonce.length = 12) (he : Byt M e l) (hcap : ∀ n off cap, e = .sl n off l.length cap → l.length ≤ cap) (hl : l.length ≤ 65536)
    (hK : ∀ M' y, OwnB M' y (sealL key nonce l l) → NmG (fun n => M.length ≤ n) y → Ag (fun _ => False) M M' → K (.tup [y, .i .i64 0]) M') :
    callVC Tryz.prog 6 [.sl nk ok key.length ck, .sl nn no 12 nc, e, e] M K ∧ callVC Tryz.prog 13 [.sl nk ok key.length ck, .sl nn no 12 nc, e, e] M K := by
  have hE := sealE_ok k32 n12 (ad := l) (text := l) hl hl
  have hU : sealU key nonce l l = sealL key nonce l l := by unfold sealU; rw [if_pos hE]
  have hS := sealL_len key nonce l l
  by_cases h0 : ∃ n off cap, e = .sl n off l.length cap ∧ BAt M n off l
  · obtain ⟨n, off, cap, rfl, hb⟩ := h0
    have hc := hcap n off cap rfl
    have hgo : ∀ z ty, K (.tup [.sl M.length 0 (sealU key nonce l l).length ((sealU key nonce l l).length + z.length), .i .i64 (sealE key nonce l l)]) (M ++ [.row (bS (sealU key nonce l l ++ z)) ty]) := fun z ty => by
      rw [hU, hE]
      exact hK _ _ ⟨by omega, .inr ⟨M.length, z, ty, rfl, by rw [get_app0]; rfl⟩⟩ (fun d hd => by cases hd; exact Nat.le_refl _) Ag.app
    exact ⟨seal_u nk ok key.length ck nn no 12 nc n off l.length cap n off l.length cap key nonce l l M K hk rfl (by omega) (by omega) hn n12.symm hb rfl hc hb rfl hc hgo, refseal_u nk ok key.length ck nn no 12 nc n off l.length cap n off l.length cap key nonce l l M K hk rfl (by omega) (by omega) hn n12.symm hb rfl hc hb rfl hc hgo⟩
  · have hnil : l = [] := by
      obtain ⟨_, ⟨_, h⟩ | ⟨_, _, h⟩ | ⟨n, off, cap, h1, h2, _⟩⟩ := he
      · exact h
      · exact h
      · exact absurd ⟨n, off, cap, h1, h2⟩ h0
    subst hnil
    have hle : ∀ {M' : List Blk} {e' a' b' : Nat} {K : SV → Prop}, lenB (.slice e' a' b') M' e K = K (.i .i64 0) := fun {M' e' a' b' K} => he.lenB
    refine ⟨seal_e nk ok ck nn no nc key nonce M K hk k32 hck hn n12 e hle he.one he.lt (fun z ty => ?_), refseal_e nk ok ck nn no nc key nonce M K hk k32 hck hn n12 e hle he.one he.lt hK⟩
    exact hK _ _ ⟨by omega, .inr ⟨M.length, z, ty, by rw [hS]; rfl, by rw [get_app0]; rfl⟩⟩ (fun d hd => by cases hd; exact Nat.le_refl _) Ag.app
def roomL (l : List (BitVec 8)) : List (BitVec 8) := l ++ stepL 47#8 11#8 40
theorem roomy_ok (x : SV) (l : List (BitVec 8)) (M : List Blk) (K : SV → List Blk → Prop) (h : Byt M x l) (hl : l.length ≤ 900000)
    (hK : ∀ M' y, OwnB M' y (roomL l) → NmG (fun n => M.length ≤ n) y → Ag (fun _ => False) M M' → K y M') :
    callVC Tryz.prog 5 [x] M K := by
  have o1 := h.one
  refine fn_rule tabOK Tryz.func5 rfl Tryz.call5 (by kernel_rfl) (fun hM => ?_)
  (refine top_in ?_; simp -implicitDefEqProofs only [Tryz.ntmps5, Tryz.results5, go_sem, -List.reduceReplicate, ↓L_gdZ_tt, ↓L_gdZ_tf, ↓L_gdZ_ft, ↓L_gdZ_ff, ↓T_and, ↓T_imp, ↓T_all, o1]; try simp only [top_out])
  refine bytes_own x l _ _ h (by omega) (fun M1 y1 ho1 n1 A1 => ?_)
  (refine top_in ?_; simp -implicitDefEqProofs only [go_sem, -List.reduceReplicate, ↓L_gdZ_tt, ↓L_gdZ_tf, ↓L_gdZ_ft, ↓L_gdZ_ff, ↓T_and, ↓T_imp, ↓T_all, ho1.one]; try simp only [top_out])
  have hsl := stepL_len 47#8 11#8 40
  refine steps_ok 47#8 11#8 40 (by decide) _ _ (fun z ty => ?_)
  (refine top_in ?_; simp -implicitDefEqProofs only [go_sem, -List.reduceReplicate, ↓L_gdZ_tt, ↓L_gdZ_tf, ↓L_gdZ_ft, ↓L_gdZ_ff, ↓T_and, ↓T_imp, ↓T_all, ho1.one]; try simp only [top_out])
  refine appO (w := stepL 47#8 11#8 40) rfl rfl rfl ho1.app (src_row (z := z) (ty := ty) (by rw [get_app0]; rfl) hsl.symm) (by omega) (fun M2 y2 ho2 n2 A2 => ?_)
  have hm1 := A1.1
  rw [List.length_append, List.length_singleton] at n2
  (refine top_in ?_; simp -implicitDefEqProofs only [go_sem, -List.reduceReplicate, ↓L_gdZ_tt, ↓L_gdZ_tf, ↓L_gdZ_ft, ↓L_gdZ_ff, ↓T_and, ↓T_imp, ↓T_all, ho2.one]; try simp only [top_out])
  have hA : Ag (fun _ => False) M M2 := Ag.trans A1 (S' := fun n => dnS y1 = some n) (Ag.app.then A2) (fun n hn h => by have := n1 n h; omega)
  exact dropC_all hA.1 (hK M2 y2 ho2 (fun d hd => by have := n2 d hd; omega) hA)
end Go.Proofs.YtbiolfeincepoaaGreatDoor.Eng
