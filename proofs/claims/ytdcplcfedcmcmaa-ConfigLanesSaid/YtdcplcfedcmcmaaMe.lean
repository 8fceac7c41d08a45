/- Joined texts: D5, D6, D7. -/
import Derived.Test.YtdcplcfedcmcmaaMc
import Derived.Test.YtdcplcfedcmcmaaMb
import Derived.Lib.Overlaps
/- Lists in the library: cloned, searched. -/
namespace Go.Proofs.Ytdcplcfedcmcmaa.Eng
open Go Go.RowKit
set_option linter.unusedSimpArgs false
set_option linter.unusedVariables false

set_option maxHeartbeats 1000000 in
theorem clonePr_ok (x : SV) (cs : List (List SV)) (M : List Blk) (K : SV → List Blk → Prop) (h : Lst M 3 x cs) (hl : cs.length ≤ 100000) (hK : ∀ M' y, Own M' 3 y cs → NmG (fun n => M.length ≤ n) y → Ag (fun _ => False) M M' → K y M') :
    callVC Try.prog 22 [x] M K := by
  have run : ∀ (x : SV) (cs : List (List SV)) (M : List Blk) (K : SV → List Blk → Prop), Lst M 3 x cs → cs.length ≤ 100000 → (∀ n off len cap, x = .sl n off len cap → liveN M n = true) → x ≠ .sn →
      (∀ M' y, Own M' 3 y cs → NmG (fun n => M.length ≤ n) y → Ag (fun _ => False) M M' → K y M') → callVC Try.prog 22 [x] M K := by
    intro x cs M K h hl hv hx hK
    have hsrc := fun L => (h.app (L := L)).src
    obtain ⟨h0, h1, ⟨rfl, rfl⟩ | ⟨a, rfl, rfl⟩ | ⟨n, cap, zz, rfl, h2, h3, ht⟩⟩ := h
    · exact absurd rfl hx
    · refine fn_rule tabOK Try.func22 rfl Try.call22 (by kernel_rfl) (fun hM => ?_)
      (refine top_in ?_; simp -implicitDefEqProofs only [Try.ntmps22, Try.results22, go_sem, -List.reduceReplicate, ↓L_gdZ_tt, ↓L_gdZ_tf, ↓L_gdZ_ft, ↓L_gdZ_ff, ↓T_and, ↓T_imp, ↓T_all]; try simp only [top_out])
      refine ⟨by decide, ?_⟩
      refine appK (k := 3) [] [] rfl (by decide) (by decide) (by decide) rfl rfl rfl ⟨by simp, by simp, .inr ⟨M.length, 0, [], _, rfl, by rw [get_app0]; rfl, rfl⟩⟩ (by simp) (hsrc _) (by simp) (fun M2 s2 o2 n2 A2 => ?_)
      (refine top_in ?_; simp -implicitDefEqProofs only [go_sem, -List.reduceReplicate, ↓L_gdZ_tt, ↓L_gdZ_tf, ↓L_gdZ_ft, ↓L_gdZ_ff, ↓T_and, ↓T_imp, ↓T_all]; try simp only [top_out])
      have m2 := A2.1
      simp only [List.length_append, List.length_cons, List.length_nil] at m2
      exact dropC_all (by omega) (hK M2 s2 o2 (n2.mono (fun n g => by simp at g; omega)) ((Ag.app.then A2).mono_lt (S := fun n => dnS (SV.sl M.length 0 0 0) = some n) (fun n h1 h2 => by cases h2; omega)))
    · have hv' := hv n 0 cs.length cap rfl
      refine fn_rule tabOK Try.func22 rfl Try.call22 (by kernel_rfl) (fun hM => ?_)
      (refine top_in ?_; simp -implicitDefEqProofs only [Try.ntmps22, Try.results22, go_sem, -List.reduceReplicate, ↓L_gdZ_tt, ↓L_gdZ_tf, ↓L_gdZ_ft, ↓L_gdZ_ff, ↓T_and, ↓T_imp, ↓T_all, hv']; try simp only [top_out])
      refine ⟨by decide, ?_⟩
      refine appK (k := 3) [] cs rfl (by decide) (by decide) (by decide) rfl rfl rfl ⟨by simp, by simp, .inr ⟨M.length, 0, [], _, rfl, by rw [get_app0]; rfl, rfl⟩⟩ h1 (hsrc _) (by simp; omega) (fun M2 s2 o2 n2 A2 => ?_)
      (refine top_in ?_; simp -implicitDefEqProofs only [go_sem, -List.reduceReplicate, ↓L_gdZ_tt, ↓L_gdZ_tf, ↓L_gdZ_ft, ↓L_gdZ_ff, ↓T_and, ↓T_imp, ↓T_all]; try simp only [top_out])
      have m2 := A2.1
      simp only [List.length_append, List.length_cons, List.length_nil] at m2
      exact dropC_all (by omega) (hK M2 s2 o2 (n2.mono (fun n g => by simp at g; omega)) ((Ag.app.then A2).mono_lt (S := fun n => dnS (SV.sl M.length 0 0 0) = some n) (fun n h1 h2 => by cases h2; omega)))
  have nil : ∀ (M : List Blk) (K : SV → List Blk → Prop), (∀ M' y, Own M' 3 y [] → NmG (fun n => M.length ≤ n) y → Ag (fun _ => False) M M' → K y M') → callVC Try.prog 22 [.sn] M K := by
    intro M K hK
    refine fn_rule tabOK Try.func22 rfl Try.call22 (by kernel_rfl) (fun hM => ?_)
    (refine top_in ?_; simp -implicitDefEqProofs only [Try.ntmps22, Try.results22, go_sem, -List.reduceReplicate, ↓L_gdZ_tt, ↓L_gdZ_tf, ↓L_gdZ_ft, ↓L_gdZ_ff, ↓T_and, ↓T_imp, ↓T_all]; try simp only [top_out])
    exact dropC_self hM rfl (hK M .sn Own.sn NmG.sn Ag.refl)
  have h' := h
  obtain ⟨h0, h1, ⟨rfl, rfl⟩ | ⟨a, rfl, rfl⟩ | ⟨n, cap, zz, rfl, h2, h3, ht⟩⟩ := h
  · exact nil M K hK
  · exact run _ _ M K h' hl (fun _ _ _ _ e => by cases e) (by simp) hK
  · rcases ht with ht | ⟨rfl, h0, ty, hB⟩
    · exact run _ _ M K h' hl (fun _ _ _ _ e => by cases e; exact ht) (by simp) hK
    · obtain rfl : cs = [] := List.length_eq_zero_iff.1 h0
      refine callVC_names (fun hM => ?_) Try.call22
      refine call_amb [] [] Try.call22 hB (nil M K hK) ?_
      refine run (.sl M.length 0 0 0) [] _ _ ⟨by simp, by simp, .inr (.inr ⟨M.length, 0, [], rfl, by simp, by simp [cellsAt], .inl (by simp [liveN])⟩)⟩ (by simp) (fun _ _ _ _ e => by cases e; simp [liveN]) (by simp) (fun M' y o n A => ?_)
      have hm := A.1
      simp only [List.length_append, List.length_cons, List.length_nil] at hm
      exact dropC_all (by omega) (hK M' y o (n.mono (fun n g => by simp at g; omega)) (Ag.app.then A))
set_option maxHeartbeats 1000000 in
theorem cloneLn_ok (x : SV) (cs : List (List SV)) (M : List Blk) (K : SV → List Blk → Prop) (h : Lst M 8 x cs) (hl : cs.length ≤ 100000) (hK : ∀ M' y, Own M' 8 y cs → NmG (fun n => M.length ≤ n) y → Ag (fun _ => False) M M' → K y M') :
    callVC Try.prog 23 [x] M K := by
  have run : ∀ (x : SV) (cs : List (List SV)) (M : List Blk) (K : SV → List Blk → Prop), Lst M 8 x cs → cs.length ≤ 100000 → (∀ n off len cap, x = .sl n off len cap → liveN M n = true) → x ≠ .sn →
      (∀ M' y, Own M' 8 y cs → NmG (fun n => M.length ≤ n) y → Ag (fun _ => False) M M' → K y M') → callVC Try.prog 23 [x] M K := by
    intro x cs M K h hl hv hx hK
    have hsrc := fun L => (h.app (L := L)).src
    obtain ⟨h0, h1, ⟨rfl, rfl⟩ | ⟨a, rfl, rfl⟩ | ⟨n, cap, zz, rfl, h2, h3, ht⟩⟩ := h
    · exact absurd rfl hx
    · refine fn_rule tabOK Try.func23 rfl Try.call23 (by kernel_rfl) (fun hM => ?_)
      (refine top_in ?_; simp -implicitDefEqProofs only [Try.ntmps23, Try.results23, go_sem, -List.reduceReplicate, ↓L_gdZ_tt, ↓L_gdZ_tf, ↓L_gdZ_ft, ↓L_gdZ_ff, ↓T_and, ↓T_imp, ↓T_all]; try simp only [top_out])
      refine ⟨by decide, ?_⟩
      refine appK (k := 8) [] [] rfl (by decide) (by decide) (by decide) rfl rfl rfl ⟨by simp, by simp, .inr ⟨M.length, 0, [], _, rfl, by rw [get_app0]; rfl, rfl⟩⟩ (by simp) (hsrc _) (by simp) (fun M2 s2 o2 n2 A2 => ?_)
      (refine top_in ?_; simp -implicitDefEqProofs only [go_sem, -List.reduceReplicate, ↓L_gdZ_tt, ↓L_gdZ_tf, ↓L_gdZ_ft, ↓L_gdZ_ff, ↓T_and, ↓T_imp, ↓T_all]; try simp only [top_out])
      have m2 := A2.1
      simp only [List.length_append, List.length_cons, List.length_nil] at m2
      exact dropC_all (by omega) (hK M2 s2 o2 (n2.mono (fun n g => by simp at g; omega)) ((Ag.app.then A2).mono_lt (S := fun n => dnS (SV.sl M.length 0 0 0) = some n) (fun n h1 h2 => by cases h2; omega)))
    · have hv' := hv n 0 cs.length cap rfl
      refine fn_rule tabOK Try.func23 rfl Try.call23 (by kernel_rfl) (fun hM => ?_)
      (refine top_in ?_; simp -implicitDefEqProofs only [Try.ntmps23, Try.results23, go_sem, -List.reduceReplicate, ↓L_gdZ_tt, ↓L_gdZ_tf, ↓L_gdZ_ft, ↓L_gdZ_ff, ↓T_and, ↓T_imp, ↓T_all, hv']; try simp only [top_out])
      refine ⟨by decide, ?_⟩
      refine appK (k := 8) [] cs rfl (by decide) (by decide) (by decide) rfl rfl rfl ⟨by simp, by simp, .inr ⟨M.length, 0, [], _, rfl, by rw [get_app0]; rfl, rfl⟩⟩ h1 (hsrc _) (by simp; omega) (fun M2 s2 o2 n2 A2 => ?_)
      (refine top_in ?_; simp -implicitDefEqProofs only [go_sem, -List.reduceReplicate, ↓L_gdZ_tt, ↓L_gdZ_tf, ↓L_gdZ_ft, ↓L_gdZ_ff, ↓T_and, ↓T_imp, ↓T_all]; try simp only [top_out])
      have m2 := A2.1
      simp only [List.length_append, List.length_cons, List.length_nil] at m2
      exact dropC_all (by omega) (hK M2 s2 o2 (n2.mono (fun n g => by simp at g; omega)) ((Ag.app.then A2).mono_lt (S := fun n => dnS (SV.sl M.length 0 0 0) = some n) (fun n h1 h2 => by cases h2; omega)))
  have nil : ∀ (M : List Blk) (K : SV → List Blk → Prop), (∀ M' y, Own M' 8 y [] → NmG (fun n => M.length ≤ n) y → Ag (fun _ => False) M M' → K y M') → callVC Try.prog 23 [.sn] M K := by
    intro M K hK
    refine fn_rule tabOK Try.func23 rfl Try.call23 (by kernel_rfl) (fun hM => ?_)
    (refine top_in ?_; simp -implicitDefEqProofs only [Try.ntmps23, Try.results23, go_sem, -List.reduceReplicate, ↓L_gdZ_tt, ↓L_gdZ_tf, ↓L_gdZ_ft, ↓L_gdZ_ff, ↓T_and, ↓T_imp, ↓T_all]; try simp only [top_out])
    exact dropC_self hM rfl (hK M .sn Own.sn NmG.sn Ag.refl)
  have h' := h
  obtain ⟨h0, h1, ⟨rfl, rfl⟩ | ⟨a, rfl, rfl⟩ | ⟨n, cap, zz, rfl, h2, h3, ht⟩⟩ := h
  · exact nil M K hK
  · exact run _ _ M K h' hl (fun _ _ _ _ e => by cases e) (by simp) hK
  · rcases ht with ht | ⟨rfl, h0, ty, hB⟩
    · exact run _ _ M K h' hl (fun _ _ _ _ e => by cases e; exact ht) (by simp) hK
    · obtain rfl : cs = [] := List.length_eq_zero_iff.1 h0
      refine callVC_names (fun hM => ?_) Try.call23
      refine call_amb [] [] Try.call23 hB (nil M K hK) ?_
      refine run (.sl M.length 0 0 0) [] _ _ ⟨by simp, by simp, .inr (.inr ⟨M.length, 0, [], rfl, by simp, by simp [cellsAt], .inl (by simp [liveN])⟩)⟩ (by simp) (fun _ _ _ _ e => by cases e; simp [liveN]) (by simp) (fun M' y o n A => ?_)
      have hm := A.1
      simp only [List.length_append, List.length_cons, List.length_nil] at hm
      exact dropC_all (by omega) (hK M' y o (n.mono (fun n g => by simp at g; omega)) (Ag.app.then A))
set_option maxHeartbeats 1000000 in
theorem clonePx_ok (x : SV) (cs : List (List SV)) (M : List Blk) (K : SV → List Blk → Prop) (h : Lst M 4 x cs) (hl : cs.length ≤ 100000) (hK : ∀ M' y, Own M' 4 y cs → NmG (fun n => M.length ≤ n) y → Ag (fun _ => False) M M' → K y M') :
    callVC Try.prog 25 [x] M K := by
  have run : ∀ (x : SV) (cs : List (List SV)) (M : List Blk) (K : SV → List Blk → Prop), Lst M 4 x cs → cs.length ≤ 100000 → (∀ n off len cap, x = .sl n off len cap → liveN M n = true) → x ≠ .sn →
      (∀ M' y, Own M' 4 y cs → NmG (fun n => M.length ≤ n) y → Ag (fun _ => False) M M' → K y M') → callVC Try.prog 25 [x] M K := by
    intro x cs M K h hl hv hx hK
    have hsrc := fun L => (h.app (L := L)).src
    obtain ⟨h0, h1, ⟨rfl, rfl⟩ | ⟨a, rfl, rfl⟩ | ⟨n, cap, zz, rfl, h2, h3, ht⟩⟩ := h
    · exact absurd rfl hx
    · refine fn_rule tabOK Try.func25 rfl Try.call25 (by kernel_rfl) (fun hM => ?_)
      (refine top_in ?_; simp -implicitDefEqProofs only [Try.ntmps25, Try.results25, go_sem, -List.reduceReplicate, ↓L_gdZ_tt, ↓L_gdZ_tf, ↓L_gdZ_ft, ↓L_gdZ_ff, ↓T_and, ↓T_imp, ↓T_all]; try simp only [top_out])
      refine ⟨by decide, ?_⟩
      refine appK (k := 4) [] [] rfl (by decide) (by decide) (by decide) rfl rfl rfl ⟨by simp, by simp, .inr ⟨M.length, 0, [], _, rfl, by rw [get_app0]; rfl, rfl⟩⟩ (by simp) (hsrc _) (by simp) (fun M2 s2 o2 n2 A2 => ?_)
      (refine top_in ?_; simp -implicitDefEqProofs only [go_sem, -List.reduceReplicate, ↓L_gdZ_tt, ↓L_gdZ_tf, ↓L_gdZ_ft, ↓L_gdZ_ff, ↓T_and, ↓T_imp, ↓T_all]; try simp only [top_out])
      have m2 := A2.1
      simp only [List.length_append, List.length_cons, List.length_nil] at m2
      exact dropC_all (by omega) (hK M2 s2 o2 (n2.mono (fun n g => by simp at g; omega)) ((Ag.app.then A2).mono_lt (S := fun n => dnS (SV.sl M.length 0 0 0) = some n) (fun n h1 h2 => by cases h2; omega)))
    · have hv' := hv n 0 cs.length cap rfl
      refine fn_rule tabOK Try.func25 rfl Try.call25 (by kernel_rfl) (fun hM => ?_)
      (refine top_in ?_; simp -implicitDefEqProofs only [Try.ntmps25, Try.results25, go_sem, -List.reduceReplicate, ↓L_gdZ_tt, ↓L_gdZ_tf, ↓L_gdZ_ft, ↓L_gdZ_ff, ↓T_and, ↓T_imp, ↓T_all, hv']; try simp only [top_out])
      refine ⟨by decide, ?_⟩
      refine appK (k := 4) [] cs rfl (by decide) (by decide) (by decide) rfl rfl rfl ⟨by simp, by simp, .inr ⟨M.length, 0, [], _, rfl, by rw [get_app0]; rfl, rfl⟩⟩ h1 (hsrc _) (by simp; omega) (fun M2 s2 o2 n2 A2 => ?_)
      (refine top_in ?_; simp -implicitDefEqProofs only [go_sem, -List.reduceReplicate, ↓L_gdZ_tt, ↓L_gdZ_tf, ↓L_gdZ_ft, ↓L_gdZ_ff, ↓T_and, ↓T_imp, ↓T_all]; try simp only [top_out])
      have m2 := A2.1
      simp only [List.length_append, List.length_cons, List.length_nil] at m2
      exact dropC_all (by omega) (hK M2 s2 o2 (n2.mono (fun n g => by simp at g; omega)) ((Ag.app.then A2).mono_lt (S := fun n => dnS (SV.sl M.length 0 0 0) = some n) (fun n h1 h2 => by cases h2; omega)))
  have nil : ∀ (M : List Blk) (K : SV → List Blk → Prop), (∀ M' y, Own M' 4 y [] → NmG (fun n => M.length ≤ n) y → Ag (fun _ => False) M M' → K y M') → callVC Try.prog 25 [.sn] M K := by
    intro M K hK
    refine fn_rule tabOK Try.func25 rfl Try.call25 (by kernel_rfl) (fun hM => ?_)
    (refine top_in ?_; simp -implicitDefEqProofs only [Try.ntmps25, Try.results25, go_sem, -List.reduceReplicate, ↓L_gdZ_tt, ↓L_gdZ_tf, ↓L_gdZ_ft, ↓L_gdZ_ff, ↓T_and, ↓T_imp, ↓T_all]; try simp only [top_out])
    exact dropC_self hM rfl (hK M .sn Own.sn NmG.sn Ag.refl)
  have h' := h
  obtain ⟨h0, h1, ⟨rfl, rfl⟩ | ⟨a, rfl, rfl⟩ | ⟨n, cap, zz, rfl, h2, h3, ht⟩⟩ := h
  · exact nil M K hK
  · exact run _ _ M K h' hl (fun _ _ _ _ e => by cases e) (by simp) hK
  · rcases ht with ht | ⟨rfl, h0, ty, hB⟩
    · exact run _ _ M K h' hl (fun _ _ _ _ e => by cases e; exact ht) (by simp) hK
    · obtain rfl : cs = [] := List.length_eq_zero_iff.1 h0
      refine callVC_names (fun hM => ?_) Try.call25
      refine call_amb [] [] Try.call25 hB (nil M K hK) ?_
      refine run (.sl M.length 0 0 0) [] _ _ ⟨by simp, by simp, .inr (.inr ⟨M.length, 0, [], rfl, by simp, by simp [cellsAt], .inl (by simp [liveN])⟩)⟩ (by simp) (fun _ _ _ _ e => by cases e; simp [liveN]) (by simp) (fun M' y o n A => ?_)
      have hm := A.1
      simp only [List.length_append, List.length_cons, List.length_nil] at hm
      exact dropC_all (by omega) (hK M' y o (n.mono (fun n g => by simp at g; omega)) (Ag.app.then A))
theorem mid_eq (i j : Nat) (h : i + j < 9223372036854775808) : IntKind.i64.wrap (((BitVec.ofInt 64 (IntKind.i64.wrap ((i : Int) + j))) >>> 1).toNat) = ((i + j) / 2 : Nat) := by
  rw [w64 (x := (i : Int) + j) (by omega) (by omega)]
  have e : (BitVec.ofInt 64 ((i : Int) + j)).toNat = i + j := by
    rw [BitVec.toNat_ofInt]
    have : ((i : Int) + j) % (2 ^ 64 : Nat) = (i : Int) + j := Int.emod_eq_of_lt (by omega) (by omega)
    rw [this]; omega
  rw [BitVec.toNat_ushiftRight, e]
  show IntKind.i64.wrap (((i + j) >>> 1 : Nat) : Int) = _
  rw [Nat.shiftRight_succ, Nat.shiftRight_zero]
  exact w64 (by omega) (by omega)
theorem cmpPr_ok (p : Pr × SV × SV) (G : Nat → Prop) (link : Int) (M : List Blk) (K : SV → List Blk → Prop) (h : PrE M G p) (hp : 0 ≤ p.1.link ∧ p.1.link ≤ 4294967295) (hl : 0 ≤ link ∧ link ≤ 4294967295) (hK : K (.i .i64 (p.1.link - link)) M) :
    callVC Try.prog 61 [.agg (prC p), .i .i64 link] M K := by
  obtain ⟨p, xk, xp⟩ := p
  have o1 := h.key.one
  have o2 := h.pfx.one
  simp only at o1 o2 hp hK
  unfold prC
  refine fn_rule tabOK Try.func61 rfl Try.call61 (by kernel_rfl) (fun hM => ?_)
  (refine top_in ?_; simp -implicitDefEqProofs only [Try.ntmps61, Try.results61, go_sem, -List.reduceReplicate, ↓L_gdZ_tt, ↓L_gdZ_tf, ↓L_gdZ_ft, ↓L_gdZ_ff, ↓T_and, ↓T_imp, ↓T_all, o1, o2]; try simp only [top_out])
  rw [w64 (by omega) (by omega)]
  exact dropC_append hM rfl hK
theorem bsPr_ok (x : SV) (G : Nat → Prop) (link : Int) (s : St) (M : List Blk) (K : SV → List Blk → Prop) (h : Prs M G x s.ps) (hs : s.Right) (hl : 0 ≤ link ∧ link ≤ 4294967295)
    (hK : ∀ i, AtP s link i → K (.tup [.i .i64 i, .b (s.peer link).isSome]) M) :
    callVC Try.prog 60 [x, .i .i64 link, .fn (.func 61) [] []] M K := by
  have la : ∀ {M' : List Blk} {e a' b' : Nat} {K : SV → Prop}, lenB (.slice e a' b') M' x K = K (.i .i64 s.ps.length) := h.lenB
  have hn := hs.np
  refine fn_rule tabOK Try.func60 rfl Try.call60 (by kernel_rfl) (fun hM => ?_)
  (refine top_in ?_; simp -implicitDefEqProofs only [Try.ntmps60, Try.results60, go_sem, -List.reduceReplicate, ↓L_gdZ_tt, ↓L_gdZ_tf, ↓L_gdZ_ft, ↓L_gdZ_ff, ↓T_and, ↓T_imp, ↓T_all, la]; try simp only [top_out])
  refine loop_code tabOK (by kernel_rfl) (fun m ts M' => ∃ (i j : Nat), j - i ≤ m ∧ i ≤ j ∧ j ≤ s.ps.length ∧ (∀ (a : Nat) p, a < i → s.ps[a]? = some p → p.link < link) ∧ (∀ (a : Nat) p, j ≤ a → s.ps[a]? = some p → link ≤ p.link) ∧ M' = M ∧ frC [some (x), some (.i .i64 link), some (.fn (.func 61) [] []), none, none, none, none, none, some (.i .i64 s.ps.length), some (.i .i64 i), some (.i .i64 j), none, none, none, none, none, none, none, none, none, none, none, none, none, none, none, none, none, none, none, none, none, none, none, none, none, none, none, none, none, none, none, none, none, none, none, none, none, none] ts) s.ps.length ?_ ?_
  · exact ⟨0, s.ps.length, by omega, by omega, by omega, fun a p h => by omega, fun a p h hp => by have := (List.getElem?_eq_some_iff.1 hp).1; omega, rfl, by simp [frC]⟩
  · rintro m ts _ ⟨i, j, hm, hij, hj, hlo, hhi, rfl, hf⟩
    obtain ⟨f, rfl⟩ := frC_open _ _ 0 hf
    clear hf
    (refine top_in ?_; simp -implicitDefEqProofs only [go_sem, -List.reduceReplicate, ↓L_gdZ_tt, ↓L_gdZ_tf, ↓L_gdZ_ft, ↓L_gdZ_ff, ↓T_and, ↓T_imp, ↓T_all, la]; try simp only [top_out])
    refine ⟨fun h1 => ?_, fun h1 => ?_⟩
    · have hmid := mid_eq i j (by omega)
      have hh : (i + j) / 2 < s.ps.length := by omega
      obtain ⟨nn, cap, e, rfl, l1, g1, g2, g3, g4, _⟩ := h.at hh
      have hlk := (hs.peer e.1 (List.mem_of_getElem? g1)).link
      (refine top_in ?_; simp -implicitDefEqProofs only [go_sem, -List.reduceReplicate, ↓L_gdZ_tt, ↓L_gdZ_tf, ↓L_gdZ_ft, ↓L_gdZ_ff, ↓T_and, ↓T_imp, ↓T_all, hmid, g3]; try simp only [top_out])
      refine ⟨by omega, by omega, by omega, by omega, ?_⟩
      refine cmpPr_ok e G link _ _ g2 (by omega) hl ?_
      (refine top_in ?_; simp -implicitDefEqProofs only [go_sem, -List.reduceReplicate, ↓L_gdZ_tt, ↓L_gdZ_tf, ↓L_gdZ_ft, ↓L_gdZ_ff, ↓T_and, ↓T_imp, ↓T_all]; try simp only [top_out])
      refine ⟨fun h2 => ⟨m - 1, by omega, (i + j) / 2 + 1, j, by omega, by omega, hj, fun a p ha hp => ?_, hhi, w64 (by omega) (by omega), rfl⟩, fun h2 => ⟨m - 1, by omega, i, (i + j) / 2, by omega, by omega, by omega, hlo, fun a p ha hp => ?_, rfl, rfl⟩⟩
      · rcases Nat.lt_or_ge a ((i + j) / 2) with g | g
        · have := pw_lb hs.pord hp g1 g; omega
        · obtain rfl : a = (i + j) / 2 := by omega
          rw [g1] at hp; cases hp; omega
      · rcases Nat.lt_or_ge ((i + j) / 2) a with g | g
        · have := pw_lb hs.pord g1 hp g; omega
        · obtain rfl : a = (i + j) / 2 := by omega
          rw [g1] at hp; cases hp; omega
    · obtain rfl : i = j := by omega
      have hat : AtP s link i := ⟨by omega, hlo, hhi⟩
      have hsome := hat.peer hs
      have hk := hK i hat
      refine ⟨fun h2 => ?_, fun h2 => ?_⟩
      · obtain ⟨nn, cap, e, rfl, l1, g1, g2, g3, g4, _⟩ := h.at (k := i) (by omega)
        have hlk := (hs.peer e.1 (List.mem_of_getElem? g1)).link
        (refine top_in ?_; simp -implicitDefEqProofs only [go_sem, -List.reduceReplicate, ↓L_gdZ_tt, ↓L_gdZ_tf, ↓L_gdZ_ft, ↓L_gdZ_ff, ↓T_and, ↓T_imp, ↓T_all, g3]; try simp only [top_out])
        refine ⟨by omega, by omega, by omega, by omega, ?_⟩
        refine cmpPr_ok e G link _ _ g2 (by omega) hl ?_
        (refine top_in ?_; simp -implicitDefEqProofs only [go_sem, -List.reduceReplicate, ↓L_gdZ_tt, ↓L_gdZ_tf, ↓L_gdZ_ft, ↓L_gdZ_ff, ↓T_and, ↓T_imp, ↓T_all]; try simp only [top_out])
        refine dropC_self hM rfl ?_
        have e1 : (s.peer link).isSome = (e.1.link - link == 0) := by
          rw [hsome]
          by_cases g : e.1.link = link
          · rw [decide_eq_true ⟨e.1, g1, g⟩]; simp; omega
          · rw [decide_eq_false (by rintro ⟨p, hp, hl⟩; rw [g1] at hp; cases hp; exact g hl)]
            have : e.1.link - link ≠ 0 := by omega
            simp [this]
        rw [e1] at hk
        exact hk
      · refine dropC_self hM rfl ?_
        have e1 : (s.peer link).isSome = false := by
          rw [hsome, decide_eq_false]
          rintro ⟨p, hp, _⟩
          have := (List.getElem?_eq_some_iff.1 hp).1
          omega
        rw [e1] at hk
        exact hk
end Go.Proofs.Ytdcplcfedcmcmaa.Eng

/- Lists in the library: searched by keys, by prefixes, by a function. -/
namespace Go.Proofs.Ytdcplcfedcmcmaa.Eng
open Go Go.RowKit
set_option linter.unusedSimpArgs false
set_option linter.unusedVariables false

theorem cmpLn_ok (p : Ln × SV) (G : Nat → Prop) (y : SV) (key : List (BitVec 8)) (M : List Blk) (K : SV → List Blk → Prop) (h : LnE M G p) (hy : Byt M y key) (hK : K (.i .i64 (cmpB p.1.key key)) M) :
    callVC Try.prog 85 [.agg (lnC p), y] M K := by
  obtain ⟨p, xk⟩ := p
  have o1 := h.key.one
  simp only at o1 hK
  unfold lnC
  refine fn_rule tabOK Try.func85 rfl Try.call85 (by kernel_rfl) (fun hM => ?_)
  (refine top_in ?_; simp -implicitDefEqProofs only [Try.ntmps85, Try.results85, go_sem, -List.reduceReplicate, ↓L_gdZ_tt, ↓L_gdZ_tf, ↓L_gdZ_ft, ↓L_gdZ_ff, ↓T_and, ↓T_imp, ↓T_all, o1]; try simp only [top_out])
  refine compare_byt _ _ _ _ _ _ h.key.app hy.app ?_
  (refine top_in ?_; simp -implicitDefEqProofs only [go_sem, -List.reduceReplicate, ↓L_gdZ_tt, ↓L_gdZ_tf, ↓L_gdZ_ft, ↓L_gdZ_ff, ↓T_and, ↓T_imp, ↓T_all]; try simp only [top_out])
  exact dropC_append hM rfl hK
set_option maxHeartbeats 1000000 in
theorem bsLn_ok (x : SV) (G : Nat → Prop) (y : SV) (key : List (BitVec 8)) (s : St) (M : List Blk) (K : SV → List Blk → Prop) (h : Lns M G x s.ls) (hs : s.Right) (hy : Byt M y key)
    (hK : ∀ i, AtL s key i → K (.tup [.i .i64 i, .b (s.lane key).isSome]) M) :
    callVC Try.prog 84 [x, y, .fn (.func 85) [] []] M K := by
  have la : ∀ {M' : List Blk} {e a' b' : Nat} {K : SV → Prop}, lenB (.slice e a' b') M' x K = K (.i .i64 s.ls.length) := h.lenB
  have hn := hs.nl
  refine fn_rule tabOK Try.func84 rfl Try.call84 (by kernel_rfl) (fun hM => ?_)
  (refine top_in ?_; simp -implicitDefEqProofs only [Try.ntmps84, Try.results84, go_sem, -List.reduceReplicate, ↓L_gdZ_tt, ↓L_gdZ_tf, ↓L_gdZ_ft, ↓L_gdZ_ff, ↓T_and, ↓T_imp, ↓T_all, la]; try simp only [top_out])
  refine loop_code tabOK (by kernel_rfl) (fun m ts M' => ∃ (i j : Nat), j - i ≤ m ∧ i ≤ j ∧ j ≤ s.ls.length ∧ (∀ (a : Nat) p, a < i → s.ls[a]? = some p → ltB p.key key = true) ∧ (∀ (a : Nat) p, j ≤ a → s.ls[a]? = some p → ltB p.key key = false) ∧ M' = M ∧ frC [some (x), some (y), some (.fn (.func 85) [] []), none, none, none, none, none, some (.i .i64 s.ls.length), some (.i .i64 i), some (.i .i64 j), none, none, none, none, none, none, none, none, none, none, none, none, none, none, none, none, none, none, none, none, none, none, none, none, none, none, none, none, none, none, none, none, none, none, none, none, none, none] ts) s.ls.length ?_ ?_
  · exact ⟨0, s.ls.length, by omega, by omega, by omega, fun a p h => by omega, fun a p h hp => by have := (List.getElem?_eq_some_iff.1 hp).1; omega, rfl, by simp [frC]⟩
  · rintro m ts _ ⟨i, j, hm, hij, hj, hlo, hhi, rfl, hf⟩
    obtain ⟨f, rfl⟩ := frC_open _ _ 0 hf
    clear hf
    (refine top_in ?_; simp -implicitDefEqProofs only [go_sem, -List.reduceReplicate, ↓L_gdZ_tt, ↓L_gdZ_tf, ↓L_gdZ_ft, ↓L_gdZ_ff, ↓T_and, ↓T_imp, ↓T_all, la]; try simp only [top_out])
    refine ⟨fun h1 => ?_, fun h1 => ?_⟩
    · have hmid := mid_eq i j (by omega)
      have hh : (i + j) / 2 < s.ls.length := by omega
      obtain ⟨nn, cap, e, rfl, l1, g1, g2, g3, g4, _⟩ := h.at hh
      (refine top_in ?_; simp -implicitDefEqProofs only [go_sem, -List.reduceReplicate, ↓L_gdZ_tt, ↓L_gdZ_tf, ↓L_gdZ_ft, ↓L_gdZ_ff, ↓T_and, ↓T_imp, ↓T_all, hmid, g3]; try simp only [top_out])
      refine ⟨by omega, by omega, by omega, by omega, ?_⟩
      refine cmpLn_ok e G y key _ _ g2 hy ?_
      (refine top_in ?_; simp -implicitDefEqProofs only [go_sem, -List.reduceReplicate, ↓L_gdZ_tt, ↓L_gdZ_tf, ↓L_gdZ_ft, ↓L_gdZ_ff, ↓T_and, ↓T_imp, ↓T_all]; try simp only [top_out])
      refine ⟨fun h2 => ⟨m - 1, by omega, (i + j) / 2 + 1, j, by omega, by omega, hj, fun a p ha hp => ?_, hhi, w64 (by omega) (by omega), rfl⟩, fun h2 => ⟨m - 1, by omega, i, (i + j) / 2, by omega, by omega, by omega, hlo, fun a p ha hp => ?_, rfl, rfl⟩⟩
      · rw [cmpB_lt] at h2
        rcases Nat.lt_or_ge a ((i + j) / 2) with g | g
        · exact ltB_trans (pw_lb hs.lord hp g1 g) h2
        · obtain rfl : a = (i + j) / 2 := by omega
          rw [g1] at hp; cases hp; exact h2
      · rw [cmpB_lt, Bool.not_eq_true] at h2
        rcases Nat.lt_or_ge ((i + j) / 2) a with g | g
        · cases e2 : ltB p.key key
          · rfl
          · have := ltB_trans (pw_lb hs.lord g1 hp g) e2
            rw [h2] at this; cases this
        · obtain rfl : a = (i + j) / 2 := by omega
          rw [g1] at hp; cases hp; exact h2
    · obtain rfl : i = j := by omega
      have hat : AtL s key i := ⟨by omega, hlo, hhi⟩
      have hsome := hat.lane hs
      have hk := hK i hat
      refine ⟨fun h2 => ?_, fun h2 => ?_⟩
      · obtain ⟨nn, cap, e, rfl, l1, g1, g2, g3, g4, _⟩ := h.at (k := i) (by omega)
        (refine top_in ?_; simp -implicitDefEqProofs only [go_sem, -List.reduceReplicate, ↓L_gdZ_tt, ↓L_gdZ_tf, ↓L_gdZ_ft, ↓L_gdZ_ff, ↓T_and, ↓T_imp, ↓T_all, g3]; try simp only [top_out])
        refine ⟨by omega, by omega, by omega, by omega, ?_⟩
        refine cmpLn_ok e G y key _ _ g2 hy ?_
        (refine top_in ?_; simp -implicitDefEqProofs only [go_sem, -List.reduceReplicate, ↓L_gdZ_tt, ↓L_gdZ_tf, ↓L_gdZ_ft, ↓L_gdZ_ff, ↓T_and, ↓T_imp, ↓T_all]; try simp only [top_out])
        refine dropC_self hM rfl ?_
        have e1 : (s.lane key).isSome = (cmpB e.1.key key == 0) := by
          rw [hsome]
          by_cases g : e.1.key = key
          · rw [decide_eq_true ⟨e.1, g1, g⟩, cmpB_eq.2 g]; rfl
          · rw [decide_eq_false (by rintro ⟨p, hp, hl⟩; rw [g1] at hp; cases hp; exact g hl)]
            have : cmpB e.1.key key ≠ 0 := fun h => g (cmpB_eq.1 h)
            simp [this]
        rw [e1] at hk
        exact hk
      · refine dropC_self hM rfl ?_
        have e1 : (s.lane key).isSome = false := by
          rw [hsome, decide_eq_false]
          rintro ⟨p, hp, _⟩
          have := (List.getElem?_eq_some_iff.1 hp).1
          omega
        rw [e1] at hk
        exact hk
set_option maxHeartbeats 1000000 in
theorem bsPx_ok (x : SV) (q : Pfx) (l : List Pfx) (M : List Blk) (K : SV → List Blk → Prop) (h : Pxs M x l) (hs : l.Pairwise ltP) (hn : l.length ≤ 1000)
    (hK : ∀ i b, AtX l q i → K (.tup [.i .i64 i, .b b]) M) :
    callVC Try.prog 32 [x, .agg (pxC q), .fn (.func 33) [] []] M K := by
  have la : ∀ {M' : List Blk} {e a' b' : Nat} {K : SV → Prop}, lenB (.slice e a' b') M' x K = K (.i .i64 l.length) := h.lenB
  have hq : pxC q = [.i .i64 q.fam, .u64 q.hi, .u64 q.lo, .i .i64 q.bits] := rfl
  rw [hq]
  refine fn_rule tabOK Try.func32 rfl Try.call32 (by kernel_rfl) (fun hM => ?_)
  (refine top_in ?_; simp -implicitDefEqProofs only [Try.ntmps32, Try.results32, go_sem, -List.reduceReplicate, ↓L_gdZ_tt, ↓L_gdZ_tf, ↓L_gdZ_ft, ↓L_gdZ_ff, ↓T_and, ↓T_imp, ↓T_all, la]; try simp only [top_out])
  refine loop_code tabOK (by kernel_rfl) (fun m ts M' => ∃ (i j : Nat), j - i ≤ m ∧ i ≤ j ∧ j ≤ l.length ∧ (∀ (a : Nat) (p : Pfx), a < i → l[a]? = some p → cmpP p q < 0) ∧ (∀ (a : Nat) (p : Pfx), j ≤ a → l[a]? = some p → ¬ cmpP p q < 0) ∧ M' = M ++ [.row (pxC q) 49] ∧ frC [some (x), none, some (.fn (.func 33) [] []), none, some (.p M.length 0), none, none, none, some (.i .i64 l.length), some (.i .i64 i), some (.i .i64 j), none, none, none, none, none, none, none, none, none, none, none, none, none, none, none, none, none, none, none, none, none, none, none, none, none, none, none, none, none, none, none, none, none, none, none, none, none, none] ts) l.length ?_ ?_
  · exact ⟨0, l.length, by omega, by omega, by omega, fun a p h => by omega, fun a p h hp => by have := (List.getElem?_eq_some_iff.1 hp).1; omega, rfl, by simp [frC]⟩
  · rintro m ts _ ⟨i, j, hm, hij, hj, hlo, hhi, rfl, hf⟩
    rw [hq]
    obtain ⟨f, rfl⟩ := frC_open _ _ 0 hf
    clear hf
    (refine top_in ?_; simp -implicitDefEqProofs only [go_sem, -List.reduceReplicate, ↓L_gdZ_tt, ↓L_gdZ_tf, ↓L_gdZ_ft, ↓L_gdZ_ff, ↓T_and, ↓T_imp, ↓T_all, la]; try simp only [top_out])
    refine ⟨fun h1 => ?_, fun h1 => ?_⟩
    · have hmid := mid_eq i j (by omega)
      have hh : (i + j) / 2 < l.length := by omega
      obtain ⟨nn, cap, e, rfl, l1, g1, g3, g4⟩ := Pxs.at h hh
      refine draw_rule tabOK (by kernel_rfl : _) (.p 0 (.p 1 (.p 2 (.p 3 (.p 4 (.p 5 (.e 6 [] (.p 7 .nil) .no))))))) (by kernel_rfl) (by kernel_rfl) ?_
      (refine top_in ?_; simp -implicitDefEqProofs only [go_sem, -List.reduceReplicate, ↓L_gdZ_tt, ↓L_gdZ_tf, ↓L_gdZ_ft, ↓L_gdZ_ff, ↓T_and, ↓T_imp, ↓T_all, hmid, get_lt l1, g3]; try simp only [top_out])
      refine ⟨by omega, by omega, by omega, by omega, ?_⟩
      refine pcmp_ok e q _ _ ?_
      (refine top_in ?_; simp -implicitDefEqProofs only [go_sem, -List.reduceReplicate, ↓L_gdZ_tt, ↓L_gdZ_tf, ↓L_gdZ_ft, ↓L_gdZ_ff, ↓T_and, ↓T_imp, ↓T_all]; try simp only [top_out])
      refine ⟨fun h2 => ⟨m - 1, by omega, (i + j) / 2 + 1, j, by omega, by omega, hj, fun a p ha hp => ?_, hhi, w64 (by omega) (by omega), rfl⟩, fun h2 => ⟨m - 1, by omega, i, (i + j) / 2, by omega, by omega, by omega, hlo, fun a p ha hp => ?_, rfl, rfl⟩⟩
      · rw [cmpP_lt] at h2 ⊢
        rcases Nat.lt_or_ge a ((i + j) / 2) with g | g
        · exact ltP_trans (pw_lb hs hp g1 g) h2
        · obtain rfl : a = (i + j) / 2 := by omega
          rw [g1] at hp; cases hp; exact h2
      · rw [cmpP_lt] at h2 ⊢
        rcases Nat.lt_or_ge ((i + j) / 2) a with g | g
        · exact fun e2 => h2 (ltP_trans (pw_lb hs g1 hp g) e2)
        · obtain rfl : a = (i + j) / 2 := by omega
          rw [g1] at hp; cases hp; exact h2
    · obtain rfl : i = j := by omega
      have hat : AtX l q i := ⟨by omega, hlo, hhi⟩
      refine draw_rule tabOK (by kernel_rfl : _) (.p 0 (.p 1 (.p 2 (.p 3 (.p 4 (.p 5 (.p 6 (.p 7 (.p 8 (.p 9 (.p 10 (.e 11 [] (.p 12 (.p 13 (.p 14 (.p 15 .nil)))) .no)))))))))))) (by kernel_rfl) (by kernel_rfl) ?_
      (refine top_in ?_; simp -implicitDefEqProofs only [go_sem, -List.reduceReplicate, ↓L_gdZ_tt, ↓L_gdZ_tf, ↓L_gdZ_ft, ↓L_gdZ_ff, ↓T_and, ↓T_imp, ↓T_all, la]; try simp only [top_out])
      refine ⟨fun h2 => ?_, fun h2 => ?_⟩
      · obtain ⟨nn, cap, e, rfl, l1, g1, g3, g4⟩ := Pxs.at (k := i) h (by omega)
        (refine top_in ?_; simp -implicitDefEqProofs only [go_sem, -List.reduceReplicate, ↓L_gdZ_tt, ↓L_gdZ_tf, ↓L_gdZ_ft, ↓L_gdZ_ff, ↓T_and, ↓T_imp, ↓T_all, get_lt l1, g3]; try simp only [top_out])
        refine ⟨by omega, by omega, by omega, by omega, ?_⟩
        refine pcmp_ok e q _ _ ?_
        (refine top_in ?_; simp -implicitDefEqProofs only [go_sem, -List.reduceReplicate, ↓L_gdZ_tt, ↓L_gdZ_tf, ↓L_gdZ_ft, ↓L_gdZ_ff, ↓T_and, ↓T_imp, ↓T_all]; try simp only [top_out])
        exact dropC_append hM rfl (hK i _ hat)
      · exact dropC_append hM rfl (hK i _ hat)
theorem eqL_px (p q : Pfx) : eqL (pxC p) (pxC q) = decide (p = q) := by
  have e := @pfx_eq p q
  simp only [pxC, eqL, eqS, Bool.and_true]
  by_cases h : p = q
  · subst h; simp
  · rw [decide_eq_false h, ← Bool.not_eq_true]
    simp only [Bool.and_eq_true, beq_iff_eq]
    exact fun g => h (e.2 ⟨⟨g.1, g.2.1, g.2.2.1⟩, g.2.2.2⟩)
set_option maxHeartbeats 1000000 in
theorem indexPx_ok (x : SV) (q : Pfx) (l : List Pfx) (M : List Blk) (K : SV → List Blk → Prop) (h : Pxs M x l) (hn : l.length ≤ 1000) (hK : K (.i .i64 (ixI (l.findIdx? fun p => decide (p = q)))) M) :
    callVC Try.prog 35 [x, .agg (pxC q)] M K := by
  have la : ∀ {M' : List Blk} {e a' b' : Nat} {K : SV → Prop}, lenB (.slice e a' b') M' x K = K (.i .i64 l.length) := h.lenB
  have hq : pxC q = [.i .i64 q.fam, .u64 q.hi, .u64 q.lo, .i .i64 q.bits] := rfl
  rw [hq]
  refine fn_rule tabOK Try.func35 rfl Try.call35 (by kernel_rfl) (fun hM => ?_)
  (refine top_in ?_; simp -implicitDefEqProofs only [Try.ntmps35, Try.results35, go_sem, -List.reduceReplicate, ↓L_gdZ_tt, ↓L_gdZ_tf, ↓L_gdZ_ft, ↓L_gdZ_ff, ↓T_and, ↓T_imp, ↓T_all, la]; try simp only [top_out])
  refine loop_code tabOK (by kernel_rfl) (fun m ts M' => ∃ i : Nat, i + m = l.length ∧ (∀ (j : Nat) b, j < i → l[j]? = some b → ¬ b = q) ∧ M' = M ++ [.row (pxC q) 49] ∧ frC [some (x), none, none, some (.p M.length 0), none, none, none, some (.i .i64 l.length), some (.i .i64 i), none, none, none, none, none, none, none, none, none, none] ts) l.length ?_ ?_
  · exact ⟨0, by omega, by simp, rfl, by simp [frC]⟩
  · rintro m ts _ ⟨i, hi, hno, rfl, hf⟩
    rw [hq]
    obtain ⟨f, rfl⟩ := frC_open _ _ 0 hf
    clear hf
    (refine top_in ?_; simp -implicitDefEqProofs only [go_sem, -List.reduceReplicate, ↓L_gdZ_tt, ↓L_gdZ_tf, ↓L_gdZ_ft, ↓L_gdZ_ff, ↓T_and, ↓T_imp, ↓T_all, la]; try simp only [top_out])
    refine ⟨fun h1 => ?_, fun h1 => ?_⟩
    · obtain ⟨nn, cap, e, rfl, l1, g1, g3, g4⟩ := Pxs.at (k := i) h (by omega)
      refine draw_rule tabOK (by kernel_rfl : _) (.p 0 (.p 1 (.p 2 (.p 3 (.p 4 (.p 5 .nil)))))) (by kernel_rfl) (by kernel_rfl) ?_
      (refine top_in ?_; simp -implicitDefEqProofs only [go_sem, -List.reduceReplicate, ↓L_gdZ_tt, ↓L_gdZ_tf, ↓L_gdZ_ft, ↓L_gdZ_ff, ↓T_and, ↓T_imp, ↓T_all, get_lt l1, g3]; try simp only [top_out])
      have hE := eqL_px q e
      rw [hq] at hE
      rw [hE]
      refine ⟨by omega, by omega, by omega, by omega, rfl, fun h2 => dropC_append hM rfl ?_, fun h2 => ⟨m - 1, by omega, i + 1, by omega, no_step hno g1 (fun e2 => by rw [e2] at h2; simp at h2), w64 (by omega) (by omega)⟩⟩
      have := no_hit (q := fun p : Pfx => p = q) hno g1 (of_decide_eq_true h2).symm
      rw [this] at hK; exact hK
    · refine dropC_append hM rfl ?_
      have := no_all (q := fun p : Pfx => p = q) (fun j b hj hb => hno j b (by omega) hb)
      rw [this] at hK; exact hK
end Go.Proofs.Ytdcplcfedcmcmaa.Eng

/- Lists in the library: is there one; one laid in, one taken out. -/
namespace Go.Proofs.Ytdcplcfedcmcmaa.Eng
open Go Go.RowKit
set_option linter.unusedSimpArgs false
set_option linter.unusedVariables false

theorem containsPx_ok (x : SV) (q : Pfx) (l : List Pfx) (M : List Blk) (K : SV → List Blk → Prop) (h : Pxs M x l) (hn : l.length ≤ 1000) (hK : K (.b (decide (q ∈ l))) M) :
    callVC Try.prog 59 [x, .agg (pxC q)] M K := by
  have hq : pxC q = [.i .i64 q.fam, .u64 q.hi, .u64 q.lo, .i .i64 q.bits] := rfl
  rw [hq]
  refine fn_rule tabOK Try.func59 rfl Try.call59 (by kernel_rfl) (fun hM => ?_)
  (refine top_in ?_; simp -implicitDefEqProofs only [Try.ntmps59, Try.results59, go_sem, -List.reduceReplicate, ↓L_gdZ_tt, ↓L_gdZ_tf, ↓L_gdZ_ft, ↓L_gdZ_ff, ↓T_and, ↓T_imp, ↓T_all]; try simp only [top_out])
  refine indexPx_ok x q l _ _ (Lst.app h) hn ?_
  (refine top_in ?_; simp -implicitDefEqProofs only [go_sem, -List.reduceReplicate, ↓L_gdZ_tt, ↓L_gdZ_tf, ↓L_gdZ_ft, ↓L_gdZ_ff, ↓T_and, ↓T_imp, ↓T_all]; try simp only [top_out])
  refine dropC_append hM rfl ?_
  have e : decide (0 ≤ ixI (l.findIdx? fun p => decide (p = q))) = decide (q ∈ l) := by
    by_cases g : q ∈ l
    · rw [decide_eq_true g, decide_eq_true]
      rw [ixI_some]
      intro h0
      have := ix_none' h0 q g
      simp at this
    · rw [decide_eq_false g, decide_eq_false]
      rw [ixI_some, ix_none (fun p hp => by simp; rintro rfl; exact g hp)]
      simp
  rw [e]; exact hK
set_option maxHeartbeats 1000000 in
theorem indexFn_ok (x : SV) (G : Nat → Prop) (ps : List Pr) (q : Pr → Bool) (fi : FuncId) (cap : List SV) (M : List Blk) (K : SV → List Blk → Prop) (h : Prs M G x ps) (hn : ps.length ≤ 1000)
    (hfn : ∀ (e : Pr × SV × SV) (K : SV → List Blk → Prop), PrE M G e → e.1 ∈ ps → K (.b (q e.1)) M → callVC Try.prog fi (.agg (prC e) :: cap) M K) (hK : K (.i .i64 (ixI (ps.findIdx? q))) M) :
    callVC Try.prog 93 [x, .fn (.func fi) [] cap] M K := by
  have la : ∀ {M' : List Blk} {e a' b' : Nat} {K : SV → Prop}, lenB (.slice e a' b') M' x K = K (.i .i64 ps.length) := h.lenB
  refine fn_rule tabOK Try.func93 rfl Try.call93 (by kernel_rfl) (fun hM => ?_)
  (refine top_in ?_; simp -implicitDefEqProofs only [Try.ntmps93, Try.results93, go_sem, -List.reduceReplicate, ↓L_gdZ_tt, ↓L_gdZ_tf, ↓L_gdZ_ft, ↓L_gdZ_ff, ↓T_and, ↓T_imp, ↓T_all, la]; try simp only [top_out])
  refine loop_code tabOK (by kernel_rfl) (fun m ts M' => ∃ i : Nat, i + m = ps.length ∧ (∀ (j : Nat) b, j < i → ps[j]? = some b → ¬ q b = true) ∧ M' = M ∧ frC [some (x), some (.fn (.func fi) [] cap), none, none, none, none, none, some (.i .i64 ps.length), some (.i .i64 i), none, none, none, none, none, none, none, none, none, none] ts) ps.length ?_ ?_
  · exact ⟨0, by omega, by simp, rfl, by simp [frC]⟩
  · rintro m ts _ ⟨i, hi, hno, rfl, hf⟩
    obtain ⟨f, rfl⟩ := frC_open _ _ 0 hf
    clear hf
    (refine top_in ?_; simp -implicitDefEqProofs only [go_sem, -List.reduceReplicate, ↓L_gdZ_tt, ↓L_gdZ_tf, ↓L_gdZ_ft, ↓L_gdZ_ff, ↓T_and, ↓T_imp, ↓T_all, la]; try simp only [top_out])
    refine ⟨fun h1 => ?_, fun h1 => ?_⟩
    · obtain ⟨nn, capp, e, rfl, l1, g1, g2, g3, g4, _⟩ := h.at (k := i) (by omega)
      (refine top_in ?_; simp -implicitDefEqProofs only [go_sem, -List.reduceReplicate, ↓L_gdZ_tt, ↓L_gdZ_tf, ↓L_gdZ_ft, ↓L_gdZ_ff, ↓T_and, ↓T_imp, ↓T_all, g3]; try simp only [top_out])
      refine ⟨by omega, by omega, by omega, by omega, ?_⟩
      refine hfn e _ g2 (List.mem_of_getElem? g1) ?_
      (refine top_in ?_; simp -implicitDefEqProofs only [go_sem, -List.reduceReplicate, ↓L_gdZ_tt, ↓L_gdZ_tf, ↓L_gdZ_ft, ↓L_gdZ_ff, ↓T_and, ↓T_imp, ↓T_all]; try simp only [top_out])
      refine ⟨fun h2 => dropC_self hM rfl ?_, fun h2 => ⟨m - 1, by omega, i + 1, by omega, no_step hno g1 (by simpa using h2), w64 (by omega) (by omega)⟩⟩
      have := ix_some (q := q) g1 h2 (fun j b hj hb => by simpa using hno j b hj hb)
      rw [this] at hK; exact hK
    · refine dropC_self hM rfl ?_
      have := ix_none (l := ps) (q := q) (fun p hp => by
        obtain ⟨j, hj⟩ := List.getElem?_of_mem hp
        simpa using hno j p (by have := (List.getElem?_eq_some_iff.1 hj).1; omega) hj)
      rw [this] at hK; exact hK
theorem containsFn_ok (x : SV) (G : Nat → Prop) (ps : List Pr) (q : Pr → Bool) (fi : FuncId) (cap : List SV) (M : List Blk) (K : SV → List Blk → Prop) (h : Prs M G x ps) (hn : ps.length ≤ 1000)
    (hfn : ∀ (e : Pr × SV × SV) (K : SV → List Blk → Prop), PrE M G e → e.1 ∈ ps → K (.b (q e.1)) M → callVC Try.prog fi (.agg (prC e) :: cap) M K) (hK : K (.b (ps.any q)) M) :
    callVC Try.prog 76 [x, .fn (.func fi) [] cap] M K := by
  refine fn_rule tabOK Try.func76 rfl Try.call76 (by kernel_rfl) (fun hM => ?_)
  (refine top_in ?_; simp -implicitDefEqProofs only [Try.ntmps76, Try.results76, go_sem, -List.reduceReplicate, ↓L_gdZ_tt, ↓L_gdZ_tf, ↓L_gdZ_ft, ↓L_gdZ_ff, ↓T_and, ↓T_imp, ↓T_all]; try simp only [top_out])
  refine indexFn_ok x G ps q fi cap _ _ h hn hfn ?_
  (refine top_in ?_; simp -implicitDefEqProofs only [go_sem, -List.reduceReplicate, ↓L_gdZ_tt, ↓L_gdZ_tf, ↓L_gdZ_ft, ↓L_gdZ_ff, ↓T_and, ↓T_imp, ↓T_all]; try simp only [top_out])
  refine dropC_self hM rfl ?_
  have e : decide (0 ≤ ixI (ps.findIdx? q)) = ps.any q := by
    cases g : ps.any q
    · rw [decide_eq_false]
      rw [ixI_some, ix_none (fun p hp => by rw [List.any_eq_false] at g; simpa using g p hp)]
      simp
    · rw [decide_eq_true]
      rw [ixI_some]
      intro h0
      rw [List.any_eq_true] at g
      obtain ⟨p, hp, hq⟩ := g
      have := ix_none' h0 p hp
      rw [hq] at this; cases this
  rw [e]; exact hK
/-- elements copied over elements -/
theorem copyK {T : Tab} {M : List Blk} {td e eby k : Nat} {K : SV → List Blk → Prop} (n off : Nat) (R ys : List SV) (m : Nat) (ty : TypeId) {x : SV} {len cap : Nat} (htk : T.k td = .slice e k eby) (hk : 0 < k)
    (hB : M[n]? = some (.row R ty)) (hlen : off + len * k ≤ R.length) (hsrc : ∀ K : List SV → Nat → Prop, K ys m → srcC M k x K)
    (hK : K (.i .i64 (Nat.min m len : Nat)) (M.set n (.row (splice R off (ys.take (Nat.min m len * k))) ty))) : copyC T M td (.sl n off len cap) x K := by
  unfold copyC
  rw [htk]
  refine ⟨hk, hsrc _ ?_⟩
  simp only [hB]
  exact ⟨hlen, hK⟩
/-- a part of a row as a source -/
theorem src_part {M : List Blk} {n k : Nat} {cs : List (List SV)} {zz : List SV} {ty : TypeId} (h : M[n]? = some (.row (cs.flatten ++ zz) ty)) (hc : ∀ c ∈ cs, c.length = k) (i cap : Nat) (hi : i ≤ cs.length) (off : Nat) (ho : off = i * k ∨ (i = cs.length ∧ off = 0)) :
    ∀ K : List SV → Nat → Prop, K (cs.drop i).flatten (cs.length - i) → srcC M k (.sl n off (cs.length - i) cap) K := by
  intro K hK
  have hce : cellsAt M n = cs.flatten ++ zz := by simp [cellsAt, h]
  have hfl := flat_length hc
  have hdl : (cs.drop i).flatten.length = (cs.length - i) * k := by
    have := flat_length (cs := cs.drop i) (k := k) (fun c hcm => hc c (List.mem_of_mem_drop hcm))
    rw [this, List.length_drop]
  simp only [srcC, hce]
  rcases ho with rfl | ⟨rfl, rfl⟩
  · refine ⟨by rw [List.length_append, hfl, ← Nat.add_mul]; have : i + (cs.length - i) = cs.length := by omega
               rw [this]; omega, ?_⟩
    rw [flat_drop i zz hc hi, ← hdl, List.take_left]; exact hK
  · simp only [Nat.sub_self, Nat.zero_mul, Nat.add_zero, Nat.zero_add, List.take_zero]
    simp only [List.drop_length, List.flatten_nil, Nat.sub_self] at hK
    exact ⟨by omega, hK⟩
theorem insAt_flat (cs : List (List SV)) (i : Nat) (c : List SV) : (insAt cs i c).flatten = (cs.take i).flatten ++ (c ++ (cs.drop i).flatten) := by
  unfold insAt; rw [List.flatten_append, List.flatten_cons]
end Go.Proofs.Ytdcplcfedcmcmaa.Eng
