/- 'GcmOwn': the law's walk. -/
import Derived.Test.YtbiolfeincepoaaGreatDoorMn
namespace Go.Proofs.YtbiolfeincepoaaGreatDoor.Eng
open Go Go.RowKit
set_option linter.unusedSimpArgs false
set_option linter.unusedVariables false

theorem seal32 (nk ck nn nc : Nat) (key nonce l : List (BitVec 8)) (e : SV) (M : List Blk) (K : SV → List Blk → Prop) (hk : BAt M nk 0 key) (k32 : key.length = 32) (hck : 32 ≤ ck) (hn : BAt M nn 0 nonce) (n12 : nonce.length = 12) (he : Byt M e l) (hcap : ∀ n off cap, e = .sl n off l.length cap → l.length ≤ cap) (hl : l.length ≤ 65536)
    (hK : ∀ M' y, OwnB M' y (sealL key nonce l l) → NmG (fun n => M.length ≤ n) y → Ag (fun _ => False) M M' → K (.tup [y, .i .i64 0]) M') :
    callVC Tryz.prog 6 [.sl nk 0 32 ck, .sl nn 0 12 nc, e, e] M K := by
  have := (seal_n nk 0 ck nn 0 nc key nonce l e M K hk k32 hck hn n12 he hcap hl hK).1
  rwa [k32] at this
theorem refseal32 (nk ck nn nc : Nat) (key nonce l : List (BitVec 8)) (e : SV) (M : List Blk) (K : SV → List Blk → Prop) (hk : BAt M nk 0 key) (k32 : key.length = 32) (hck : 32 ≤ ck) (hn : BAt M nn 0 nonce) (n12 : nonce.length = 12) (he : Byt M e l) (hcap : ∀ n off cap, e = .sl n off l.length cap → l.length ≤ cap) (hl : l.length ≤ 65536)
    (hK : ∀ M' y, OwnB M' y (sealL key nonce l l) → NmG (fun n => M.length ≤ n) y → Ag (fun _ => False) M M' → K (.tup [y, .i .i64 0]) M') :
    callVC Tryz.prog 13 [.sl nk 0 32 ck, .sl nn 0 12 nc, e, e] M K := by
  have := (seal_n nk 0 ck nn 0 nc key nonce l e M K hk k32 hck hn n12 he hcap hl hK).2
  rwa [k32] at this
theorem open32 (nk ck nn nc np cp ns cs : Nat) (key nonce l : List (BitVec 8)) (M : List Blk) (K : SV → List Blk → Prop) (hk : BAt M nk 0 key) (k32 : key.length = 32) (hck : 32 ≤ ck) (hn : BAt M nn 0 nonce) (n12 : nonce.length = 12) (hp : BAt M np 0 l) (hcp : l.length ≤ cp) (hs : BAt M ns 0 (sealL key nonce l l)) (hcs : l.length + 16 ≤ cs) (hl : l.length ≤ 65536)
    (hK : ∀ M' y, OwnB M' y l → NmG (fun n => M.length ≤ n) y → Ag (fun _ => False) M M' → K (.tup [y, .b true]) M') :
    callVC Tryz.prog 10 [.sl nk 0 32 ck, .sl nn 0 12 nc, .sl np 0 l.length cp, .sl ns 0 (l.length + 16) cs] M K := by
  have hE := sealE_ok k32 n12 (ad := l) (text := l) hl hl
  obtain ⟨h1, h2⟩ := open_seal hE
  have hU : openU key nonce l (sealL key nonce l l) = l := by unfold openU; rw [if_pos h1]; exact h2
  have hS := sealL_len key nonce l l
  have := open_u nk 0 key.length ck nn 0 12 nc np 0 l.length cp ns 0 (l.length + 16) cs key nonce l (sealL key nonce l l) M K hk rfl (by omega) (by omega) hn n12.symm hp rfl hcp hs hS.symm hcs (by omega) (fun z ty => by
    rw [hU, h1]
    exact hK _ _ ⟨by omega, .inr ⟨M.length, z, ty, rfl, by rw [get_app0]; rfl⟩⟩ (fun d hd => by cases hd; exact Nat.le_refl _) Ag.app)
  rwa [k32] at this
theorem same_own {M : List Blk} {x y : SV} {l : List (BitVec 8)} {K : SV → List Blk → Prop} (h1 : Byt M x l) (h2 : Byt M y l) (hK : K (.b true) M) : callVC Tryz.prog 7 [x, y] M K := same_byt M x y l l K h1 h2 (by rw [beq_self_eq_true]; exact hK)
set_option maxHeartbeats 8000000 in
set_option maxRecDepth 20000 in
theorem gown_ok (x y z : SV) (key nonce : List (BitVec 8)) (es : List (List SV)) (M : List Blk) (K : SV → List Blk → Prop) (hkx : Byt M x key) (hny : Byt M y nonce) (tl : List (SV × List (BitVec 8))) (hz : Lst M 1 z es) (hest : es = tl.map fun p => [p.1]) (hes : ∀ p ∈ tl, Byt M p.1 p.2 ∧ ∀ n off cap, p.1 = .sl n off p.2.length cap → p.2.length ≤ cap) (hK : ∀ M', K (.b true) M') :
    callVC Tryz.prog 3 [x, y, z] M K := by
  have o1 := hkx.one
  have o2 := hny.one
  have o3 := hz.one
  have lx : ∀ {M' : List Blk} {e a' b' : Nat} {K : SV → Prop}, lenB (.slice e a' b') M' x K = K (.i .i64 key.length) := hkx.lenB
  have ly : ∀ {M' : List Blk} {e a' b' : Nat} {K : SV → Prop}, lenB (.slice e a' b') M' y K = K (.i .i64 nonce.length) := hny.lenB
  have lz : ∀ {M' : List Blk} {e a' b' : Nat} {K : SV → Prop}, lenB (.slice e a' b') M' z K = K (.i .i64 es.length) := hz.lenB
  refine fn_rule tabOK Tryz.func3 rfl Tryz.call3 (by kernel_rfl) (fun hM => ?_)
  (refine top_in ?_; simp -implicitDefEqProofs only [Tryz.ntmps3, Tryz.results3, go_sem, -List.reduceReplicate, ↓L_gdZ_tt, ↓L_gdZ_tf, ↓L_gdZ_ft, ↓L_gdZ_ff, ↓T_and, ↓T_imp, ↓T_all, o1, o2, o3, lx, ly, lz]; try simp only [top_out])
  refine first5_ok _ _ ?_
  (refine top_in ?_; simp -implicitDefEqProofs only [go_sem, -List.reduceReplicate, ↓L_gdZ_tt, ↓L_gdZ_tf, ↓L_gdZ_ft, ↓L_gdZ_ff, ↓T_and, ↓T_imp, ↓T_all, o1, o2, o3, lx, ly, lz]; try simp only [top_out])
  refine ⟨fun c1 => ⟨fun c2 => ⟨fun c3 => dropC_all (Nat.le_refl _) (hK _), fun c3 => ?_⟩, fun c2 => dropC_all (Nat.le_refl _) (hK _)⟩, fun c1 => dropC_all (Nat.le_refl _) (hK _)⟩
  have k32 : key.length = 32 := by have := bneF c1; omega
  have n12 : nonce.length = 12 := by have := bneF c2; omega
  refine ⟨by decide, ?_⟩
  obtain ⟨B0, hB0⟩ : ∃ B0, Blk.row (SV.i IntKind.i64 0 :: SV.i IntKind.i64 0 :: List.replicate 51 SV.sn) 43 = B0 := ⟨_, rfl⟩
  rw [hB0]
  refine roomy_ok x key _ _ hkx.app (by omega) (fun M1 xk hok nk1 A1 => ?_)
  have hrk : (roomL key).length = 72 := by unfold roomL; rw [List.length_append, stepL_len, k32]
  have hrn : (roomL nonce).length = 52 := by unfold roomL; rw [List.length_append, stepL_len, n12]
  have hb1 := A1.at0 noS rfl
  have hA1 : Ag (fun _ => False) M M1 := Ag.app.then A1
  (refine top_in ?_; simp -implicitDefEqProofs only [go_sem, -List.reduceReplicate, ↓L_gdZ_tt, ↓L_gdZ_tf, ↓L_gdZ_ft, ↓L_gdZ_ff, ↓T_and, ↓T_imp, ↓T_all, o1, o2, o3, hok.one]; try simp only [top_out])
  refine roomy_ok y nonce _ _ (hny.ag hA1 (fun _ _ e => e)) (by omega) (fun M2 xn hon nn1 A2 => ?_)
  have hb2 := A2.get hb1 (fun e => e)
  have hA2 := hA1.then A2
  have hok2 := hok.ag A2 (fun _ _ e => e)
  have hm1 := A1.1
  rw [List.length_append, List.length_singleton] at hm1 nk1
  have hm2 := A2.1
  have nk3 := hok.dn
  obtain ⟨_, ⟨_, h0⟩ | ⟨nk, zk, tyk, rfl, hrwk⟩⟩ := hok2
  · rw [h0] at hrk; cases hrk
  obtain ⟨_, ⟨_, h0⟩ | ⟨nn, zn, tyn, rfl, hrwn⟩⟩ := hon
  · rw [h0] at hrn; cases hrn
  have nk2 := nk1 nk rfl
  have nn2 := nn1 nn rfl
  have nk4 := nk3 nk rfl
  rw [hrk, hrn]
  (refine top_in ?_; simp -implicitDefEqProofs only [go_sem, -List.reduceReplicate, ↓L_gdZ_tt, ↓L_gdZ_tf, ↓L_gdZ_ft, ↓L_gdZ_ff, ↓T_and, ↓T_imp, ↓T_all, o1, o2, o3, lx, ly, k32, n12]; try simp only [top_out])
  refine ⟨by omega, by omega, by decide, by decide, ?_⟩
  obtain ⟨z0, hz0⟩ : ∃ z0, List.replicate 8000 0#8 = z0 := ⟨_, rfl⟩
  have hz8 : z0.length = 8000 := by rw [← hz0]; exact List.length_replicate
  rw [hz0]
  have hBA0 : BA (M2 ++ [Blk.row (bS z0) 5]) (fun n => if n = M.length then 1 else 0) M.length 0 (fun _ => .sn) [] [] := (BA.new (by rw [← hB0] at hb2; exact hb2) rfl).ag (S := fun _ => False) Ag.app (fun _ _ _ e => e)
  refine loop_code tabOK (by kernel_rfl) (fun m ts M' => ∃ (i : Nat) (c : Nat → Nat) (F : Nat → SV) (ks ws : List (SV × List (BitVec 8))) (nr : Nat) (lr zr : List (BitVec 8)) (tyr : TypeId), i + m = es.length ∧ ks.length = 4 * i ∧ BA M' c M.length 0 F ks ws ∧ (∀ n, M'.length ≤ n ∨ n < M.length → c n = 0) ∧ (∀ (j : Nat) p, j < i → tl[j]? = some p → p.2.length ≤ 2000) ∧ c nk = 0 ∧ c nn = 0 ∧ c nr = 0 ∧ nr ≠ nk ∧ nr ≠ nn ∧ M.length < nr ∧ M'[nk]? = some (.row (bS (roomL key ++ zk)) tyk) ∧ M'[nn]? = some (.row (bS (roomL nonce ++ zn)) tyn) ∧ M'[nr]? = some (.row (bS (lr ++ zr)) tyr) ∧ lr.length ≤ 100000 ∧ Ag (fun _ => False) M M' ∧
    frC (some (x) :: some (y) :: some (z) :: none :: none :: none :: none :: some (.b true) :: some (.p M.length 0) :: some (.sl nk 0 72 (72 + zk.length)) :: some (.sl nn 0 52 (52 + zn.length)) :: some (.sl nk 0 32 (72 + zk.length)) :: some (.sl nn 0 12 (52 + zn.length)) :: some (.sl nr 0 lr.length (lr.length + zr.length)) :: some (.i .i64 i) :: none :: none :: none :: none :: none :: none :: none :: none :: none :: none :: none :: none :: none :: none :: none :: none :: none :: none :: none :: none :: none :: none :: none :: none :: none :: none :: none :: none :: none :: none :: none :: none :: none :: none :: none :: none :: none :: none :: none :: none :: none :: none :: none :: none :: none :: none :: none :: none :: none :: none :: none :: none :: none :: none :: none :: none :: none :: none :: none :: none :: none :: none :: none :: none :: none :: none :: none :: none :: none :: none :: none :: none :: none :: none :: none :: none :: none :: none :: none :: none :: none :: none :: none :: none :: none :: none :: none :: none :: none :: none :: none :: none :: none :: none :: none :: none :: none :: none :: none :: none :: none :: none :: none :: none :: none :: none :: none :: none :: none :: none :: none :: none :: none :: none :: none :: none :: none :: none :: none :: none :: none :: none :: none :: none :: none :: none :: none :: none :: none :: none :: none :: none :: none :: none :: none :: none :: none :: none :: none :: none :: none :: none :: none :: none :: none :: none :: none :: none :: none :: none :: none :: none :: none :: none :: none :: none :: none :: none :: none :: none :: none :: none :: none :: none :: none :: none :: none :: none :: none :: none :: none :: none :: none :: none :: none :: none :: none :: none :: none :: none :: none :: none :: none :: none :: none :: none :: none :: none :: none :: none :: none :: none :: none :: none :: none :: none :: none :: none :: none :: none :: none :: none :: none :: none :: none :: none :: none :: none :: none :: none :: none :: none :: none :: none :: none :: none :: none :: none :: none :: none :: none :: none :: none :: none :: none :: none :: none :: none :: none :: none :: none :: none :: none :: none :: none :: none :: none :: none :: none :: none :: none :: none :: none :: none :: none :: none :: none :: none :: none :: none :: none :: none :: none :: none :: none :: none :: none :: none :: none :: none :: none :: none :: none :: none :: none :: none :: none :: none :: none :: none :: none :: none :: none :: none :: none :: none :: none :: none :: none :: none :: none :: none :: none :: none :: none :: none :: none :: none :: none :: none :: none :: none :: none :: none :: none :: none :: none :: none :: none :: none :: none :: none :: none :: none :: none :: none :: none :: none :: none :: none :: none :: none :: none :: none :: none :: none :: none :: []) ts) es.length ?_ ?_
  · exact ⟨0, _, _, [], [], M2.length, [], z0, _, by omega, rfl, hBA0, fun n hn => if_neg (by simp only [List.length_append, List.length_singleton] at hn; omega), fun j p hj => by omega, if_neg (by omega), if_neg (by omega), if_neg (by omega), by omega, by have := kwMem hrwn; omega, by omega, (get_lt (kwMem hrwk)).trans hrwk, (get_lt (kwMem hrwn)).trans hrwn, by rw [get_app0]; rfl, by simp, hA2.then Ag.app, by simp [frC, hz8]⟩
  · rintro m ts M3 ⟨i, c, F, ks, ws, nr, lr, zr, tyr, him, hkl, hBA, hc0, hsm, ck, cn, cr, hrk1, hrn1, hrm, hk3, hn3, hr3, hlr, hA3, hf⟩
    have hm3 := hA3.1
    have hwk3 := kwMem hk3
    have hwn3 := kwMem hn3
    have hwr3 := kwMem hr3
    obtain ⟨f, rfl⟩ := frC_open _ _ 0 hf
    clear hf
    (refine top_in ?_; simp -implicitDefEqProofs only [go_sem, -List.reduceReplicate, ↓L_gdZ_tt, ↓L_gdZ_tf, ↓L_gdZ_ft, ↓L_gdZ_ff, ↓T_and, ↓T_imp, ↓T_all, lz, o1, o2, o3]; try simp only [top_out])
    refine ⟨fun e1 => ?_, fun e1 => ?_⟩
    · obtain ⟨n2, cap2, hzz, l1, l2, ea⟩ := (hz.ag hA3 (fun _ _ e => e)).at (by omega)
      have hg : es[i]? = some es[i] := List.getElem?_eq_getElem (by omega)
      generalize es[i] = ce at hg
      obtain ⟨g1, g2, g3, g4⟩ := ea i ce hg
      obtain ⟨p0, hp0⟩ : ∃ p0, tl[i]? = some p0 := by
        rw [hest, List.getElem?_map] at hg
        cases h : tl[i]? with
        | none => rw [h] at hg; cases hg
        | some p0 => exact ⟨p0, rfl⟩
      obtain rfl : ce = [p0.1] := by
        rw [hest, List.getElem?_map, hp0] at hg
        cases hg; rfl
      obtain ⟨he, hec⟩ := hes p0 (List.mem_of_getElem? hp0)
      obtain ⟨e, l⟩ := p0
      simp only at he hec hg
      have he3 := he.ag hA3 (fun _ _ e => e)
      have hg0 := g4 0 (by decide)
      simp only [Nat.mul_one, Nat.add_zero] at g3 hg0
      have q1 : (cellsB M3[n2]?).getD i uS = e := getD_of hg0
      have oe := he3.one
      have le : ∀ {M' : List Blk} {e' a' b' : Nat} {K : SV → Prop}, lenB (.slice e' a' b') M' e K = K (.i .i64 l.length) := he.lenB
      (refine top_in ?_; simp -implicitDefEqProofs only [go_sem, -List.reduceReplicate, ↓L_gdZ_tt, ↓L_gdZ_tf, ↓L_gdZ_ft, ↓L_gdZ_ff, ↓T_and, ↓T_imp, ↓T_all, hzz, q1, oe, le]; try simp only [top_out])
      repeat (with_reducible refine And.intro (by omega) ?_)
      refine ⟨fun e2 => dropC_all hm3 (hK _), fun e2 => ?_⟩
      have hlb : l.length ≤ 2000 := by omega
      refine draw_rule tabOK (by kernel_rfl : _) (.p 0 (.p 1 (.p 2 (.p 3 (.p 4 (.p 5 (.e 6 [] (.p 7 .nil) .no))))))) (by kernel_rfl) (by kernel_rfl) ?_
      (refine top_in ?_; simp -implicitDefEqProofs only [go_sem, -List.reduceReplicate, ↓L_gdZ_tt, ↓L_gdZ_tf, ↓L_gdZ_ft, ↓L_gdZ_ff, ↓T_and, ↓T_imp, ↓T_all, q1, oe, le]; try simp only [top_out])
      repeat (with_reducible refine And.intro (by omega) ?_)
      refine appO (w := l) (l := []) rfl rfl rfl ⟨by simp, .inr ⟨nr, lr ++ zr, tyr, by rw [List.length_append]; simp, by simpa using hr3⟩⟩ he3.src (by simp; omega) (fun M4 y4 ho4 n4 A4 => ?_)
      rw [List.nil_append] at ho4
      (refine top_in ?_; simp -implicitDefEqProofs only [go_sem, -List.reduceReplicate, ↓L_gdZ_tt, ↓L_gdZ_tf, ↓L_gdZ_ft, ↓L_gdZ_ff, ↓T_and, ↓T_imp, ↓T_all, ho4.one]; try simp only [top_out])
      have hm4 := A4.1
      refine ⟨by decide, appO (w := [47#8, 11#8]) rfl rfl rfl ho4.app (src_row (z := []) (ty := 5) (by rw [get_app0]; rfl) rfl) (by simp; omega) (fun M5 y5 ho5 n5 A5 => ?_)⟩
      have hm5 := A5.1
      rw [List.length_append, List.length_singleton] at hm5 n5
      have hA35 : Ag (fun n => n = nr) M3 M5 := Ag.trans (A4.mono (fun n h => by cases h; rfl)) (S' := fun n => dnS y4 = some n) (Ag.app.then A5) (fun n hn h => by have := n4 n h; omega)
      obtain ⟨_, ⟨_, h0⟩ | ⟨np, zp, typ, rfl, hrp⟩⟩ := ho5
      · simp at h0
      have hnp := n5 np rfl
      have hlp : (l ++ [47#8, 11#8]).length = l.length + 2 := by simp
      rw [hlp]
      have hA5 : Ag (fun _ => False) M M5 := Ag.trans hA3 hA35 (fun n hn h => by omega)
      have hk5 := hA35.get hk3 (fun h => hrk1 h.symm)
      have hn5 := hA35.get hn3 (fun h => hrn1 h.symm)
      have hBA5 := hBA.ag hA35 (fun n hn h0 h => h0 (h ▸ cr))
      have he5 := he.ag hA5 (fun _ _ e => e)
      have q2 : ∀ {M' : List Blk}, Ag (fun _ => False) M M' → (cellsB M'[n2]?).getD i uS = e := fun hA' => by
        obtain ⟨n2', cap2', hzz', l1', l2', ea'⟩ := (hz.ag hA' (fun _ _ e => e)).at (by omega)
        cases hzz.symm.trans hzz'
        have := (ea' i _ hg).2.2.2 0 (by decide)
        simp only [Nat.mul_one, Nat.add_zero] at this
        exact getD_of this
      have q3 : ∀ {M' : List Blk}, Ag (fun _ => False) M M' → i + 1 ≤ (cellsB M'[n2]?).length := fun hA' => by
        obtain ⟨n2', cap2', hzz', l1', l2', ea'⟩ := (hz.ag hA' (fun _ _ e => e)).at (by omega)
        cases hzz.symm.trans hzz'
        have := (ea' i _ hg).2.2.1
        omega
      have hBp : BAt M5 np 0 l := BAt.row (z := [47#8, 11#8] ++ zp) (ty := typ) (by rw [← List.append_assoc]; exact hrp)
      have hBk : BAt M5 nk 0 key := BAt.row (z := stepL 47#8 11#8 40 ++ zk) (ty := tyk) (by rw [← List.append_assoc]; exact hk5)
      have hBn : BAt M5 nn 0 nonce := BAt.row (z := stepL 47#8 11#8 40 ++ zn) (ty := tyn) (by rw [← List.append_assoc]; exact hn5)
      (refine top_in ?_; simp -implicitDefEqProofs only [go_sem, -List.reduceReplicate, ↓L_gdZ_tt, ↓L_gdZ_tf, ↓L_gdZ_ft, ↓L_gdZ_ff, ↓T_and, ↓T_imp, ↓T_all, q2 hA5, oe, le]; try simp only [top_out])
      have := q3 hA5
      repeat (with_reducible refine And.intro (by omega) ?_)
      have hBP : Byt M5 (.sl np 0 l.length (l.length + (2 + zp.length))) l := ⟨by omega, .inr (.inr ⟨np, 0, _, rfl, hBp, .inl (by rw [liveN_eq, hrp]; simp only [liveB_row, bS_length, List.length_append, decide_eq_true_eq]; simp; omega)⟩)⟩
      refine seal32 nk _ nn _ key nonce l _ M5 _ hBk k32 (by omega) hBn n12 hBP (fun n off cap h => by cases h; omega) (by omega) (fun M6 ya hoa na A6 => ?_)
      (refine top_in ?_; simp -implicitDefEqProofs only [go_sem, -List.reduceReplicate, ↓L_gdZ_tt, ↓L_gdZ_tf, ↓L_gdZ_ft, ↓L_gdZ_ff, ↓T_and, ↓T_imp, ↓T_all, hoa.one]; try simp only [top_out])
      refine seal32 nk _ nn _ key nonce l _ M6 _ (hBk.ag A6 (fun e => e)) k32 (by omega) (hBn.ag A6 (fun e => e)) n12 (hBP.ag A6 (fun _ _ e => e)) (fun n off cap h => by cases h; omega) (by omega) (fun M7 yb hob nb A7 => ?_)
      have hoa7 := hoa.ag A7 (fun _ _ e => e)
      have hA57 := A6.then A7
      (refine top_in ?_; simp -implicitDefEqProofs only [go_sem, -List.reduceReplicate, ↓L_gdZ_tt, ↓L_gdZ_tf, ↓L_gdZ_ft, ↓L_gdZ_ff, ↓T_and, ↓T_imp, ↓T_all, hoa.one, hob.one]; try simp only [top_out])
      refine same_own hoa7.byt hob.byt ?_
      have hA7 := hA5.then hA57
      (refine top_in ?_; simp -implicitDefEqProofs only [go_sem, -List.reduceReplicate, ↓L_gdZ_tt, ↓L_gdZ_tf, ↓L_gdZ_ft, ↓L_gdZ_ff, ↓T_and, ↓T_imp, ↓T_all, hoa.one, hob.one, q2 hA7, oe]; try simp only [top_out])
      have := q3 hA7
      repeat (with_reducible refine And.intro (by omega) ?_)
      refine same_own (hBP.ag hA57 (fun _ _ e => e)) (he.ag hA7 (fun _ _ e => e)) ?_
      have hrp7 := hA57.get hrp (fun e => e)
      have hBW : BAt M7 np 0 (l ++ [47#8, 11#8]) := BAt.row hrp7
      have h47 : (l ++ [47#8, 11#8]).getD l.length 0#8 = 47#8 := by simp [List.getD_eq_getElem?_getD]
      have h11 : (l ++ [47#8, 11#8]).getD (l.length + 1) 0#8 = 11#8 := by simp [List.getD_eq_getElem?_getD]
      have r1 := hBW.is8 (j := l.length) (by omega)
      have r2 := hBW.cell8 (j := l.length) (by omega)
      have r3 := hBW.is8 (j := l.length + 1) (by omega)
      have r4 := hBW.cell8 (j := l.length + 1) (by omega)
      have r5 := hBW.le (j := l.length + 2) (by omega)
      rw [h47] at r2
      rw [h11] at r4
      simp only [Nat.zero_add] at r1 r2 r3 r4 r5
      have w1 : IntKind.i64.wrap ((l.length : Int) + 1) = ((l.length + 1 : Nat) : Int) := by rw [w64 (by omega) (by omega)]; omega
      have bn : ∀ v : BitVec 8, (v != v) = false := fun v => by simp
      have be : ∀ v : BitVec 8, (v == v) = true := fun v => by simp
      have q37 := q3 hA7
      (refine top_in ?_; simp -implicitDefEqProofs only [go_sem, -List.reduceReplicate, ↓L_gdZ_tt, ↓L_gdZ_tf, ↓L_gdZ_ft, ↓L_gdZ_ff, ↓T_and, ↓T_imp, ↓T_all, q2 hA7, oe, le]; try simp only [top_out])
      repeat (with_reducible refine And.intro (by omega) ?_)
      refine num5_ok 0 _ _ ?_
      (refine top_in ?_; simp -implicitDefEqProofs only [go_sem, -List.reduceReplicate, ↓L_gdZ_tt, ↓L_gdZ_tf, ↓L_gdZ_ft, ↓L_gdZ_ff, ↓T_and, ↓T_imp, ↓T_all, Int.reduceBNe]; try simp only [top_out])
      refine num5_ok 0 _ _ ?_
      (refine top_in ?_; simp -implicitDefEqProofs only [go_sem, -List.reduceReplicate, ↓L_gdZ_tt, ↓L_gdZ_tf, ↓L_gdZ_ft, ↓L_gdZ_ff, ↓T_and, ↓T_imp, ↓T_all, Int.reduceBNe, q2 hA7, oe, le, r1, r2, r3, r4, w1, bn]; try simp only [top_out])
      repeat (with_reducible refine And.intro (by omega) ?_)
      have hS := sealL_len key nonce l l
      refine bytes_own ya _ M7 _ hoa7.byt (by omega) (fun M8 ys hos ns A8 => ?_)
      (refine top_in ?_; simp -implicitDefEqProofs only [go_sem, -List.reduceReplicate, ↓L_gdZ_tt, ↓L_gdZ_tf, ↓L_gdZ_ft, ↓L_gdZ_ff, ↓T_and, ↓T_imp, ↓T_all, hos.one]; try simp only [top_out])
      refine ⟨by decide, appO (w := [47#8, 11#8]) rfl rfl rfl hos.app (src_row (z := []) (ty := 5) (by rw [get_app0]; rfl) rfl) (by simp; omega) (fun M9 y9 ho9 n9 A9 => ?_)⟩
      have hm8 := A8.1
      have hm9 := A9.1
      rw [List.length_append, List.length_singleton] at hm9 n9
      have hA79 : Ag (fun _ => False) M7 M9 := Ag.trans A8 (S' := fun n => dnS ys = some n) (Ag.app.then A9) (fun n hn h => by have := ns n h; omega)
      obtain ⟨_, ⟨_, h0⟩ | ⟨nz, zz9, ty9, rfl, hr9⟩⟩ := ho9
      · simp at h0
      have hl9 : (sealL key nonce l l ++ [47#8, 11#8]).length = l.length + 18 := by rw [List.length_append, hS]; simp
      have la : ∀ {M' : List Blk} {e' a' b' : Nat} {K : SV → Prop}, lenB (.slice e' a' b') M' ya K = K (.i .i64 (l.length + 16 : Nat)) := by intro M' e' a' b' K; rw [hoa.lenB, hS]
      rw [hl9]
      have hBS : BAt M9 nz 0 (sealL key nonce l l) := BAt.row (z := [47#8, 11#8] ++ zz9) (ty := ty9) (by rw [← List.append_assoc]; exact hr9)
      have hA59 := hA57.then hA79
      (refine top_in ?_; simp -implicitDefEqProofs only [go_sem, -List.reduceReplicate, ↓L_gdZ_tt, ↓L_gdZ_tf, ↓L_gdZ_ft, ↓L_gdZ_ff, ↓T_and, ↓T_imp, ↓T_all, hoa.one, la]; try simp only [top_out])
      repeat (with_reducible refine And.intro (by omega) ?_)
      refine open32 nk _ nn _ np _ nz _ key nonce l M9 _ (hBk.ag hA59 (fun e => e)) k32 (by omega) (hBn.ag hA59 (fun e => e)) n12 (hBp.ag hA59 (fun e => e)) (by omega) hBS (by omega) (by omega) (fun M10 yt hot nt A10 => ?_)
      have hA510 := hA59.then A10
      (refine top_in ?_; simp -implicitDefEqProofs only [go_sem, -List.reduceReplicate, ↓L_gdZ_tt, ↓L_gdZ_tf, ↓L_gdZ_ft, ↓L_gdZ_ff, ↓T_and, ↓T_imp, ↓T_all, hoa.one, hot.one, la]; try simp only [top_out])
      repeat (with_reducible refine And.intro (by omega) ?_)
      refine open32 nk _ nn _ np _ nz _ key nonce l M10 _ (hBk.ag hA510 (fun e => e)) k32 (by omega) (hBn.ag hA510 (fun e => e)) n12 (hBp.ag hA510 (fun e => e)) (by omega) (hBS.ag A10 (fun e => e)) (by omega) (by omega) (fun M11 yu hou nu A11 => ?_)
      have hA511 := hA510.then A11
      have hA11 := hA5.then hA511
      have hot11 := hot.ag A11 (fun _ _ e => e)
      have hA711 : Ag (fun _ => False) M7 M11 := hA79.then (A10.then A11)
      have hoa11 := hoa7.ag hA711 (fun _ _ e => e)
      have hob11 := hob.ag hA711 (fun _ _ e => e)
      have he11 := he.ag hA11 (fun _ _ e => e)
      have q311 := q3 hA11
      have hr11 := (A10.then A11).get hr9 (fun e => e)
      (refine top_in ?_; simp -implicitDefEqProofs only [go_sem, -List.reduceReplicate, ↓L_gdZ_tt, ↓L_gdZ_tf, ↓L_gdZ_ft, ↓L_gdZ_ff, ↓T_and, ↓T_imp, ↓T_all, hoa.one, hot.one, hou.one, la, q2 hA11, oe]; try simp only [top_out])
      repeat (with_reducible refine And.intro (by omega) ?_)
      refine same_own hot11.byt he11 ?_
      (refine top_in ?_; simp -implicitDefEqProofs only [go_sem, -List.reduceReplicate, ↓L_gdZ_tt, ↓L_gdZ_tf, ↓L_gdZ_ft, ↓L_gdZ_ff, ↓T_and, ↓T_imp, ↓T_all, hoa.one, hot.one, hou.one, la, q2 hA11, oe]; try simp only [top_out])
      repeat (with_reducible refine And.intro (by omega) ?_)
      refine same_own hou.byt he11 ?_
      (refine top_in ?_; simp -implicitDefEqProofs only [go_sem, -List.reduceReplicate, ↓L_gdZ_tt, ↓L_gdZ_tf, ↓L_gdZ_ft, ↓L_gdZ_ff, ↓T_and, ↓T_imp, ↓T_all, hoa.one, hot.one, hou.one, la]; try simp only [top_out])
      repeat (with_reducible refine And.intro (by omega) ?_)
      have hSb : Byt M11 (.sl nz 0 (l.length + 16) (l.length + (18 + zz9.length))) (sealL key nonce l l) := ⟨by omega, .inr (.inr ⟨nz, 0, _, by rw [hS], hBS.ag (A10.then A11) (fun e => e), .inl (by rw [liveN_eq, hr11]; simp only [liveB_row, bS_length, List.length_append, decide_eq_true_eq]; simp; omega)⟩)⟩
      refine same_own hSb hoa11.byt ?_
      have hBZ : BAt M11 nz 0 (sealL key nonce l l ++ [47#8, 11#8]) := BAt.row hr11
      have z47 : (sealL key nonce l l ++ [47#8, 11#8]).getD (l.length + 16) 0#8 = 47#8 := by rw [← hS]; simp [List.getD_eq_getElem?_getD]
      have z11 : (sealL key nonce l l ++ [47#8, 11#8]).getD (l.length + 17) 0#8 = 11#8 := by rw [show l.length + 17 = (sealL key nonce l l).length + 1 by omega]; simp [List.getD_eq_getElem?_getD]
      have s1 := hBZ.is8 (j := l.length + 16) (by omega)
      have s2 := hBZ.cell8 (j := l.length + 16) (by omega)
      have s3 := hBZ.is8 (j := l.length + 17) (by omega)
      have s4 := hBZ.cell8 (j := l.length + 17) (by omega)
      have s5 := hBZ.le (j := l.length + 18) (by omega)
      rw [z47] at s2
      rw [z11] at s4
      simp only [Nat.zero_add] at s1 s2 s3 s4 s5
      have w2 : IntKind.i64.wrap (((l.length + 16 : Nat) : Int) + 1) = ((l.length + 17 : Nat) : Int) := by rw [w64 (by omega) (by omega)]; omega
      (refine top_in ?_; simp -implicitDefEqProofs only [go_sem, -List.reduceReplicate, ↓L_gdZ_tt, ↓L_gdZ_tf, ↓L_gdZ_ft, ↓L_gdZ_ff, ↓T_and, ↓T_imp, ↓T_all, hoa.one, hob.one, hot.one, hou.one, la, s1, s2, s3, s4, w2, be]; try simp only [top_out])
      repeat (with_reducible refine And.intro (by omega) ?_)
      have hA311 : Ag (fun n => n = nr) M3 M11 := hA35.then (hA511.mono (fun _ h => h.elim))
      have hBA11 := hBA.ag hA311 (fun n hn h0 h => h0 (h ▸ cr))
      have hk11 := hA311.get hk3 (fun h => hrk1 h.symm)
      have hn11 := hA311.get hn3 (fun h => hrn1 h.symm)
      have hp11 := hA511.get hrp (fun h => h)
      have x56 := A6.1
      have x67 := A7.1
      have x79 := hA79.1
      have x910 := A10.1
      have x1011 := A11.1
      have x35 := hA35.1
      have hwp5 := kwMem hrp
      have c0 : ∀ n, M3.length ≤ n → c n = 0 := fun n hn => hc0 n (.inl hn)
      have fa : ∀ d, dnS ya = some d → M5.length ≤ d ∧ d < M6.length := fun d hd => ⟨na d hd, hoa.dn d hd⟩
      have fb : ∀ d, dnS yb = some d → M6.length ≤ d ∧ d < M7.length := fun d hd => ⟨nb d hd, hob.dn d hd⟩
      have ft : ∀ d, dnS yt = some d → M9.length ≤ d ∧ d < M10.length := fun d hd => ⟨nt d hd, hot.dn d hd⟩
      have fu : ∀ d, dnS yu = some d → M10.length ≤ d ∧ d < M11.length := fun d hd => ⟨nu d hd, hou.dn d hd⟩
      refine keepN_ok M.length F c ks ws ya _ M11 _ hBA11 hoa11.g (fun d hd => c0 d (by have := fa d hd; omega)) (by omega) (by omega) (fun v1 M12 F1 c1 ks1 ws1 hB12 kl1 hz1 hf1 A12 => ?_)
      (refine top_in ?_; simp -implicitDefEqProofs only [go_sem, -List.reduceReplicate, ↓L_gdZ_tt, ↓L_gdZ_tf, ↓L_gdZ_ft, ↓L_gdZ_ff, ↓T_and, ↓T_imp, ↓T_all, hob.one]; try simp only [top_out])
      have y12 := A12.1
      have z1 : ∀ d, c d = 0 → d < M11.length → (d < M5.length ∨ M6.length ≤ d) → c1 d = 0 := fun d h0 hd h => hz1 d h0 hd (fun e => by have := fa d e; omega)
      refine keepN_ok M.length F1 c1 ks1 ws1 yb _ M12 _ hB12 (hob11.g.ag A12 (fun d hd h => h (c0 d (by have := fb d hd; omega)))) (fun d hd => z1 d (c0 d (by have := fb d hd; omega)) (by have := fb d hd; omega) (by have := fb d hd; omega)) (by omega) (by omega) (fun v2 M13 F2 c2 ks2 ws2 hB13 kl2 hz2 hf2 A13 => ?_)
      (refine top_in ?_; simp -implicitDefEqProofs only [go_sem, -List.reduceReplicate, ↓L_gdZ_tt, ↓L_gdZ_tf, ↓L_gdZ_ft, ↓L_gdZ_ff, ↓T_and, ↓T_imp, ↓T_all, hot.one]; try simp only [top_out])
      have y13 := A13.1
      have z2 : ∀ d, c d = 0 → d < M11.length → (d < M5.length ∨ M7.length ≤ d) → c2 d = 0 := fun d h0 hd h => hz2 d (z1 d h0 hd (by omega)) (by omega) (fun e => by have := fb d e; omega)
      refine keepN_ok M.length F2 c2 ks2 ws2 yt _ M13 _ hB13 ((hot11.g.ag A12 (fun d hd h => h (c0 d (by have := ft d hd; omega)))).ag A13 (fun d hd h => h (z1 d (c0 d (by have := ft d hd; omega)) (by have := ft d hd; omega) (by have := ft d hd; omega)))) (fun d hd => z2 d (c0 d (by have := ft d hd; omega)) (by have := ft d hd; omega) (by have := ft d hd; omega)) (by omega) (by omega) (fun v3 M14 F3 c3 ks3 ws3 hB14 kl3 hz3 hf3 A14 => ?_)
      (refine top_in ?_; simp -implicitDefEqProofs only [go_sem, -List.reduceReplicate, ↓L_gdZ_tt, ↓L_gdZ_tf, ↓L_gdZ_ft, ↓L_gdZ_ff, ↓T_and, ↓T_imp, ↓T_all, hou.one]; try simp only [top_out])
      have y14 := A14.1
      have z3 : ∀ d, c d = 0 → d < M11.length → (d < M5.length ∨ M10.length ≤ d) → c3 d = 0 := fun d h0 hd h => hz3 d (z2 d h0 hd (by omega)) (by omega) (fun e => by have := ft d e; omega)
      refine keepN_ok M.length F3 c3 ks3 ws3 yu _ M14 _ hB14 (((hou.g.ag A12 (fun d hd h => h (c0 d (by have := fu d hd; omega)))).ag A13 (fun d hd h => h (z1 d (c0 d (by have := fu d hd; omega)) (by have := fu d hd; omega) (by have := fu d hd; omega)))).ag A14 (fun d hd h => h (z2 d (c0 d (by have := fu d hd; omega)) (by have := fu d hd; omega) (by have := fu d hd; omega)))) (fun d hd => z3 d (c0 d (by have := fu d hd; omega)) (by have := fu d hd; omega) (by have := fu d hd; omega)) (by omega) (by omega) (fun v4 M15 F4 c4 ks4 ws4 hB15 kl4 hz4 hf4 A15 => ?_)
      have y15 := A15.1
      have z4 : ∀ d, c d = 0 → d < M5.length → c4 d = 0 := fun d h0 hd => hz4 d (z3 d h0 (by omega) (by omega)) (by omega) (fun e => by have := fu d e; omega)
      have hget : ∀ {d : Nat} {B : Blk}, M11[d]? = some B → c d = 0 → d < M5.length → M15[d]? = some B := fun {d B} h h0 hd => A15.get (A14.get (A13.get (A12.get h (fun g => g h0)) (fun g => g (z1 d h0 (by omega) (by omega)))) (fun g => g (z2 d h0 (by omega) (by omega)))) (fun g => g (z3 d h0 (by omega) (by omega)))
      have cnp : c np = 0 := c0 np (by omega)
      have hA15 : Ag (fun _ => False) M M15 := by
        refine Ag.trans hA11 (S' := fun d => c d ≠ 0 ∨ c1 d ≠ 0 ∨ c2 d ≠ 0 ∨ c3 d ≠ 0) ((A12.mono (fun d h => .inl h)).then ((A13.mono (fun d h => .inr (.inl h))).then ((A14.mono (fun d h => .inr (.inr (.inl h)))).then (A15.mono (fun d h => .inr (.inr (.inr h))))))) (fun d hd h => ?_)
        have h0 := hc0 d (.inr hd)
        have h1 := z1 d h0 (by omega) (by omega)
        have h2 := z2 d h0 (by omega) (by omega)
        have h3 := z3 d h0 (by omega) (by omega)
        omega
      (refine top_in ?_; simp -implicitDefEqProofs only [go_sem, -List.reduceReplicate, ↓L_gdZ_tt, ↓L_gdZ_tf, ↓L_gdZ_ft, ↓L_gdZ_ff, ↓T_and, ↓T_imp, ↓T_all]; try simp only [top_out])
      refine ⟨m - 1, by omega, i + 1, c4, F4, ks4, ws4, np, l ++ [47#8, 11#8], zp, typ, by omega, by omega, hB15, fun n hn => ?_, fun j p hj hp => ?_, z4 nk ck (by omega), z4 nn cn (by omega), z4 np cnp (by omega), by omega, by omega, by omega, hget hk11 ck (by omega), hget hn11 cn (by omega), hget hp11 cnp (by omega), by omega, hA15, ?_⟩
      · rcases hn with hn | hn
        · exact hf4 n hn
        · exact z4 n (hc0 n (.inr hn)) (by omega)
      · rcases Nat.lt_or_ge j i with g | g
        · exact hsm j p g hp
        · obtain rfl : j = i := by omega
          rw [hp0] at hp; cases hp
          exact hlb
      · exact ⟨⟨rfl, by rw [hlp], by rw [hlp]; omega⟩, by rw [w64 (by omega) (by omega)]; omega⟩
    · have hie : i = es.length := by omega
      refine finish_ok M.length F c ks ws M3 _ hBA (by omega) (fun M4 F4 c4 ps hD hc4 A4 => ?_)
      have hm4 := A4.1
      have hA4 : Ag (fun _ => False) M M4 := Ag.trans hA3 A4 (fun n hn h => h (hc0 n (.inr hn)))
      have hk4 := A4.get hk3 (fun h => h ck)
      have hn4 := A4.get hn3 (fun h => h cn)
      have ck4 := (hc4 nk hwk3).trans ck
      have cn4 := (hc4 nn hwn3).trans cn
      (refine top_in ?_; simp -implicitDefEqProofs only [go_sem, -List.reduceReplicate, ↓L_gdZ_tt, ↓L_gdZ_tf, ↓L_gdZ_ft, ↓L_gdZ_ff, ↓T_and, ↓T_imp, ↓T_all, o1, o2]; try simp only [top_out])
      refine roomy_ok x key M4 _ (hkx.ag hA4 (fun _ _ e => e)) (by omega) (fun M5 y5 ho5 n5 A5 => ?_)
      have hA5 := hA4.then A5
      have hk5 := A5.get hk4 (fun h => h)
      have hOk : OwnB M5 (.sl nk 0 72 (72 + zk.length)) (roomL key) := by
        have : OwnB M5 (.sl nk 0 (roomL key).length ((roomL key).length + zk.length)) (roomL key) := ⟨by omega, .inr ⟨nk, zk, tyk, rfl, hk5⟩⟩
        rwa [hrk] at this
      (refine top_in ?_; simp -implicitDefEqProofs only [go_sem, -List.reduceReplicate, ↓L_gdZ_tt, ↓L_gdZ_tf, ↓L_gdZ_ft, ↓L_gdZ_ff, ↓T_and, ↓T_imp, ↓T_all, o1, o2, ho5.one]; try simp only [top_out])
      refine same_own hOk.byt ho5.byt ?_
      (refine top_in ?_; simp -implicitDefEqProofs only [go_sem, -List.reduceReplicate, ↓L_gdZ_tt, ↓L_gdZ_tf, ↓L_gdZ_ft, ↓L_gdZ_ff, ↓T_and, ↓T_imp, ↓T_all, o1, o2]; try simp only [top_out])
      refine roomy_ok y nonce M5 _ (hny.ag hA5 (fun _ _ e => e)) (by omega) (fun M6 y6 ho6 n6 A6 => ?_)
      have hA6 := hA5.then A6
      have hn6 := A6.get (A5.get hn4 (fun h => h)) (fun h => h)
      have hOn : OwnB M6 (.sl nn 0 52 (52 + zn.length)) (roomL nonce) := by
        have : OwnB M6 (.sl nn 0 (roomL nonce).length ((roomL nonce).length + zn.length)) (roomL nonce) := ⟨by omega, .inr ⟨nn, zn, tyn, rfl, hn6⟩⟩
        rwa [hrn] at this
      (refine top_in ?_; simp -implicitDefEqProofs only [go_sem, -List.reduceReplicate, ↓L_gdZ_tt, ↓L_gdZ_tf, ↓L_gdZ_ft, ↓L_gdZ_ff, ↓T_and, ↓T_imp, ↓T_all, o1, o2, ho6.one]; try simp only [top_out])
      refine same_own hOn.byt ho6.byt ?_
      (refine top_in ?_; simp -implicitDefEqProofs only [go_sem, -List.reduceReplicate, ↓L_gdZ_tt, ↓L_gdZ_tf, ↓L_gdZ_ft, ↓L_gdZ_ff, ↓T_and, ↓T_imp, ↓T_all, o1, o2]; try simp only [top_out])
      have x5 := A5.1
      have x6 := A6.1
      have hOk6 := hOk.ag A6 (fun _ _ e => e)
      refine loop_code tabOK (by kernel_rfl) (fun m ts M' => ∃ (j : Nat) (lk : List (BitVec 8)), j + m = 32 ∧ lk.length = 72 ∧ OwnB M' (.sl nk 0 72 (72 + zk.length)) lk ∧ Ag (fun n => n = nk) M6 M' ∧
        frC (none :: none :: some (z) :: none :: none :: none :: none :: none :: some (.p M.length 0) :: none :: none :: some (.sl nk 0 32 (72 + zk.length)) :: some (.sl nn 0 12 (52 + zn.length)) :: none :: none :: none :: none :: none :: none :: none :: none :: none :: none :: none :: none :: none :: none :: none :: some (.b true) :: some (.b true) :: some (.i .i64 j) :: none :: none :: none :: none :: none :: none :: none :: none :: none :: none :: none :: none :: none :: none :: none :: none :: none :: none :: none :: none :: none :: none :: none :: none :: none :: none :: none :: none :: none :: none :: none :: none :: none :: none :: none :: none :: none :: none :: none :: none :: none :: none :: none :: none :: none :: none :: none :: none :: none :: none :: none :: none :: none :: none :: none :: none :: none :: none :: none :: none :: none :: none :: none :: none :: none :: none :: none :: none :: none :: none :: none :: none :: none :: none :: none :: none :: none :: none :: none :: none :: none :: none :: none :: none :: none :: none :: none :: none :: none :: none :: none :: none :: none :: none :: none :: none :: none :: none :: none :: none :: none :: none :: none :: none :: none :: none :: none :: none :: none :: none :: none :: none :: none :: none :: none :: none :: none :: none :: none :: none :: none :: none :: none :: none :: none :: none :: none :: none :: none :: none :: none :: none :: none :: none :: none :: none :: none :: none :: none :: none :: none :: none :: none :: none :: none :: none :: none :: none :: none :: none :: none :: none :: none :: none :: none :: none :: none :: none :: none :: none :: none :: none :: none :: none :: none :: none :: none :: none :: none :: none :: none :: none :: none :: none :: none :: none :: none :: none :: none :: none :: none :: none :: none :: none :: none :: none :: none :: none :: none :: none :: none :: none :: none :: none :: none :: none :: none :: none :: none :: none :: none :: none :: none :: none :: none :: none :: none :: none :: none :: none :: none :: none :: none :: none :: none :: none :: none :: none :: none :: none :: none :: none :: none :: none :: none :: none :: none :: none :: none :: none :: none :: none :: none :: none :: none :: none :: none :: none :: none :: none :: none :: none :: none :: none :: none :: none :: none :: none :: none :: none :: none :: none :: none :: none :: none :: none :: none :: none :: none :: none :: none :: none :: none :: none :: none :: none :: none :: none :: none :: none :: none :: none :: none :: none :: none :: none :: none :: none :: none :: none :: none :: none :: none :: none :: none :: none :: none :: none :: none :: none :: none :: none :: none :: none :: none :: none :: none :: none :: none :: none :: none :: []) ts) 32 ?_ ?_
      · exact ⟨0, _, by omega, hrk, hOk6, Ag.refl, by simp [frC]⟩
      · rintro m ts M7 ⟨j, lk, hjm, hlk, hO7, A7, hf⟩
        have hm7 := A7.1
        obtain ⟨f, rfl⟩ := frC_open _ _ 0 hf
        clear hf
        (refine top_in ?_; simp -implicitDefEqProofs only [go_sem, -List.reduceReplicate, ↓L_gdZ_tt, ↓L_gdZ_tf, ↓L_gdZ_ft, ↓L_gdZ_ff, ↓T_and, ↓T_imp, ↓T_all, o3]; try simp only [top_out])
        refine ⟨fun e2 => ?_, fun e2 => ?_⟩
        · obtain ⟨n, cap, R3, ty3, hy, p1, p2, p3, p4⟩ := hO7.put (j := j) (by omega)
          rw [hlk] at hy; cases hy
          have g1 : is8 R3 j = true := by unfold is8; rw [p3]
          have g2 : cell8 R3 j = lk.getD j 0#8 := by unfold cell8; rw [p3]
          have hwk7 := kwMem p1
          (refine top_in ?_; simp -implicitDefEqProofs only [go_sem, -List.reduceReplicate, ↓L_gdZ_tt, ↓L_gdZ_tf, ↓L_gdZ_ft, ↓L_gdZ_ff, ↓T_and, ↓T_imp, ↓T_all, p1, g1, g2]; try simp only [top_out])
          repeat (with_reducible refine And.intro (by omega) ?_)
          exact ⟨m - 1, by omega, j + 1, _, by omega, by rw [List.length_set]; exact hlk, p4 _, A7.then (Ag.set rfl), by rw [w64 (by omega) (by omega)]; omega⟩
        · obtain rfl : j = 32 := by omega
          have hA7 : Ag (fun _ => False) M M7 := Ag.trans hA6 A7 (fun n hn h => by omega)
          have hD7 : BD M7 c4 M.length F4 ps := (hD.ag (A5.then A6) (fun n _ _ h => h)).ag A7 (fun n _ h0 h => h0 (h ▸ ck4))
          have hBn7 : BAt M7 nn 0 nonce := BAt.row (z := stepL 47#8 11#8 40 ++ zn) (ty := tyn) (by rw [← List.append_assoc]; exact A7.get hn6 (fun h => by omega))
          have hBk7 : BAt M7 nk 0 (lk.take 32) := by
            obtain ⟨_, ⟨h0, _⟩ | ⟨n', z', ty', hy', hr'⟩⟩ := hO7
            · cases h0
            · injection hy' with e1 e2 e3 e4
              subst e1
              exact BAt.row (z := lk.drop 32 ++ z') (by rw [← List.append_assoc, List.take_append_drop]; exact hr')
          have k7 : (lk.take 32).length = 32 := by rw [List.length_take]; omega
          (refine top_in ?_; simp -implicitDefEqProofs only [go_sem, -List.reduceReplicate, ↓L_gdZ_tt, ↓L_gdZ_tf, ↓L_gdZ_ft, ↓L_gdZ_ff, ↓T_and, ↓T_imp, ↓T_all, o3]; try simp only [top_out])
          refine loop_code tabOK (by kernel_rfl) (fun m ts M' => ∃ (j : Nat), j + m = es.length ∧ Ag (fun _ => False) M7 M' ∧
            frC (none :: none :: some (z) :: none :: none :: none :: none :: none :: some (.p M.length 0) :: none :: none :: some (.sl nk 0 32 (72 + zk.length)) :: some (.sl nn 0 12 (52 + zn.length)) :: none :: none :: none :: none :: none :: none :: none :: none :: none :: none :: none :: none :: none :: none :: none :: some (.b true) :: none :: none :: some (.i .i64 j) :: none :: none :: none :: none :: none :: none :: none :: none :: none :: none :: none :: none :: none :: none :: none :: none :: none :: none :: none :: none :: none :: none :: none :: none :: none :: none :: none :: none :: none :: none :: none :: none :: none :: none :: none :: none :: none :: none :: none :: none :: none :: none :: none :: none :: none :: none :: none :: none :: none :: none :: none :: none :: none :: none :: none :: none :: none :: none :: none :: none :: none :: none :: none :: none :: none :: none :: none :: none :: none :: none :: none :: none :: none :: none :: none :: none :: none :: none :: none :: none :: none :: none :: none :: none :: none :: none :: none :: none :: none :: none :: none :: none :: none :: none :: none :: none :: none :: none :: none :: none :: none :: none :: none :: none :: none :: none :: none :: none :: none :: none :: none :: none :: none :: none :: none :: none :: none :: none :: none :: none :: none :: none :: none :: none :: none :: none :: none :: none :: none :: none :: none :: none :: none :: none :: none :: none :: none :: none :: none :: none :: none :: none :: none :: none :: none :: none :: none :: none :: none :: none :: none :: none :: none :: none :: none :: none :: none :: none :: none :: none :: none :: none :: none :: none :: none :: none :: none :: none :: none :: none :: none :: none :: none :: none :: none :: none :: none :: none :: none :: none :: none :: none :: none :: none :: none :: none :: none :: none :: none :: none :: none :: none :: none :: none :: none :: none :: none :: none :: none :: none :: none :: none :: none :: none :: none :: none :: none :: none :: none :: none :: none :: none :: none :: none :: none :: none :: none :: none :: none :: none :: none :: none :: none :: none :: none :: none :: none :: none :: none :: none :: none :: none :: none :: none :: none :: none :: none :: none :: none :: none :: none :: none :: none :: none :: none :: none :: none :: none :: none :: none :: none :: none :: none :: none :: none :: none :: none :: none :: none :: none :: none :: none :: none :: none :: none :: none :: none :: none :: none :: none :: none :: none :: none :: none :: none :: none :: none :: none :: none :: none :: none :: none :: none :: none :: none :: none :: none :: none :: none :: none :: none :: none :: none :: none :: none :: none :: none :: none :: none :: none :: []) ts) es.length ?_ ?_
          · exact ⟨0, by omega, Ag.refl, by simp [frC]⟩
          · rintro m ts M8 ⟨j, hjm, A8, hf⟩
            have hm8 := A8.1
            have hA8 := hA7.then A8
            obtain ⟨f, rfl⟩ := frC_open _ _ 0 hf
            clear hf
            (refine top_in ?_; simp -implicitDefEqProofs only [go_sem, -List.reduceReplicate, ↓L_gdZ_tt, ↓L_gdZ_tf, ↓L_gdZ_ft, ↓L_gdZ_ff, ↓T_and, ↓T_imp, ↓T_all, o3, lz]; try simp only [top_out])
            refine ⟨fun e3 => ?_, fun e3 => ?_⟩
            · obtain ⟨n2, cap2, hzz, l1, l2, ea⟩ := (hz.ag hA8 (fun _ _ e => e)).at (by omega)
              have hg : es[j]? = some es[j] := List.getElem?_eq_getElem (by omega)
              generalize es[j] = ce at hg
              obtain ⟨g1, g2, g3, g4⟩ := ea j ce hg
              obtain ⟨p0, hp0⟩ : ∃ p0, tl[j]? = some p0 := by
                rw [hest, List.getElem?_map] at hg
                cases h : tl[j]? with
                | none => rw [h] at hg; cases hg
                | some p0 => exact ⟨p0, rfl⟩
              obtain rfl : ce = [p0.1] := by
                rw [hest, List.getElem?_map, hp0] at hg
                cases hg; rfl
              obtain ⟨he, hec⟩ := hes p0 (List.mem_of_getElem? hp0)
              have hlb := hsm j p0 (by omega) hp0
              obtain ⟨e, l⟩ := p0
              simp only at he hec hg hlb
              have he8 := he.ag hA8 (fun _ _ e => e)
              have hg0 := g4 0 (by decide)
              simp only [Nat.mul_one, Nat.add_zero] at g3 hg0
              have q1 : (cellsB M8[n2]?).getD j uS = e := getD_of hg0
              have oe := he8.one
              refine draw_rule tabOK (by kernel_rfl : _) (.p 0 (.p 1 (.p 2 (.p 3 (.p 4 (.p 5 (.p 6 (.p 7 (.p 8 (.p 9 (.e 10 [] (.p 11 (.p 12 (.p 13 (.p 14 (.p 15 .nil))))) .no))))))))))) (by kernel_rfl) (by kernel_rfl) ?_
              (refine top_in ?_; simp -implicitDefEqProofs only [go_sem, -List.reduceReplicate, ↓L_gdZ_tt, ↓L_gdZ_tf, ↓L_gdZ_ft, ↓L_gdZ_ff, ↓T_and, ↓T_imp, ↓T_all, hzz, q1, oe, o3]; try simp only [top_out])
              repeat (with_reducible refine And.intro (by omega) ?_)
              refine seal32 nk _ nn _ (lk.take 32) nonce l e M8 _ (hBk7.ag A8 (fun e => e)) k7 (by omega) (hBn7.ag A8 (fun e => e)) n12 he8 hec (by omega) (fun M9 ya hoa na A9 => ?_)
              have q2 : (cellsB M9[n2]?).getD j uS = e := by
                obtain ⟨n2', cap2', hzz', l1', l2', ea'⟩ := (hz.ag (hA8.then A9) (fun _ _ e => e)).at (by omega)
                cases hzz.symm.trans hzz'
                have := (ea' j _ hg).2.2.2 0 (by decide)
                simp only [Nat.mul_one, Nat.add_zero] at this
                exact getD_of this
              have q3 : j + 1 ≤ (cellsB M9[n2]?).length := by
                obtain ⟨n2', cap2', hzz', l1', l2', ea'⟩ := (hz.ag (hA8.then A9) (fun _ _ e => e)).at (by omega)
                cases hzz.symm.trans hzz'
                have := (ea' j _ hg).2.2.1
                omega
              (refine top_in ?_; simp -implicitDefEqProofs only [go_sem, -List.reduceReplicate, ↓L_gdZ_tt, ↓L_gdZ_tf, ↓L_gdZ_ft, ↓L_gdZ_ff, ↓T_and, ↓T_imp, ↓T_all, hoa.one, hzz, q2, oe, o3]; try simp only [top_out])
              refine draw_rule tabOK (by kernel_rfl : _) (.p 0 (.p 1 (.p 2 (.p 3 (.p 4 (.p 5 (.p 6 (.p 7 (.p 8 (.p 9 (.e 10 [] (.p 11 (.p 12 (.p 13 (.p 14 (.p 15 .nil))))) .no))))))))))) (by kernel_rfl) (by kernel_rfl) ?_
              (refine top_in ?_; simp -implicitDefEqProofs only [go_sem, -List.reduceReplicate, ↓L_gdZ_tt, ↓L_gdZ_tf, ↓L_gdZ_ft, ↓L_gdZ_ff, ↓T_and, ↓T_imp, ↓T_all, hoa.one, hzz, q2, oe, o3]; try simp only [top_out])
              repeat (with_reducible refine And.intro (by omega) ?_)
              refine refseal32 nk _ nn _ (lk.take 32) nonce l e M9 _ (hBk7.ag (A8.then A9) (fun e => e)) k7 (by omega) (hBn7.ag (A8.then A9) (fun e => e)) n12 (he8.ag A9 (fun _ _ e => e)) hec (by omega) (fun M10 yb hob nb A10 => ?_)
              (refine top_in ?_; simp -implicitDefEqProofs only [go_sem, -List.reduceReplicate, ↓L_gdZ_tt, ↓L_gdZ_tf, ↓L_gdZ_ft, ↓L_gdZ_ff, ↓T_and, ↓T_imp, ↓T_all, hoa.one, hob.one, o3]; try simp only [top_out])
              refine same_own (hoa.ag A10 (fun _ _ e => e)).byt hob.byt ?_
              (refine top_in ?_; simp -implicitDefEqProofs only [go_sem, -List.reduceReplicate, ↓L_gdZ_tt, ↓L_gdZ_tf, ↓L_gdZ_ft, ↓L_gdZ_ff, ↓T_and, ↓T_imp, ↓T_all, o3]; try simp only [top_out])
              exact ⟨m - 1, by omega, j + 1, by omega, A8.then (A9.then A10), by rw [w64 (by omega) (by omega)]; omega⟩
            · refine holdsD_ok M.length F4 c4 ps M8 _ (hD7.ag A8 (fun n _ _ h => h)) ?_
              (refine top_in ?_; simp -implicitDefEqProofs only [go_sem, -List.reduceReplicate, ↓L_gdZ_tt, ↓L_gdZ_tf, ↓L_gdZ_ft, ↓L_gdZ_ff, ↓T_and, ↓T_imp, ↓T_all]; try simp only [top_out])
              exact dropC_all hA8.1 (hK _)
end Go.Proofs.YtbiolfeincepoaaGreatDoor.Eng
