/- 'PacketOwn': the law's walk. -/
import Derived.Test.YtdkdbeamimkljaaGreatDoorMr
namespace Go.Proofs.YtdkdbeamimkljaaGreatDoor.Eng
open Go Go.RowKit
set_option linter.unusedSimpArgs false
set_option linter.unusedVariables false
/-- what a chain of keeps leaves: U: what has been kept so far -/
structure KC (M0 : List Blk) (c0 : Nat → Nat) (b : Nat) (U : Nat → Prop) (M : List Blk) (c : Nat → Nat) (F : Nat → SV) (ks ws : List (SV × List (BitVec 8))) (n : Nat) : Prop where
  ba : BA M c b 0 F ks ws
  len : ks.length = n
  z : ∀ d, c0 d = 0 → d < M0.length → ¬ U d → c d = 0
  hi : ∀ d, M.length ≤ d → c d = 0
  ag : Ag (fun d => c0 d ≠ 0 ∨ U d) M0 M
theorem keepS {M0 : List Blk} {c0 : Nat → Nat} {b : Nat} {U : Nat → Prop} {M : List Blk} {c : Nat → Nat} {F : Nat → SV} {ks ws : List (SV × List (BitVec 8))} {n : Nat} (h : KC M0 c0 b U M c F ks ws n) (U' : Nat → Prop) (y : SV) (l : List (BitVec 8)) (K : SV → List Blk → Prop) (ho : OwnG M0 y l) (hy : ∀ d, dnS y = some d → c0 d = 0 ∧ ¬ U d)
    (hU : ∀ d, U d ∨ dnS y = some d → U' d) (hl : l.length ≤ 800000) (hn : n ≤ 90000) (hK : ∀ v M' c' F' ks' ws', KC M0 c0 b U' M' c' F' ks' ws' (n + 1) → K v M') :
    callVC Tryz.prog 18 [.p b 0, y] M K := by
  have hm := h.ag.1
  refine keepN_ok b F c ks ws y l M K h.ba (ho.ag h.ag (fun d hd e => e.elim (fun e => e (hy d hd).1) (hy d hd).2)) (fun d hd => h.z d (hy d hd).1 (ho.dn d hd) (hy d hd).2) hl (by rw [h.len]; exact hn) (fun v M' F' c' ks' ws' hB hl' hz hh hA => ?_)
  refine hK v M' c' F' ks' ws' ⟨hB, by rw [hl', h.len], fun d h0 hd hu => hz d (h.z d h0 hd (fun e => hu (hU d (.inl e)))) (by omega) (fun e => hu (hU d (.inr e))), hh, ?_⟩
  refine Ag.trans (h.ag.mono (fun d e => e.imp id (fun e => hU d (.inl e)))) hA (fun d hd e => ?_)
  by_cases h0 : c0 d = 0
  · by_cases hu : U d
    · exact .inr (hU d (.inl hu))
    · exact absurd (h.z d h0 hd hu) e
  · exact .inl h0
structure PlE where
  sf : Int
  sh : BitVec 64
  sl : BitVec 64
  df : Int
  dh : BitVec 64
  dl : BitVec 64
  e : SV
  b : List (BitVec 8)
def plC (p : PlE) : List SV := [.i .i64 p.sf, .u64 p.sh, .u64 p.sl, .i .i64 p.df, .u64 p.dh, .u64 p.dl, p.e]
theorem sub_cells {cs l : List SV} {o n a k : Nat} (h : (cs.drop o).take n = l) (hk : a + k ≤ n) : (cs.drop (o + a)).take k = (l.drop a).take k := by
  subst h
  rw [List.drop_take, List.drop_drop, List.take_take, Nat.min_eq_left (by omega)]
theorem getD_sub {cs l : List SV} {o n a : Nat} {v : SV} (h : (cs.drop o).take n = l) (hv : l[a]? = some v) : cs.getD (o + a) uS = v := by
  subst h
  have ha : a < n := by
    rcases Nat.lt_or_ge a n with h | h
    · exact h
    · rw [List.getElem?_eq_none (by simp; omega)] at hv; cases hv
  rw [List.getElem?_take_of_lt ha, List.getElem?_drop] at hv
  rw [List.getD_eq_getElem?_getD, hv]; rfl
theorem same_own {M : List Blk} {x y : SV} {l : List (BitVec 8)} {K : SV → List Blk → Prop} (h1 : Byt M x l) (h2 : Byt M y l) (hK : K (.b true) M) : callVC Tryz.prog 9 [x, y] M K := same_byt M x y l l K h1 h2 (by rw [beq_self_eq_true]; exact hK)
/-- what an element of the list of payloads is, wherever the memory has not changed -/
theorem pl_at {M : List Blk} {z : SV} {tl : List PlE} (hz : Lst M 7 z (tl.map plC)) {i : Nat} {p : PlE} (hi : tl[i]? = some p) : ∃ n cap, z = .sl n 0 tl.length cap ∧ n < M.length ∧ ∀ {M' : List Blk}, Ag (fun _ => False) M M' → ((cellsB M'[n]?).drop (i * 7)).take 7 = plC p ∧ i * 7 + 7 ≤ (cellsB M'[n]?).length := by
  have hil := (List.getElem?_eq_some_iff.1 hi).1
  obtain ⟨n, cap, h1, h2, _, h4⟩ := hz.at (by rw [List.length_map]; omega)
  have hg : (tl.map plC)[i]? = some (plC p) := by rw [List.getElem?_map, hi]; rfl
  obtain ⟨q1, q2, q3, q4⟩ := h4 i _ hg
  refine ⟨n, cap, by rw [h1, List.length_map], h2, fun {M'} hA => ?_⟩
  have e : M'[n]? = M[n]? := hA.2 n h2 (fun h => h)
  rw [e]
  exact ⟨q1, q3⟩
set_option maxHeartbeats 8000000 in
set_option maxRecDepth 20000 in
theorem pown_ok (x z : SV) (key : List (BitVec 8)) (tl : List PlE) (M : List Blk) (K : SV → List Blk → Prop) (hkx : Byt M x key) (hz : Lst M 7 z (tl.map plC)) (hes : ∀ p ∈ tl, Byt M p.e p.b) (hK : ∀ M', K (.b true) M') :
    callVC Tryz.prog 3 [x, z] M K := by
  have o1 := hkx.one
  have o3 := hz.one
  have lx : ∀ {M' : List Blk} {e a' b' : Nat} {K : SV → Prop}, lenB (.slice e a' b') M' x K = K (.i .i64 key.length) := hkx.lenB
  have lz : ∀ {M' : List Blk} {e a' b' : Nat} {K : SV → Prop}, lenB (.slice e a' b') M' z K = K (.i .i64 tl.length) := by
    intro M' e a' b' K; rw [hz.lenB, List.length_map]
  refine fn_rule tabOK Tryz.func3 rfl Tryz.call3 (by kernel_rfl) (fun hM => ?_)
  (refine top_in ?_; simp -implicitDefEqProofs only [Tryz.ntmps3, Tryz.results3, go_sem, -List.reduceReplicate, ↓L_gdZ_tt, ↓L_gdZ_tf, ↓L_gdZ_ft, ↓L_gdZ_ff, ↓T_and, ↓T_imp, ↓T_all, o1, o3, lx, lz]; try simp only [top_out])
  refine pfirst_ok _ _ ?_
  (refine top_in ?_; simp -implicitDefEqProofs only [go_sem, -List.reduceReplicate, ↓L_gdZ_tt, ↓L_gdZ_tf, ↓L_gdZ_ft, ↓L_gdZ_ff, ↓T_and, ↓T_imp, ↓T_all, o1, o3, lx, lz]; try simp only [top_out])
  refine ⟨fun c1 => ⟨fun c2 => dropC_all (Nat.le_refl _) (hK _), fun c2 => ?_⟩, fun c1 => dropC_all (Nat.le_refl _) (hK _)⟩
  have k32 : key.length = 32 := by have := bneF c1; omega
  have hlen : tl.length ≤ 30 := by omega
  refine ⟨by decide, by decide, by decide, ?_⟩
  obtain ⟨B0, hB0⟩ : ∃ B0, Blk.row (SV.i IntKind.i64 0 :: SV.i IntKind.i64 0 :: List.replicate 51 SV.sn) 44 = B0 := ⟨_, rfl⟩
  rw [hB0]
  obtain ⟨z0, hz0⟩ : ∃ z0, List.replicate 3000 0#8 = z0 := ⟨_, rfl⟩
  have hz8 : z0.length = 3000 := by rw [← hz0]; exact List.length_replicate
  rw [hz0]
  refine roomy9_ok x key _ _ hkx.app (by omega) (fun M1 xk hok nk1 A1 => ?_)
  have hrk : (roomR key).length = 72 := by rw [roomR_len, k32]
  have hb1 := A1.at0 noS rfl
  have hr1 := A1.atk noS (k := 1) rfl
  have hA1 : Ag (fun _ => False) M M1 := Ag.app.then A1
  have nk3 := hok.dn
  obtain ⟨_, ⟨_, h0⟩ | ⟨nk, zk, tyk, rfl, hrwk⟩⟩ := hok
  · rw [h0] at hrk; cases hrk
  have nk2 := nk1 nk rfl
  have nk4 := nk3 nk rfl
  simp only [List.length_append, List.length_cons, List.length_nil] at nk2
  rw [hrk]
  (refine top_in ?_; simp -implicitDefEqProofs only [go_sem, -List.reduceReplicate, ↓L_gdZ_tt, ↓L_gdZ_tf, ↓L_gdZ_ft, ↓L_gdZ_ff, ↓T_and, ↓T_imp, ↓T_all, o1, o3, lx, lz, k32]; try simp only [top_out])
  repeat (with_reducible refine And.intro (by omega) ?_)
  have hBA0 : BA M1 (fun n => if n = M.length then 1 else 0) M.length 0 (fun _ => .sn) [] [] := BA.new (by rw [← hB0] at hb1; exact hb1) rfl
  refine loop_code tabOK (by kernel_rfl) (fun m ts M' => ∃ (i : Nat) (c : Nat → Nat) (F : Nat → SV) (ks ws : List (SV × List (BitVec 8))) (nr : Nat) (lr zr : List (BitVec 8)) (tyr : TypeId), i + m = tl.length ∧ ks.length ≤ 8 * i ∧ BA M' c M.length 0 F ks ws ∧ (∀ n, M'.length ≤ n ∨ n < M.length → c n = 0) ∧ c nk = 0 ∧ c nr = 0 ∧ nr ≠ nk ∧ M.length < nr ∧ M'[nk]? = some (.row (bS (roomR key ++ zk)) tyk) ∧ M'[nr]? = some (.row (bS (lr ++ zr)) tyr) ∧ lr.length ≤ 100000 ∧ Ag (fun _ => False) M M' ∧
    frC (some (x) :: some (z) :: none :: none :: none :: some (.b true) :: some (.p M.length 0) :: some (.sl nr 0 lr.length (lr.length + zr.length)) :: some (.sl nk 0 72 (72 + zk.length)) :: some (.sl nk 0 32 (72 + zk.length)) :: some (.i .i64 i) :: none :: none :: none :: none :: none :: none :: none :: none :: none :: none :: none :: none :: none :: none :: none :: none :: none :: none :: none :: none :: none :: none :: none :: none :: none :: none :: none :: none :: none :: none :: none :: none :: none :: none :: none :: none :: none :: none :: none :: none :: none :: none :: none :: none :: none :: none :: none :: none :: none :: none :: none :: none :: none :: none :: none :: none :: none :: none :: none :: none :: none :: none :: none :: none :: none :: none :: none :: none :: none :: none :: none :: none :: none :: none :: none :: none :: none :: none :: none :: none :: none :: none :: none :: none :: none :: none :: none :: none :: none :: none :: none :: none :: none :: none :: none :: none :: none :: none :: none :: none :: none :: none :: none :: none :: none :: none :: none :: none :: none :: none :: none :: none :: none :: none :: none :: none :: none :: none :: none :: none :: none :: none :: none :: none :: none :: none :: none :: none :: none :: none :: none :: none :: none :: none :: none :: none :: none :: none :: none :: none :: none :: none :: none :: none :: none :: none :: none :: none :: none :: none :: none :: none :: none :: none :: none :: none :: none :: none :: none :: none :: none :: none :: none :: none :: none :: none :: none :: none :: none :: none :: none :: none :: none :: none :: none :: none :: none :: none :: none :: none :: none :: none :: none :: none :: none :: none :: none :: none :: none :: none :: none :: none :: none :: none :: none :: none :: none :: none :: none :: none :: none :: none :: none :: none :: none :: none :: none :: none :: none :: none :: none :: none :: none :: none :: none :: none :: none :: none :: none :: none :: none :: none :: none :: none :: none :: none :: none :: none :: none :: none :: none :: none :: none :: none :: none :: none :: none :: none :: none :: none :: none :: none :: none :: none :: none :: none :: none :: none :: none :: none :: none :: none :: none :: none :: none :: none :: none :: none :: none :: none :: none :: none :: none :: none :: none :: none :: none :: none :: none :: none :: none :: none :: none :: none :: none :: none :: none :: none :: none :: none :: none :: none :: none :: none :: none :: none :: none :: none :: none :: none :: none :: none :: none :: none :: none :: none :: none :: none :: none :: none :: none :: none :: none :: none :: none :: none :: none :: none :: none :: none :: none :: none :: none :: none :: none :: none :: none :: none :: none :: none :: none :: none :: none :: none :: []) ts) tl.length ?_ ?_
  · exact ⟨0, _, _, [], [], M.length + 1, [], z0, _, by omega, by simp, hBA0, fun n hn => if_neg (by have := A1.1; simp at this; omega), if_neg (by omega), if_neg (by omega), by omega, by omega, hrwk, hr1, by simp, hA1, by simp [frC, hz8]⟩
  · rintro m ts M3 ⟨i, c, F, ks, ws, nr, lr, zr, tyr, him, hkl, hBA, hc0, ck, cr, hrk1, hrm, hk3, hr3, hlr, hA3, hf⟩
    have hm3 := hA3.1
    have hwk3 := kwMem hk3
    have hwr3 := kwMem hr3
    obtain ⟨f, rfl⟩ := frC_open _ _ 0 hf
    clear hf
    (refine top_in ?_; simp -implicitDefEqProofs only [go_sem, -List.reduceReplicate, ↓L_gdZ_tt, ↓L_gdZ_tf, ↓L_gdZ_ft, ↓L_gdZ_ff, ↓T_and, ↓T_imp, ↓T_all, lz, o1, o3]; try simp only [top_out])
    refine ⟨fun e1 => ?_, fun e1 => ?_⟩
    · obtain ⟨p0, hp0⟩ : ∃ p0, tl[i]? = some p0 := ⟨_, List.getElem?_eq_getElem (by omega)⟩
      obtain ⟨n2, cap2, hzz, hn2, ea⟩ := pl_at hz hp0
      have he := hes p0 (List.mem_of_getElem? hp0)
      obtain ⟨sf, sh, sl, df, dh, dl, e, b⟩ := p0
      simp only [plC] at he ea hp0
      have oe := he.one
      have le : ∀ {M' : List Blk} {e' a' b' : Nat} {K : SV → Prop}, lenB (.slice e' a' b') M' e K = K (.i .i64 b.length) := he.lenB
      obtain ⟨q1, q2⟩ := ea hA3
      have he3 := he.ag hA3 (fun _ _ e => e)
      (refine top_in ?_; simp -implicitDefEqProofs only [go_sem, -List.reduceReplicate, ↓L_gdZ_tt, ↓L_gdZ_tf, ↓L_gdZ_ft, ↓L_gdZ_ff, ↓T_and, ↓T_imp, ↓T_all, hzz, q1, oe, le]; try simp only [top_out])
      repeat (with_reducible refine And.intro (by omega) ?_)
      refine refPut_e sf sh sl df dh dl e b M3 _ he3 (fun hp M4 yx hox nx A4 => ?_) (fun hp => ?_)
      · obtain ⟨pg1, pg2, pg3, pg4, pg5⟩ := put_get hp
        have hm4 := A4.1
        have hA4 := hA3.then A4
        (refine top_in ?_; simp -implicitDefEqProofs only [go_sem, -List.reduceReplicate, ↓L_gdZ_tt, ↓L_gdZ_tf, ↓L_gdZ_ft, ↓L_gdZ_ff, ↓T_and, ↓T_imp, ↓T_all, hox.one, hzz, Int.reduceBNe]; try simp only [top_out])
        generalize hX : payL sf sh sl df dh dl b = X at *
        have hbl : b.length ≤ 1280 := by have := payL_len sf sh sl df dh dl b; rw [hX] at this; omega
        have lxx : ∀ {M' : List Blk} {e' a' b' : Nat} {K : SV → Prop}, lenB (.slice e' a' b') M' yx K = K (.i .i64 X.length) := hox.lenB
        have hr4 := A4.get hr3 (fun h => h)
        have fx : ∀ d, dnS yx = some d → M3.length ≤ d ∧ d < M4.length := fun d hd => ⟨nx d hd, hox.dn d hd⟩
        repeat (with_reducible refine And.intro (by omega) ?_)
        refine appO (w := X) (l := []) rfl rfl rfl ⟨by simp, .inr ⟨nr, lr ++ zr, tyr, by rw [List.length_append]; simp, by simpa using hr4⟩⟩ hox.byt.src (by simp; omega) (fun M5 y5 ho5 n5 A5 => ?_)
        rw [List.nil_append] at ho5
        (refine top_in ?_; simp -implicitDefEqProofs only [go_sem, -List.reduceReplicate, ↓L_gdZ_tt, ↓L_gdZ_tf, ↓L_gdZ_ft, ↓L_gdZ_ff, ↓T_and, ↓T_imp, ↓T_all, ho5.one]; try simp only [top_out])
        have hm5 := A5.1
        refine ⟨by decide, appO (w := [47#8, 11#8]) rfl rfl rfl ho5.app (src_row (z := []) (ty := 5) (by rw [get_app0]; rfl) rfl) (by simp; omega) (fun M6 y6 ho6 n6 A6 => ?_)⟩
        have hm6 := A6.1
        rw [List.length_append, List.length_singleton] at hm6 n6
        have hA46 : Ag (fun n => n = nr) M4 M6 := Ag.trans (A5.mono (fun n h => by cases h; rfl)) (S' := fun n => dnS y5 = some n) (Ag.app.then A6) (fun n hn h => by have := n5 n h; omega)
        have hA36 : Ag (fun n => n = nr) M3 M6 := (A4.mono (fun n h => h.elim)).then hA46
        obtain ⟨_, ⟨_, h0⟩ | ⟨np, zp, typ, rfl, hrp⟩⟩ := ho6
        · simp at h0
        have hnp := n6 np rfl
        have hlp : (X ++ [47#8, 11#8]).length = X.length + 2 := by simp
        rw [hlp]
        have hA6 : Ag (fun _ => False) M M6 := Ag.trans hA3 hA36 (fun n hn h => by omega)
        have hk6 := hA36.get hk3 (fun h => hrk1 h.symm)
        have hox6 := hox.ag hA46 (fun d hd e => by have := fx d hd; omega)
        have hBp : BAt M6 np 0 X := BAt.row (z := [47#8, 11#8] ++ zp) (ty := typ) (by rw [← List.append_assoc]; exact hrp)
        have hBk : BAt M6 nk 0 key := BAt.row (z := markR 40 ++ zk) (ty := tyk) (by rw [← List.append_assoc]; exact hk6)
        (refine top_in ?_; simp -implicitDefEqProofs only [go_sem, -List.reduceReplicate, ↓L_gdZ_tt, ↓L_gdZ_tf, ↓L_gdZ_ft, ↓L_gdZ_ff, ↓T_and, ↓T_imp, ↓T_all, hox.one, lxx]; try simp only [top_out])
        repeat (with_reducible refine And.intro (by omega) ?_)
        refine getPay_o np _ X M6 _ hBp (by omega) (by omega) (fun hg M7 yp hop np7 A7 => ?_) (fun hg => by rw [pg1] at hg; cases hg)
        rw [pg3]
        rw [pg2] at hop
        unfold plS
        have cI' : BitVec.ofInt 64 (i : Int) = cI i := rfl
        (refine top_in ?_; simp -implicitDefEqProofs only [go_sem, -List.reduceReplicate, ↓L_gdZ_tt, ↓L_gdZ_tf, ↓L_gdZ_ft, ↓L_gdZ_ff, ↓T_and, ↓T_imp, ↓T_all, hop.one, cI']; try simp only [top_out])
        have hm7 := A7.1
        have hA67 : Ag (fun _ => False) M6 (M7 ++ [Blk.row [SV.i .i64 sf, .u64 sh, .u64 sl, .i .i64 df, .u64 dh, .u64 dl, yp] 52, Blk.row [SV.i .i64 3, .i .i64 1, .i .i64 1, .u64 (cI i)] 57]) := A7.then Ag.app
        refine draw_rule tabOK (by kernel_rfl : _) (.p 0 (.p 1 (.p 2 (.p 3 (.p 4 (.p 5 (.p 6 (.e 7 [] (.p 8 (.p 9 (.p 10 (.p 11 (.p 12 .nil))))) .no)))))))) (by kernel_rfl) (by kernel_rfl) ?_
        (refine top_in ?_; simp -implicitDefEqProofs only [go_sem, -List.reduceReplicate, ↓L_gdZ_tt, ↓L_gdZ_tf, ↓L_gdZ_ft, ↓L_gdZ_ff, ↓T_and, ↓T_imp, ↓T_all, hop.one, hox.one, lxx]; try simp only [top_out])
        repeat (with_reducible refine And.intro (by omega) ?_)
        refine pseal_o nk _ np _ key X i _ _ (hBk.ag hA67 (fun e => e)) k32 (by omega) (hBp.ag hA67 (fun e => e)) (by omega) (by omega) (by omega) (by omega) (fun M8 ya hoa na A8 => ?_)
        have r13 := A8.at0 noS rfl
        have r15 := A8.atk noS (k := 1) rfl
        have hA68 := hA67.then A8
        (refine top_in ?_; simp -implicitDefEqProofs only [go_sem, -List.reduceReplicate, ↓L_gdZ_tt, ↓L_gdZ_tf, ↓L_gdZ_ft, ↓L_gdZ_ff, ↓T_and, ↓T_imp, ↓T_all, hoa.one]; try simp only [top_out])
        refine draw_rule tabOK (by kernel_rfl : _) (.p 0 (.p 1 (.p 2 (.p 3 (.p 4 (.p 5 (.p 6 (.e 7 [] (.p 8 (.p 9 (.p 10 (.p 11 (.p 12 .nil))))) .no)))))))) (by kernel_rfl) (by kernel_rfl) ?_
        (refine top_in ?_; simp -implicitDefEqProofs only [go_sem, -List.reduceReplicate, ↓L_gdZ_tt, ↓L_gdZ_tf, ↓L_gdZ_ft, ↓L_gdZ_ff, ↓T_and, ↓T_imp, ↓T_all, hoa.one, hox.one, lxx, r15]; try simp only [top_out])
        repeat (with_reducible refine And.intro (by omega) ?_)
        refine pseal_o nk _ np _ key X i M8 _ (hBk.ag hA68 (fun e => e)) k32 (by omega) (hBp.ag hA68 (fun e => e)) (by omega) (by omega) (by omega) (by omega) (fun M9 yb hob nb A9 => ?_)
        have hA69 := hA68.then A9
        have r13 := A9.get r13 (fun h => h)
        have r15 := A9.get r15 (fun h => h)
        have hoa9 := hoa.ag A9 (fun _ _ e => e)
        have hrp9 := hA69.get hrp (fun e => e)
        have hBp9 := hBp.ag hA69 (fun e => e)
        have hBP : Byt M9 (.sl np 0 X.length (X.length + (2 + zp.length))) X := ⟨by omega, .inr (.inr ⟨np, 0, _, rfl, hBp9, .inl (by rw [liveN_eq, hrp9]; simp only [liveB_row, bS_length, List.length_append, decide_eq_true_eq]; simp; omega)⟩)⟩
        (refine top_in ?_; simp -implicitDefEqProofs only [go_sem, -List.reduceReplicate, ↓L_gdZ_tt, ↓L_gdZ_tf, ↓L_gdZ_ft, ↓L_gdZ_ff, ↓T_and, ↓T_imp, ↓T_all, hoa.one, hob.one, hox.one, lxx]; try simp only [top_out])
        repeat (with_reducible refine And.intro (by omega) ?_)
        refine same_own hBP (hox6.ag hA69 (fun _ _ e => e)).byt ?_
        have hBW : BAt M9 np 0 (X ++ [47#8, 11#8]) := BAt.row hrp9
        have h47 : (X ++ [47#8, 11#8]).getD X.length 0#8 = 47#8 := by simp [List.getD_eq_getElem?_getD]
        have h11 : (X ++ [47#8, 11#8]).getD (X.length + 1) 0#8 = 11#8 := by simp [List.getD_eq_getElem?_getD]
        have u1 := hBW.is8 (j := X.length) (by omega)
        have u2 := hBW.cell8 (j := X.length) (by omega)
        have u3 := hBW.is8 (j := X.length + 1) (by omega)
        have u4 := hBW.cell8 (j := X.length + 1) (by omega)
        have u5 := hBW.le (j := X.length + 2) (by omega)
        rw [h47] at u2
        rw [h11] at u4
        simp only [Nat.zero_add] at u1 u2 u3 u4 u5
        have w1 : IntKind.i64.wrap ((X.length : Int) + 1) = ((X.length + 1 : Nat) : Int) := by rw [w64 (by omega) (by omega)]; omega
        have be : ∀ v : BitVec 8, (v == v) = true := fun v => by simp
        (refine top_in ?_; simp -implicitDefEqProofs only [go_sem, -List.reduceReplicate, ↓L_gdZ_tt, ↓L_gdZ_tf, ↓L_gdZ_ft, ↓L_gdZ_ff, ↓T_and, ↓T_imp, ↓T_all, hoa.one, hob.one, hox.one, lxx, u1, u2, u3, u4, w1, be]; try simp only [top_out])
        repeat (with_reducible refine And.intro (by omega) ?_)
        refine same_own hoa9.byt hob.byt ?_
        (refine top_in ?_; simp -implicitDefEqProofs only [go_sem, -List.reduceReplicate, ↓L_gdZ_tt, ↓L_gdZ_tf, ↓L_gdZ_ft, ↓L_gdZ_ff, ↓T_and, ↓T_imp, ↓T_all, hoa.one, hob.one]; try simp only [top_out])
        have hA9 : Ag (fun _ => False) M M9 := hA6.then hA69
        obtain ⟨q19, q29⟩ := ea hA9
        have hop9 := hop.ag (Ag.app.then (A8.then A9)) (fun _ _ e => e)
        refine draw_rule tabOK (by kernel_rfl : _) (.p 0 (.p 1 (.p 2 (.p 3 (.p 4 (.e 5 [] (.p 6 .nil) .no)))))) (by kernel_rfl) (by kernel_rfl) ?_
        (refine top_in ?_; simp -implicitDefEqProofs only [go_sem, -List.reduceReplicate, ↓L_gdZ_tt, ↓L_gdZ_tf, ↓L_gdZ_ft, ↓L_gdZ_ff, ↓T_and, ↓T_imp, ↓T_all, hop.one, r13, hzz, q19, oe]; try simp only [top_out])
        repeat (with_reducible refine And.intro (by omega) ?_)
        refine samePay_e sf sh sl df dh dl yp e b M9 _ hop9.byt (he.ag hA9 (fun _ _ e => e)) ?_
        (refine top_in ?_; simp -implicitDefEqProofs only [go_sem, -List.reduceReplicate, ↓L_gdZ_tt, ↓L_gdZ_tf, ↓L_gdZ_ft, ↓L_gdZ_ff, ↓T_and, ↓T_imp, ↓T_all]; try simp only [top_out])
        refine num_ok 0 _ _ ?_
        (refine top_in ?_; simp -implicitDefEqProofs only [go_sem, -List.reduceReplicate, ↓L_gdZ_tt, ↓L_gdZ_tf, ↓L_gdZ_ft, ↓L_gdZ_ff, ↓T_and, ↓T_imp, ↓T_all, Int.reduceBNe]; try simp only [top_out])
        refine num_ok 0 _ _ ?_
        (refine top_in ?_; simp -implicitDefEqProofs only [go_sem, -List.reduceReplicate, ↓L_gdZ_tt, ↓L_gdZ_tf, ↓L_gdZ_ft, ↓L_gdZ_ff, ↓T_and, ↓T_imp, ↓T_all, Int.reduceBNe, hoa.one]; try simp only [top_out])
        have hS := psealL_len key 0 3 1 1 (cI i) X
        generalize hSS : psealL key 0 3 1 1 (cI i) X = S at *
        refine bytes_own ya S M9 _ hoa9.byt (by omega) (fun M10 ys hos ns A10 => ?_)
        (refine top_in ?_; simp -implicitDefEqProofs only [go_sem, -List.reduceReplicate, ↓L_gdZ_tt, ↓L_gdZ_tf, ↓L_gdZ_ft, ↓L_gdZ_ff, ↓T_and, ↓T_imp, ↓T_all, hos.one]; try simp only [top_out])
        refine ⟨by decide, appO (w := [47#8, 11#8]) rfl rfl rfl hos.app (src_row (z := []) (ty := 5) (by rw [get_app0]; rfl) rfl) (by simp; omega) (fun M11 y11 ho11 n11 A11 => ?_)⟩
        have hm10 := A10.1
        have hm11 := A11.1
        rw [List.length_append, List.length_singleton] at hm11 n11
        have hA911 : Ag (fun _ => False) M9 M11 := Ag.trans A10 (S' := fun n => dnS ys = some n) (Ag.app.then A11) (fun n hn h => by have := ns n h; omega)
        obtain ⟨_, ⟨_, h0⟩ | ⟨nz, zz, tyz, rfl, hr11⟩⟩ := ho11
        · simp at h0
        have hl11 : (S ++ [47#8, 11#8]).length = X.length + 38 := by rw [List.length_append, hS]; simp
        have la : ∀ {M' : List Blk} {e' a' b' : Nat} {K : SV → Prop}, lenB (.slice e' a' b') M' ya K = K (.i .i64 (X.length + 36 : Nat)) := by intro M' e' a' b' K; rw [hoa.lenB, hS]
        have nz2 := n11 nz rfl
        rw [hl11]
        have hBS : BAt M11 nz 0 S := BAt.row (z := [47#8, 11#8] ++ zz) (ty := tyz) (by rw [← List.append_assoc]; exact hr11)
        have hA611 := hA69.then hA911
        (refine top_in ?_; simp -implicitDefEqProofs only [go_sem, -List.reduceReplicate, ↓L_gdZ_tt, ↓L_gdZ_tf, ↓L_gdZ_ft, ↓L_gdZ_ff, ↓T_and, ↓T_imp, ↓T_all, hoa.one, la]; try simp only [top_out])
        repeat (with_reducible refine And.intro (by omega) ?_)
        refine popen_o nk _ nz _ key X i M11 _ (hBk.ag hA611 (fun e => e)) k32 (by omega) (by omega) (by omega) (by omega) (by rw [hSS]; exact hBS) (by omega) (fun M12 yq hoq nq A12 => ?_)
        unfold pkS
        (refine top_in ?_; simp -implicitDefEqProofs only [go_sem, -List.reduceReplicate, ↓L_gdZ_tt, ↓L_gdZ_tf, ↓L_gdZ_ft, ↓L_gdZ_ff, ↓T_and, ↓T_imp, ↓T_all, hoa.one, hoq.one, la]; try simp only [top_out])
        repeat (with_reducible refine And.intro (by omega) ?_)
        have hA612 := hA611.then A12
        refine popen_o nk _ nz _ key X i _ _ (hBk.ag (hA612.then Ag.app) (fun e => e)) k32 (by omega) (by omega) (by omega) (by omega) (by rw [hSS]; exact hBS.ag (A12.then Ag.app) (fun e => e)) (by omega) (fun M13 yr hor nr13 A13 => ?_)
        have r24 := A13.at0 noS rfl
        have hA613 := (hA612.then Ag.app).then A13
        have hA13 := hA6.then hA613
        obtain ⟨qa, qb⟩ := ea (hA13.then (Ag.app (L := [Blk.row [SV.i .i64 3, .i .i64 1, .i .i64 1, .u64 (cI i), yr] 61])))
        have qe := getD_sub (a := 6) (v := e) qa rfl
        unfold pkS
        (refine top_in ?_; simp -implicitDefEqProofs only [go_sem, -List.reduceReplicate, ↓L_gdZ_tt, ↓L_gdZ_tf, ↓L_gdZ_ft, ↓L_gdZ_ff, ↓T_and, ↓T_imp, ↓T_all, hor.one, hzz, qe, oe]; try simp only [top_out])
        repeat (with_reducible refine And.intro (by omega) ?_)
        refine roomy9_ok e b _ _ (he.ag (hA13.then Ag.app) (fun _ _ e => e)) (by omega) (fun M14 ybd hobd nbd A14 => ?_)
        have r26 := A14.at0 noS rfl
        have r24 := A14.get ((get_lt (kwMem r24)).trans r24) (fun h => h)
        have hA614 := (hA613.then Ag.app).then A14
        have hA14 := hA6.then hA614
        obtain ⟨qa4, qb4⟩ := ea hA14
        have f0 := sub_cells (a := 0) (k := 3) qa4 (by omega)
        have f3 := sub_cells (a := 3) (k := 3) qa4 (by omega)
        have qe4 := getD_sub (a := 6) (v := e) qa4 rfl
        simp only [List.drop_zero, List.drop_succ_cons, List.take_succ_cons, List.take_zero, Nat.add_zero] at f0 f3
        have hrb := roomR_len b
        have hobd0 := hobd
        have dbd := hobd.dn
        obtain ⟨_, ⟨_, h0⟩ | ⟨nbr, zb, tyb, rfl, hrb14⟩⟩ := hobd0
        · rw [h0] at hrb; simp at hrb
        have nb2 := nbd nbr rfl
        have hBb : BAt M14 nbr 0 b := BAt.row (z := markR 40 ++ zb) (ty := tyb) (by rw [← List.append_assoc]; exact hrb14)
        (refine top_in ?_; simp -implicitDefEqProofs only [go_sem, -List.reduceReplicate, ↓L_gdZ_tt, ↓L_gdZ_tf, ↓L_gdZ_ft, ↓L_gdZ_ff, ↓T_and, ↓T_imp, ↓T_all]; try simp only [top_out])
        refine draw_rule tabOK (by kernel_rfl : _) (.p 0 (.p 1 (.p 2 (.p 3 (.p 4 (.p 5 (.p 6 (.p 7 (.p 8 (.p 9 (.p 10 (.p 11 (.p 12 (.p 13 (.p 14 (.p 15 (.p 16 (.p 17 (.p 18 (.e 19 [] (.p 20 (.p 21 (.p 22 (.p 23 (.p 24 .nil))))) .no)))))))))))))))))))) (by kernel_rfl) (by kernel_rfl) ?_
        (refine top_in ?_; simp -implicitDefEqProofs only [go_sem, -List.reduceReplicate, ↓L_gdZ_tt, ↓L_gdZ_tf, ↓L_gdZ_ft, ↓L_gdZ_ff, ↓T_and, ↓T_imp, ↓T_all, hzz, f0, f3, qe4, oe, le, hrb]; try simp only [top_out])
        repeat (with_reducible refine And.intro (by omega) ?_)
        refine putPay_o sf sh sl df dh dl nbr _ b M14 _ hBb (by omega) hp (fun M15 yy hoy ny A15 => ?_)
        rw [hX] at hoy
        have hA15 := hA14.then A15
        obtain ⟨qa5, qb5⟩ := ea hA15
        have qe5 := getD_sub (a := 6) (v := e) qa5 rfl
        (refine top_in ?_; simp -implicitDefEqProofs only [go_sem, -List.reduceReplicate, ↓L_gdZ_tt, ↓L_gdZ_tf, ↓L_gdZ_ft, ↓L_gdZ_ff, ↓T_and, ↓T_imp, ↓T_all, hoy.one, hzz, qe5, oe]; try simp only [top_out])
        repeat (with_reducible refine And.intro (by omega) ?_)
        refine roomy9_ok e b M15 _ (he.ag hA15 (fun _ _ e => e)) (by omega) (fun M16 yb2 hob2 nb2' A16 => ?_)
        (refine top_in ?_; simp -implicitDefEqProofs only [go_sem, -List.reduceReplicate, ↓L_gdZ_tt, ↓L_gdZ_tf, ↓L_gdZ_ft, ↓L_gdZ_ff, ↓T_and, ↓T_imp, ↓T_all, hoy.one, hob2.one]; try simp only [top_out])
        have hbdb : Byt M16 (.sl nbr 0 (b.length + 40) (b.length + (40 + zb.length))) (roomR b) := by
          have h := ((hobd.ag A15 (fun _ _ e => e)).ag A16 (fun _ _ e => e)).byt
          rw [hrb, Nat.add_assoc] at h
          exact h
        refine same_own hbdb hob2.byt ?_
        (refine top_in ?_; simp -implicitDefEqProofs only [go_sem, -List.reduceReplicate, ↓L_gdZ_tt, ↓L_gdZ_tf, ↓L_gdZ_ft, ↓L_gdZ_ff, ↓T_and, ↓T_imp, ↓T_all]; try simp only [top_out])
        refine nonce_o i M16 _ (by omega) (fun M17 yn hon nn A17 => ?_)
        have hA1417 := A15.then (A16.then A17)
        have hA917 : Ag (fun _ => False) M9 M17 := (hA911.then A12).then ((Ag.app.then A13).then ((Ag.app.then A14).then hA1417))
        have r15 := hA917.get r15 (fun h => h)
        (refine top_in ?_; simp -implicitDefEqProofs only [go_sem, -List.reduceReplicate, ↓L_gdZ_tt, ↓L_gdZ_tf, ↓L_gdZ_ft, ↓L_gdZ_ff, ↓T_and, ↓T_imp, ↓T_all, hon.one, r15]; try simp only [top_out])
        refine putHead_o i M17 _ (by omega) (fun M18 yh hoh nh A18 => ?_)
        have r24 := (hA1417.then A18).get r24 (fun h => h)
        have r26 := (hA1417.then A18).get r26 (fun h => h)
        have r13 := (hA917.then A18).get r13 (fun h => h)
        have hox18 := (hox6.ag hA69 (fun _ _ e => e)).ag (hA917.then A18) (fun _ _ e => e)
        have hoq18 := hoq.ag ((Ag.app.then A13).then ((Ag.app.then A14).then (hA1417.then A18))) (fun _ _ e => e)
        have hor18 := hor.ag ((Ag.app.then A14).then (hA1417.then A18)) (fun _ _ e => e)
        have hoy18 := hoy.ag (A16.then (A17.then A18)) (fun _ _ e => e)
        (refine top_in ?_; simp -implicitDefEqProofs only [go_sem, -List.reduceReplicate, ↓L_gdZ_tt, ↓L_gdZ_tf, ↓L_gdZ_ft, ↓L_gdZ_ff, ↓T_and, ↓T_imp, ↓T_all, hoh.one, r24]; try simp only [top_out])
        refine same_own hoq18.byt hox18.byt ?_
        (refine top_in ?_; simp -implicitDefEqProofs only [go_sem, -List.reduceReplicate, ↓L_gdZ_tt, ↓L_gdZ_tf, ↓L_gdZ_ft, ↓L_gdZ_ff, ↓T_and, ↓T_imp, ↓T_all, r26]; try simp only [top_out])
        refine same_own hor18.byt hox18.byt ?_
        (refine top_in ?_; simp -implicitDefEqProofs only [go_sem, -List.reduceReplicate, ↓L_gdZ_tt, ↓L_gdZ_tf, ↓L_gdZ_ft, ↓L_gdZ_ff, ↓T_and, ↓T_imp, ↓T_all]; try simp only [top_out])
        refine same_own hoy18.byt hox18.byt ?_
        have hr18 := (A12.then ((Ag.app.then A13).then ((Ag.app.then A14).then (hA1417.then A18)))).get hr11 (fun h => h)
        have hBS18 : BAt M18 nz 0 S := BAt.row (z := [47#8, 11#8] ++ zz) (ty := tyz) (by rw [← List.append_assoc]; exact hr18)
        have hSb : Byt M18 (.sl nz 0 (X.length + 36) (X.length + (38 + zz.length))) S := ⟨by omega, .inr (.inr ⟨nz, 0, _, by rw [hS], hBS18, .inl (by rw [liveN_eq, hr18]; simp only [liveB_row, bS_length, List.length_append, decide_eq_true_eq]; simp; omega)⟩)⟩
        have hoa18 := hoa9.ag (hA917.then A18) (fun _ _ e => e)
        (refine top_in ?_; simp -implicitDefEqProofs only [go_sem, -List.reduceReplicate, ↓L_gdZ_tt, ↓L_gdZ_tf, ↓L_gdZ_ft, ↓L_gdZ_ff, ↓T_and, ↓T_imp, ↓T_all, hoa.one, la]; try simp only [top_out])
        repeat (with_reducible refine And.intro (by omega) ?_)
        refine same_own hSb hoa18.byt ?_
        have hBZ : BAt M18 nz 0 (S ++ [47#8, 11#8]) := BAt.row hr18
        have z47 : (S ++ [47#8, 11#8]).getD (X.length + 36) 0#8 = 47#8 := by rw [← hS]; simp [List.getD_eq_getElem?_getD]
        have z11 : (S ++ [47#8, 11#8]).getD (X.length + 37) 0#8 = 11#8 := by rw [show X.length + 37 = S.length + 1 by omega]; simp [List.getD_eq_getElem?_getD]
        have s1 := hBZ.is8 (j := X.length + 36) (by omega)
        have s2 := hBZ.cell8 (j := X.length + 36) (by omega)
        have s3 := hBZ.is8 (j := X.length + 37) (by omega)
        have s4 := hBZ.cell8 (j := X.length + 37) (by omega)
        have s5 := hBZ.le (j := X.length + 38) (by omega)
        rw [z47] at s2
        rw [z11] at s4
        simp only [Nat.zero_add] at s1 s2 s3 s4 s5
        have w2 : IntKind.i64.wrap (((X.length + 36 : Nat) : Int) + 1) = ((X.length + 37 : Nat) : Int) := by rw [w64 (by omega) (by omega)]; omega
        have hA918 := hA917.then A18
        have hp18 := hA918.get hrp9 (fun h => h)
        have hk18 := (hA69.then hA918).get hk6 (fun h => h)
        have hBk18 := hBk.ag (hA69.then hA918) (fun e => e)
        have x34 := A4.1
        have x7 := A8.1
        rw [List.length_append, List.length_cons, List.length_singleton] at x7
        have x8 := A9.1
        have x912 := A12.1
        have x12 := A13.1
        rw [List.length_append, List.length_singleton] at x12
        have x13 := A14.1
        rw [List.length_append, List.length_singleton] at x13
        have x14 := A15.1
        have x15 := A16.1
        have x16 := A17.1
        have x17 := A18.1
        have hwp := kwMem hrp
        have hwz := kwMem hr11
        have d1 : nk ≠ nz := by omega
        have d2 : nk ≠ np := by omega
        have d3 : nz ≠ np := by omega
        (refine top_in ?_; simp -implicitDefEqProofs only [go_sem, -List.reduceReplicate, ↓L_gdZ_tt, ↓L_gdZ_tf, ↓L_gdZ_ft, ↓L_gdZ_ff, ↓T_and, ↓T_imp, ↓T_all, hoa.one, hox.one, la, lxx, s1, s2, s3, s4, w2, be]; try simp only [top_out])
        repeat (with_reducible refine And.intro (by omega) ?_)
        refine draw_rule tabOK (by kernel_rfl : _) (.p 0 (.p 1 (.p 2 (.p 3 (.p 4 (.p 5 (.p 6 (.p 7 (.p 8 (.e 9 [] (.p 10 .nil) .no)))))))))) (by kernel_rfl) (by kernel_rfl) ?_
        (refine top_in ?_; simp -implicitDefEqProofs only [go_sem, -List.reduceReplicate, ↓L_gdZ_tt, ↓L_gdZ_tf, ↓L_gdZ_ft, ↓L_gdZ_ff, ↓T_and, ↓T_imp, ↓T_all, hoa.one, hox.one, la, lxx]; try simp only [top_out])
        repeat (with_reducible refine And.intro (by omega) ?_)
        refine turnedL_ok nk _ nz _ np _ i key X ([47#8, 11#8] ++ zz) ([47#8, 11#8] ++ zp) tyz typ M18 _ hBk18 k32 (by omega) (by omega) (by omega) (by omega) (by rw [hSS, ← List.append_assoc]; exact hr18) (by omega) (by rw [← List.append_assoc]; exact hp18) (by omega) d1 d2 d3 (fun M19 X' hX' hp19 A19 => ?_)
        have x18 := A19.1
        (refine top_in ?_; simp -implicitDefEqProofs only [go_sem, -List.reduceReplicate, ↓L_gdZ_tt, ↓L_gdZ_tf, ↓L_gdZ_ft, ↓L_gdZ_ff, ↓T_and, ↓T_imp, ↓T_all, hoa.one]; try simp only [top_out])
        have c0 : ∀ n, M3.length ≤ n → c n = 0 := fun n hn => hc0 n (.inl hn)
        have hA319 : Ag (fun n => n = nr ∨ n = nz ∨ n = np) M3 M19 := (hA36.mono (fun n h => .inl h)).then (((hA69.then hA918).mono (fun n h => h.elim)).then (A19.mono (fun n h => .inr h)))
        have hBA19 := hBA.ag hA319 (fun n hn h0 h => by
          rcases h with h | h | h
          · exact h0 (h ▸ cr)
          · omega
          · omega)
        have hKC : KC M19 c M.length (fun _ => False) M19 c F ks ws ks.length := ⟨hBA19, rfl, fun d h _ _ => h, fun d hd => c0 d (by omega), Ag.refl⟩
        have ag19 : ∀ {y : SV} {l : List (BitVec 8)}, OwnG M18 y l → NmG (fun d => d ≠ nz ∧ d ≠ np) y → OwnG M19 y l := fun h hn => h.ag A19 (fun d hd e => e.elim (hn d hd).1 (hn d hd).2)
        have fa : ∀ d, dnS ya = some d → M7.length + 2 ≤ d ∧ d < M8.length := fun d hd => ⟨by have := na d hd; simpa using this, hoa.dn d hd⟩
        have fb : ∀ d, dnS yb = some d → M8.length ≤ d ∧ d < M9.length := fun d hd => ⟨nb d hd, hob.dn d hd⟩
        have fq : ∀ d, dnS yq = some d → M11.length ≤ d ∧ d < M12.length := fun d hd => ⟨nq d hd, hoq.dn d hd⟩
        have fr : ∀ d, dnS yr = some d → M12.length + 1 ≤ d ∧ d < M13.length := fun d hd => ⟨by have := nr13 d hd; simpa using this, hor.dn d hd⟩
        have fy : ∀ d, dnS yy = some d → M14.length ≤ d ∧ d < M15.length := fun d hd => ⟨ny d hd, hoy.dn d hd⟩
        have fn : ∀ d, dnS yn = some d → M16.length ≤ d ∧ d < M17.length := fun d hd => ⟨nn d hd, hon.dn d hd⟩
        have fh : ∀ d, dnS yh = some d → M17.length ≤ d ∧ d < M18.length := fun d hd => ⟨nh d hd, hoh.dn d hd⟩
        have fp : ∀ d, dnS yp = some d → M6.length ≤ d ∧ d < M7.length := fun d hd => ⟨np7 d hd, hop.dn d hd⟩
        refine keepS hKC (fun d => M7.length + 2 ≤ d ∧ d < M8.length) ya S _ (ag19 hoa18.g (fun d hd => by have := fa d hd; omega)) (fun d hd => ⟨c0 d (by have := fa d hd; omega), fun h => h⟩) (fun d h => h.elim (fun h => h.elim) (fa d)) (by omega) (by omega) (fun v1 Ma ca Fa' ka wa hKa => ?_)
        (refine top_in ?_; simp -implicitDefEqProofs only [go_sem, -List.reduceReplicate, ↓L_gdZ_tt, ↓L_gdZ_tf, ↓L_gdZ_ft, ↓L_gdZ_ff, ↓T_and, ↓T_imp, ↓T_all, hob.one]; try simp only [top_out])
        refine keepS hKa (fun d => M7.length + 2 ≤ d ∧ d < M9.length) yb S _ (ag19 (hob.ag hA918 (fun _ _ e => e)).g (fun d hd => by have := fb d hd; omega)) (fun d hd => ⟨c0 d (by have := fb d hd; omega), fun h => by have := fb d hd; omega⟩) (fun d h => h.elim (fun h => by omega) (fun h => by have := fb d h; omega)) (by omega) (by omega) (fun v2 Mb cb Fb' kb wb hKb => ?_)
        have r24' := hKb.ag.get (A19.get r24 (fun h => by omega)) (fun h => h.elim (fun h => h (c0 _ (by omega))) (fun h => by omega))
        (refine top_in ?_; simp -implicitDefEqProofs only [go_sem, -List.reduceReplicate, ↓L_gdZ_tt, ↓L_gdZ_tf, ↓L_gdZ_ft, ↓L_gdZ_ff, ↓T_and, ↓T_imp, ↓T_all, r24']; try simp only [top_out])
        refine keepS hKb (fun d => M7.length + 2 ≤ d ∧ d < M12.length) yq X _ (ag19 hoq18.g (fun d hd => by have := fq d hd; omega)) (fun d hd => ⟨c0 d (by have := fq d hd; omega), fun h => by have := fq d hd; omega⟩) (fun d h => h.elim (fun h => by omega) (fun h => by have := fq d h; omega)) (by omega) (by omega) (fun v3 Mc cc Fc' kc wc hKc => ?_)
        have r26' := hKc.ag.get (A19.get r26 (fun h => by omega)) (fun h => h.elim (fun h => h (c0 _ (by omega))) (fun h => by omega))
        (refine top_in ?_; simp -implicitDefEqProofs only [go_sem, -List.reduceReplicate, ↓L_gdZ_tt, ↓L_gdZ_tf, ↓L_gdZ_ft, ↓L_gdZ_ff, ↓T_and, ↓T_imp, ↓T_all, r26']; try simp only [top_out])
        refine keepS hKc (fun d => M7.length + 2 ≤ d ∧ d < M13.length) yr X _ (ag19 hor18.g (fun d hd => by have := fr d hd; omega)) (fun d hd => ⟨c0 d (by have := fr d hd; omega), fun h => by have := fr d hd; omega⟩) (fun d h => h.elim (fun h => by omega) (fun h => by have := fr d h; omega)) (by omega) (by omega) (fun v4 Md cd Fd' kd wd hKd => ?_)
        (refine top_in ?_; simp -implicitDefEqProofs only [go_sem, -List.reduceReplicate, ↓L_gdZ_tt, ↓L_gdZ_tf, ↓L_gdZ_ft, ↓L_gdZ_ff, ↓T_and, ↓T_imp, ↓T_all, hoy.one]; try simp only [top_out])
        refine keepS hKd (fun d => M7.length + 2 ≤ d ∧ d < M15.length) yy X _ (ag19 hoy18.g (fun d hd => by have := fy d hd; omega)) (fun d hd => ⟨c0 d (by have := fy d hd; omega), fun h => by have := fy d hd; omega⟩) (fun d h => h.elim (fun h => by omega) (fun h => by have := fy d h; omega)) (by omega) (by omega) (fun v5 Me ce Fe' ke we hKe => ?_)
        (refine top_in ?_; simp -implicitDefEqProofs only [go_sem, -List.reduceReplicate, ↓L_gdZ_tt, ↓L_gdZ_tf, ↓L_gdZ_ft, ↓L_gdZ_ff, ↓T_and, ↓T_imp, ↓T_all, hon.one]; try simp only [top_out])
        have hnl := nonceL_len 0 1 (cI i)
        refine keepS hKe (fun d => M7.length + 2 ≤ d ∧ d < M17.length) yn _ _ (ag19 (hon.ag A18 (fun _ _ e => e)).g (fun d hd => by have := fn d hd; omega)) (fun d hd => ⟨c0 d (by have := fn d hd; omega), fun h => by have := fn d hd; omega⟩) (fun d h => h.elim (fun h => by omega) (fun h => by have := fn d h; omega)) (by omega) (by omega) (fun v6 Mf cf Ff kf wf hKf => ?_)
        (refine top_in ?_; simp -implicitDefEqProofs only [go_sem, -List.reduceReplicate, ↓L_gdZ_tt, ↓L_gdZ_tf, ↓L_gdZ_ft, ↓L_gdZ_ff, ↓T_and, ↓T_imp, ↓T_all, hoh.one]; try simp only [top_out])
        have hhl := headL_len 3 1 1 (cI i)
        refine keepS hKf (fun d => M7.length + 2 ≤ d ∧ d < M18.length) yh _ _ (ag19 hoh.g (fun d hd => by have := fh d hd; omega)) (fun d hd => ⟨c0 d (by have := fh d hd; omega), fun h => by have := fh d hd; omega⟩) (fun d h => h.elim (fun h => by omega) (fun h => by have := fh d h; omega)) (by omega) (by omega) (fun v7 Mg cg Fg kg wg hKg => ?_)
        have r13' := hKg.ag.get (A19.get r13 (fun h => by omega)) (fun h => h.elim (fun h => h (c0 _ (by omega))) (fun h => by omega))
        (refine top_in ?_; simp -implicitDefEqProofs only [go_sem, -List.reduceReplicate, ↓L_gdZ_tt, ↓L_gdZ_tf, ↓L_gdZ_ft, ↓L_gdZ_ff, ↓T_and, ↓T_imp, ↓T_all, r13']; try simp only [top_out])
        refine keepS hKg (fun d => M6.length ≤ d ∧ d < M18.length) yp b _ (ag19 (hop9.ag (hA917.then A18) (fun _ _ e => e)) (fun d hd => by have := fp d hd; omega)) (fun d hd => ⟨c0 d (by have := fp d hd; omega), fun h => by have := fp d hd; omega⟩) (fun d h => h.elim (fun h => by omega) (fun h => by have := fp d h; omega)) (by omega) (by omega) (fun v8 Mh ch Fh kh wh hKh => ?_)
        have y19 := hKh.ag.1
        (refine top_in ?_; simp -implicitDefEqProofs only [go_sem, -List.reduceReplicate, ↓L_gdZ_tt, ↓L_gdZ_tf, ↓L_gdZ_ft, ↓L_gdZ_ff, ↓T_and, ↓T_imp, ↓T_all]; try simp only [top_out])
        have hAh : Ag (fun _ => False) M Mh := Ag.trans (Ag.trans hA3 hA319 (fun n hn h => by omega)) hKh.ag (fun n hn h => h.elim (fun h => h (hc0 n (.inr hn))) (fun h => by omega))
        have gt : ∀ {d : Nat} {B : Blk}, M19[d]? = some B → c d = 0 → d < M6.length → Mh[d]? = some B := fun hB h0 hd => hKh.ag.get hB (fun h => h.elim (fun h => h h0) (fun h => by omega))
        refine ⟨m - 1, by omega, i + 1, ch, Fh, kh, wh, np, X' ++ [47#8, 11#8], zp, typ, by omega, by have := hKh.len; omega, hKh.ba, fun n hn => ?_, hKh.z nk ck (by omega) (by omega), hKh.z np (c0 np (by omega)) (by omega) (by omega), by omega, by omega, gt (A19.get hk18 (fun h => by omega)) ck (by omega), ?_, by simp; omega, hAh, ?_⟩
        · rcases hn with hn | hn
          · exact hKh.hi n hn
          · exact hKh.z n (hc0 n (.inr hn)) (by omega) (by omega)
        · rw [List.append_assoc]; exact gt hp19 (c0 np (by omega)) (by omega)
        · have hl2 : (X' ++ [47#8, 11#8]).length = X.length + 2 := by simp; omega
          exact ⟨⟨rfl, by rw [hl2], by rw [hl2]; omega⟩, by rw [w64 (by omega) (by omega)]; omega⟩
      · (refine top_in ?_; simp -implicitDefEqProofs only [go_sem, -List.reduceReplicate, ↓L_gdZ_tt, ↓L_gdZ_tf, ↓L_gdZ_ft, ↓L_gdZ_ff, ↓T_and, ↓T_imp, ↓T_all, Int.reduceBNe]; try simp only [top_out])
        exact ⟨m - 1, by omega, i + 1, c, F, ks, ws, nr, lr, zr, tyr, by omega, by omega, hBA, hc0, ck, cr, hrk1, hrm, hk3, hr3, hlr, hA3, by simp, by rw [w64 (by omega) (by omega)]; omega⟩
    · have hie : i = tl.length := by omega
      refine roomy9_ok x key M3 _ (hkx.ag hA3 (fun _ _ e => e)) (by omega) (fun M4 y4 ho4 n4 A4 => ?_)
      have hk4 := A4.get hk3 (fun h => h)
      have hOk : OwnB M4 (.sl nk 0 72 (72 + zk.length)) (roomR key) := by
        have : OwnB M4 (.sl nk 0 (roomR key).length ((roomR key).length + zk.length)) (roomR key) := ⟨by omega, .inr ⟨nk, zk, tyk, rfl, hk4⟩⟩
        rwa [hrk] at this
      (refine top_in ?_; simp -implicitDefEqProofs only [go_sem, -List.reduceReplicate, ↓L_gdZ_tt, ↓L_gdZ_tf, ↓L_gdZ_ft, ↓L_gdZ_ff, ↓T_and, ↓T_imp, ↓T_all, ho4.one]; try simp only [top_out])
      refine same_own hOk.byt ho4.byt ?_
      (refine top_in ?_; simp -implicitDefEqProofs only [go_sem, -List.reduceReplicate, ↓L_gdZ_tt, ↓L_gdZ_tf, ↓L_gdZ_ft, ↓L_gdZ_ff, ↓T_and, ↓T_imp, ↓T_all]; try simp only [top_out])
      refine finish_ok M.length F c ks ws M4 _ (hBA.ag A4 (fun _ _ _ h => h)) (by omega) (fun M5 F5 c5 ps hD hc5 A5 => ?_)
      (refine top_in ?_; simp -implicitDefEqProofs only [go_sem, -List.reduceReplicate, ↓L_gdZ_tt, ↓L_gdZ_tf, ↓L_gdZ_ft, ↓L_gdZ_ff, ↓T_and, ↓T_imp, ↓T_all]; try simp only [top_out])
      exact dropC_all (by have := A4.1; have := A5.1; omega) (hK _)
end Go.Proofs.YtdkdbeamimkljaaGreatDoor.Eng
