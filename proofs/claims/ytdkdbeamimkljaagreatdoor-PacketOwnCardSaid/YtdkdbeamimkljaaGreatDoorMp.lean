/- Joined texts: B8, B9, Ba. -/
import Derived.Test.YtdkdbeamimkljaaGreatDoorMo
namespace Go.Proofs.YtdkdbeamimkljaaGreatDoor.Eng
set_option linter.unusedSimpArgs false
set_option linter.unusedVariables false
open Go Go.RowKit
structure BA (M : List Blk) (c : Nat → Nat) (b : Nat) (base : Int) (F : Nat → SV) (ks ws : List (SV × List (BitVec 8))) : Prop where
  bk : Bk M b base 0 F
  cb : c b = 1
  x : SlO M (F 2) (ks.map (·.1))
  cx : NmG (fun n => c n = 2) (F 2)
  w : SlO M (F 3) (ws.map (·.1))
  cw : NmG (fun n => c n = 3) (F 3)
  g : F 4 = .sn
  no : NoKind F
  kb : KB M c ks
  wb : ∀ (i : Nat) e, ws[i]? = some e → Byt M e.1 e.2 ∧ NmG (fun n => c n = 5) e.1
  same : ks.map (·.2) = ws.map (·.2)
  small : ∀ e ∈ ks, e.2.length ≤ 800000
theorem BA.ag {S : Nat → Prop} {M M' : List Blk} {c : Nat → Nat} {b : Nat} {base : Int} {F : Nat → SV} {ks ws : List (SV × List (BitVec 8))} (h : BA M c b base F ks ws) (hA : Ag S M M') (hS : ∀ n, n < M.length → c n ≠ 0 → ¬ S n) : BA M' c b base F ks ws := by
  have hbl : b < M.length := by obtain ⟨R, ty, hb, _⟩ := h.bk; exact kwMem hb
  refine ⟨h.bk.ag hA (hS b hbl (by rw [h.cb]; decide)), h.cb, h.x.ag hA (fun d hd => hS d (Own.dn h.x d hd) (by have := h.cx d hd; omega)), h.cx, h.w.ag hA (fun d hd => hS d (Own.dn h.w d hd) (by have := h.cw d hd; omega)), h.cw, h.g, h.no, h.kb.ag hA (fun _ _ _ => rfl) (fun n hn h6 => hS n hn (by omega)), fun i e he => ?_, h.same, h.small⟩
  obtain ⟨h1, h2⟩ := h.wb i e he
  exact ⟨h1.ag hA (fun d hd => hS d (h1.dn d hd) (by have := h2 d hd; omega)), h2⟩
theorem BA.lens {M : List Blk} {c : Nat → Nat} {b : Nat} {base : Int} {F : Nat → SV} {ks ws : List (SV × List (BitVec 8))} (h : BA M c b base F ks ws) : ws.length = ks.length := by
  have := congrArg List.length h.same
  simpa using this.symm
theorem BA.new {M : List Blk} {b : Nat} {R : List SV} {ty : TypeId} (hb : M[b]? = some (.row R ty)) (hR : R = .i .i64 0 :: .i .i64 0 :: List.replicate 51 .sn) : BA M (fun n => if n = b then 1 else 0) b 0 (fun _ => .sn) [] [] := by
  subst hR
  refine ⟨⟨_, ty, hb, by simp, rfl, rfl, fun j h2 h53 => ?_⟩, if_pos rfl, SlO.sn, NmG.sn, SlO.sn, NmG.sn, rfl, fun _ _ _ => rfl, fun i e he => by simp at he, fun i e he => by simp at he, rfl, fun e he => by simp at he⟩
  obtain ⟨k, rfl⟩ : ∃ k, j = k + 2 := ⟨j - 2, by omega⟩
  rw [List.getElem?_cons_succ, List.getElem?_cons_succ, List.getElem?_replicate, if_pos (by omega)]
  exact ⟨rfl, rfl⟩
theorem keepA_ok (b : Nat) (base : Int) (F : Nat → SV) (c : Nat → Nat) (ks ws : List (SV × List (BitVec 8))) (y : SV) (l : List (BitVec 8)) (M : List Blk) (K : SV → List Blk → Prop) (h : BA M c b base F ks ws) (ho : OwnG M y l) (cy : NmG (fun n => c n = 0) y) (hl : l.length ≤ 800000) (hkl : ks.length ≤ 90000)
    (hK : ∀ (v : SV) (M' : List Blk) (F' : Nat → SV) (c' : Nat → Nat) (ws' : List (SV × List (BitVec 8))), BA M' c' b base F' (ks ++ [(y, l)]) ws' → (∀ n, n < M.length → c n ≠ 0 → c' n = c n) → (∀ n, n < M.length → c n = 0 → dnS y ≠ some n → c' n = 0) → Ag (fun n => c n ≠ 0) M M' → K v M') :
    callVC Tryz.prog 18 [.p b 0, y] M K := by
  have hwl := h.lens
  have hbl : b < M.length := by obtain ⟨R, ty, hb, _⟩ := h.bk; exact kwMem hb
  refine keep_ok b base 0 F c (ks.map (·.1)) (ws.map (·.1)) y l M K h.bk h.cb h.x h.cx h.w h.cw ho.byt (fun d hd => by have := cy d hd; omega) (by rw [List.length_map]; omega) (by rw [List.length_map]; omega) (fun v M1 F1 c1 w hF1 hB1 hc1 hx1 cx1 hw1 cw1 hbw cw hA => ?_)
  have hyl : ∀ d, dnS y = some d → d < M.length := fun d hd => ho.dn d hd
  have hny : ∀ n, c n ≠ 0 → dnS y ≠ some n := fun n hn e => hn (cy n e)
  obtain ⟨c2, hc2⟩ : ∃ c2 : Nat → Nat, ∀ n, c2 n = if dnS y = some n then 6 + ks.length else c1 n := ⟨_, fun _ => rfl⟩
  have hold : ∀ n, n < M.length → c n ≠ 0 → c2 n = c n := fun n hn h0 => ((hc2 n).trans (if_neg (hny n h0))).trans (hc1 n hn)
  have hnew : ∀ n, M.length ≤ n → c2 n = c1 n := fun n hn => (hc2 n).trans (if_neg (fun e => by have := hyl n e; omega))
  have hc12 : ∀ n, c1 n ≠ 0 → c2 n = c1 n := fun n h0 => by
    rcases Nat.lt_or_ge n M.length with g | g
    · rw [hc1 n g] at h0 ⊢
      exact hold n g h0
    · exact hnew n g
  have hAS : Ag (fun n => c n ≠ 0) M M1 := hA.mono (fun n e => by omega)
  refine hK v M1 F1 c2 (ws ++ [(w, l)]) ⟨hB1, (hold b hbl (by rw [h.cb]; decide)).trans h.cb, by rw [List.map_append]; exact hx1, fun d hd => (hc12 d (by rw [cx1 d hd]; decide)).trans (cx1 d hd), by rw [List.map_append]; exact hw1, fun d hd => (hc12 d (by rw [cw1 d hd]; decide)).trans (cw1 d hd), (hF1 4 (by decide) (by decide)).trans h.g, fun q h5 h53 => (hF1 q (by omega) (by omega)).trans (h.no q h5 h53), fun i e he => ?_, fun i e he => ?_, by rw [List.map_append, List.map_append, h.same]; rfl, fun e he => ?_⟩ hold (fun n hn h0 hy => ((hc2 n).trans (if_neg hy)).trans ((hc1 n hn).trans h0)) hAS
  · rcases Nat.lt_or_ge i ks.length with g | g
    · rw [List.getElem?_append_left g] at he
      obtain ⟨h1, h2⟩ := h.kb i e he
      exact ⟨h1.ag hA (fun d hd e' => by have := h2 d hd; omega), fun d hd => (hold d (h1.dn d hd) (by have := h2 d hd; omega)).trans (h2 d hd)⟩
    · rw [List.getElem?_append_right g] at he
      have hi : i = ks.length := by
        rcases Nat.eq_or_lt_of_le g with e1 | e1
        · exact e1.symm
        · rw [List.getElem?_eq_none (by simp; omega)] at he; cases he
      subst hi
      rw [Nat.sub_self] at he
      cases he
      exact ⟨ho.ag hA (fun d hd e' => by have := cy d hd; omega), fun d hd => (hc2 d).trans (if_pos hd)⟩
  · rcases Nat.lt_or_ge i ws.length with g | g
    · rw [List.getElem?_append_left g] at he
      obtain ⟨h1, h2⟩ := h.wb i e he
      exact ⟨h1.ag hA (fun d hd e' => by have := h2 d hd; omega), fun d hd => (hold d (h1.dn d hd) (by have := h2 d hd; omega)).trans (h2 d hd)⟩
    · rw [List.getElem?_append_right g] at he
      have hi : i - ws.length = 0 := by
        rcases Nat.eq_or_lt_of_le g with e1 | e1
        · omega
        · rw [List.getElem?_eq_none (by simp; omega)] at he; cases he
      rw [hi] at he
      cases he
      exact ⟨hbw, fun d hd => (hc12 d (by rw [cw d hd]; decide)).trans (cw d hd)⟩
  · rcases List.mem_append.1 he with g | g
    · exact h.small e g
    · rw [List.mem_singleton.1 g]; exact hl
structure BD (M : List Blk) (c : Nat → Nat) (b : Nat) (F : Nat → SV) (ps : List (SV × SV)) : Prop where
  bk : Bk M b 0 1 F
  cb : c b = 1
  x : SlO M (F 2) (ps.map (·.1))
  cx : NmG (fun n => c n = 2) (F 2)
  g : SlO M (F 4) (ps.map (·.2))
  cg : NmG (fun n => c n = 4) (F 4)
  no : NoKind F
  pg : PG M c 1 0 ps 900000 0
  len : ps.length ≤ 100000
theorem BD.ag {S : Nat → Prop} {M M' : List Blk} {c : Nat → Nat} {b : Nat} {F : Nat → SV} {ps : List (SV × SV)} (h : BD M c b F ps) (hA : Ag S M M') (hS : ∀ n, n < M.length → c n ≠ 0 → ¬ S n) : BD M' c b F ps := by
  have hbl : b < M.length := by obtain ⟨R, ty, hb, _⟩ := h.bk; exact kwMem hb
  exact ⟨h.bk.ag hA (hS b hbl (by rw [h.cb]; decide)), h.cb, h.x.ag hA (fun d hd => hS d (Own.dn h.x d hd) (by have := h.cx d hd; omega)), h.cx, h.g.ag hA (fun d hd => hS d (Own.dn h.g d hd) (by have := h.cg d hd; omega)), h.cg, h.no, h.pg.ag hA (fun _ _ => rfl) (fun n hn h6 => hS n hn (by omega)), h.len⟩
theorem holdsD_ok (b : Nat) (F : Nat → SV) (c : Nat → Nat) (ps : List (SV × SV)) (M : List Blk) (K : SV → List Blk → Prop) (h : BD M c b F ps) (hK : K (.b true) M) : callVC Tryz.prog 42 [.p b 0] M K := by
  have hsh : ∀ (i : Nat) p, ps[i]? = some p → Shows M 1 (0 + (i : Int) + 1) p.1 ∧ Shows M 1 (0 + (i : Int) + 1) p.2 := fun i p hp => by
    obtain ⟨⟨lx, ly, q1, q2, q3, q4, q5, q6, _⟩, _, _⟩ := h.pg i p hp
    rw [if_neg (by omega)] at q6
    exact ⟨⟨lx, q1, by omega, q4⟩, ⟨ly, q2.byt, by omega, q5⟩⟩
  refine holds_ok b 0 1 F (ps.map (·.1)) (ps.map (·.2)) M K h.bk h.x h.g (fun i y hy => ?_) (fun i y hy => ?_) h.no (by decide) (by rw [List.length_map]; exact h.len) hK
  · rw [List.getElem?_map] at hy
    cases hp : ps[i]? with
    | none => rw [hp] at hy; cases hy
    | some p => rw [hp] at hy; cases hy; exact (hsh i p hp).1
  · rw [List.getElem?_map] at hy
    cases hp : ps[i]? with
    | none => rw [hp] at hy; cases hy
    | some p => rw [hp] at hy; cases hy; exact (hsh i p hp).2
theorem markTo_all {pass id : Int} {ks : List (SV × List (BitVec 8))} {i : Nat} {e : SV × List (BitVec 8)} (h : (markTo pass id ks ks.length)[i]? = some e) : ∃ e0, ks[i]? = some e0 ∧ e.1 = e0.1 ∧ e.2 = markL pass (id + (i : Int) + 1) e0.2.length := by
  have hi : i < ks.length := by
    have := (List.getElem?_eq_some_iff.1 h).1
    rwa [markTo_len] at this
  obtain ⟨e0, he0⟩ : ∃ e0, ks[i]? = some e0 := ⟨_, List.getElem?_eq_getElem hi⟩
  rw [markTo_get he0, if_pos hi] at h
  cases h
  exact ⟨e0, he0, rfl, rfl⟩
theorem at_fst' {α β : Type} {es : List (α × β)} {k : Nat} {l : α} (h : (es.map (·.1))[k]? = some l) : ∃ e, es[k]? = some e ∧ e.1 = l := by
  rw [List.getElem?_map] at h
  cases hg : es[k]? with
  | none => rw [hg] at h; cases h
  | some e => rw [hg] at h; cases h; exact ⟨e, rfl, rfl⟩
theorem PG.mono {M : List Blk} {c : Nat → Nat} {pass id : Int} {ps : List (SV × SV)} {N N' : Nat} (h : PG M c pass id ps N 0) (hN : N ≤ N') : PG M c pass id ps N' 0 := fun k p hp => by
  obtain ⟨⟨lx, ly, q1, q2, q3, q4, q5, q6, q7⟩, n1, n2⟩ := h k p hp
  rw [if_neg (by omega)] at q6
  exact ⟨⟨lx, ly, q1, q2, q3, q4, q5, by rw [if_neg (by omega)]; omega, q7⟩, n1, n2⟩
theorem untouched_ok (b : Nat) (base : Int) (F : Nat → SV) (c : Nat → Nat) (ks ws : List (SV × List (BitVec 8))) (M : List Blk) (K : SV → List Blk → Prop) (h : BA M c b base F ks ws) (hkl : ks.length ≤ 90000) (hK : K (.b true) M) :
    callVC Tryz.prog 40 [.p b 0] M K := by
  have hwl := h.lens
  refine fn_rule tabOK Tryz.func40 rfl Tryz.call40 (by kernel_rfl) (fun hM => ?_)
  (refine top_in ?_; simp -implicitDefEqProofs only [Tryz.ntmps40, Tryz.results40, go_sem, -List.reduceReplicate, ↓L_gdZ_tt, ↓L_gdZ_tf, ↓L_gdZ_ft, ↓L_gdZ_ff, ↓T_and, ↓T_imp, ↓T_all]; try simp only [top_out])
  refine was_ok b base 0 F (ks.map (·.1)) (ws.map (·.1)) M _ h.bk h.no h.x h.w (by rw [List.length_map, List.length_map]; exact hwl) (by rw [List.length_map]; omega) (fun i x w hx hw => ?_) ?_
  · obtain ⟨e, he, rfl⟩ := at_fst' hx
    obtain ⟨e', he', rfl⟩ := at_fst' hw
    have h1 := (h.kb i e he).1.byt
    have h2 := (h.wb i e' he').1
    have hs : e.2 = e'.2 := by
      have := congrArg (fun l : List (List (BitVec 8)) => l[i]?) h.same
      simp only [List.getElem?_map, he, he', Option.map_some, Option.some.injEq] at this
      exact this
    exact ⟨e.2, h1, by rw [hs]; exact h2⟩
  · (refine top_in ?_; simp -implicitDefEqProofs only [go_sem, -List.reduceReplicate, ↓L_gdZ_tt, ↓L_gdZ_tf, ↓L_gdZ_ft, ↓L_gdZ_ff, ↓T_and, ↓T_imp, ↓T_all]; try simp only [top_out])
    refine wasOf_ok b base 0 F M _ h.bk h.no ?_
    (refine top_in ?_; simp -implicitDefEqProofs only [go_sem, -List.reduceReplicate, ↓L_gdZ_tt, ↓L_gdZ_tf, ↓L_gdZ_ft, ↓L_gdZ_ff, ↓T_and, ↓T_imp, ↓T_all]; try simp only [top_out])
    refine wasToo_ok b base 0 F M _ h.bk h.no ?_
    (refine top_in ?_; simp -implicitDefEqProofs only [go_sem, -List.reduceReplicate, ↓L_gdZ_tt, ↓L_gdZ_tf, ↓L_gdZ_ft, ↓L_gdZ_ff, ↓T_and, ↓T_imp, ↓T_all]; try simp only [top_out])
    exact dropC_all (Nat.le_refl _) hK
set_option maxHeartbeats 4000000 in
set_option maxRecDepth 20000 in
theorem finish_ok (b : Nat) (F : Nat → SV) (c : Nat → Nat) (ks ws : List (SV × List (BitVec 8))) (M : List Blk) (K : SV → List Blk → Prop) (h : BA M c b 0 F ks ws) (hkl : ks.length ≤ 90000) (hK : ∀ (M' : List Blk) (F' : Nat → SV) (c' : Nat → Nat) (ps : List (SV × SV)), BD M' c' b F' ps → (∀ n, n < M.length → c' n = c n) → Ag (fun n => c n ≠ 0) M M' → K (.b true) M') :
    callVC Tryz.prog 19 [.p b 0] M K := by
  have hbl : b < M.length := by obtain ⟨R, ty, hb, _⟩ := h.bk; exact kwMem hb
  refine fn_rule tabOK Tryz.func19 rfl Tryz.call19 (by kernel_rfl) (fun hM => ?_)
  (refine top_in ?_; simp -implicitDefEqProofs only [Tryz.ntmps19, Tryz.results19, go_sem, -List.reduceReplicate, ↓L_gdZ_tt, ↓L_gdZ_tf, ↓L_gdZ_ft, ↓L_gdZ_ff, ↓T_and, ↓T_imp, ↓T_all]; try simp only [top_out])
  refine untouched_ok b 0 F c ks ws M _ h hkl ?_
  (refine top_in ?_; simp -implicitDefEqProofs only [go_sem, -List.reduceReplicate, ↓L_gdZ_tt, ↓L_gdZ_tf, ↓L_gdZ_ft, ↓L_gdZ_ff, ↓T_and, ↓T_imp, ↓T_all]; try simp only [top_out])
  refine write_ok b 0 0 F c ks M _ h.bk h.cb h.x h.cx h.kb h.no (by decide) (by omega) (fun v1 M1 hk1 A1 => ?_)
  have hB1 := h.bk.ag A1 (by rw [h.cb]; decide)
  have hx1 := h.x.ag A1 (fun d hd e => by have := h.cx d hd; omega)
  have hl1 := markTo_len 0 0 ks ks.length
  have hf1 := markTo_fst 0 0 ks ks.length
  have hsh : ∀ {M : List Blk} {pass : Int} {ks0 : List (SV × List (BitVec 8))}, KB M c (markTo pass 0 ks0 ks0.length) → (∀ e ∈ ks0, e.2.length ≤ 800000) → ∀ (i : Nat) y, (ks0.map (·.1))[i]? = some y → Shows M pass (0 + (i : Int) + 1) y := fun {M pass ks0} hk hs i y hy => by
    obtain ⟨e, he, rfl⟩ := at_fst' hy
    have hi := (List.getElem?_eq_some_iff.1 he).1
    have he2 := markTo_get (pass := pass) (id := 0) (i := ks0.length) he
    rw [if_pos hi] at he2
    have := (hk i _ he2).1.byt
    refine ⟨_, this, ?_, ?_⟩
    · rw [markL_len]; have := hs e (List.mem_of_getElem? he); omega
    · rw [markL_len]
  (refine top_in ?_; simp -implicitDefEqProofs only [go_sem, -List.reduceReplicate, ↓L_gdZ_tt, ↓L_gdZ_tf, ↓L_gdZ_ft, ↓L_gdZ_ff, ↓T_and, ↓T_imp, ↓T_all]; try simp only [top_out])
  refine holds_ok b 0 0 F (ks.map (·.1)) [] M1 _ hB1 hx1 (by rw [h.g]; exact SlO.sn) (hsh hk1 h.small) (fun i y hy => by simp at hy) h.no (by decide) (by rw [List.length_map]; omega) ?_
  obtain ⟨R1, ty1, hb1, hR1⟩ := hB1
  have hlen1 := hR1.len
  (refine top_in ?_; simp -implicitDefEqProofs only [go_sem, -List.reduceReplicate, ↓L_gdZ_tt, ↓L_gdZ_tf, ↓L_gdZ_ft, ↓L_gdZ_ff, ↓T_and, ↓T_imp, ↓T_all, hb1, hlen1]; try simp only [top_out])
  have hbl1 := kwMem hb1
  have hm1 := A1.1
  have hM2 : Ag (fun n => n = b) M1 (M1.set b (.row (R1.set 1 (.i .i64 1)) ty1)) := Ag.set rfl
  have hB2 : Bk (M1.set b (.row (R1.set 1 (.i .i64 1)) ty1)) b 0 1 F := ⟨_, ty1, gss0 hbl1, hR1.pass 1⟩
  generalize M1.set b (.row (R1.set 1 (.i .i64 1)) ty1) = M2 at hM2 hB2 ⊢
  have hA2 : Ag (fun n => c n ≠ 0) M M2 := Ag.trans (A1.mono (fun n e => by omega)) hM2 (fun n _ e => by rw [e, h.cb]; decide)
  have hk2 : KB M2 c (markTo 0 0 ks ks.length) := hk1.ag hM2 (fun _ _ _ => rfl) (fun n _ h6 e => by rw [e, h.cb] at h6; omega)
  have hx2 : SlO M2 (F 2) ((markTo 0 0 ks ks.length).map (·.1)) := by rw [hf1]; exact hx1.ag hM2 (fun d hd e => by have := h.cx d hd; rw [e, h.cb] at this; omega)
  refine write_ok b 0 1 F c (markTo 0 0 ks ks.length) M2 _ hB2 h.cb hx2 h.cx hk2 h.no (by decide) (by omega) (fun v3 M3 hk3 A3 => ?_)
  have hB3 := hB2.ag A3 (by rw [h.cb]; decide)
  have hx3 := hx2.ag A3 (fun d hd e => by have := h.cx d hd; omega)
  have hA3 : Ag (fun n => c n ≠ 0) M M3 := hA2.then (A3.mono (fun n e => by omega))
  have hm3 := hA3.1
  have hs1 : ∀ e ∈ markTo 0 0 ks ks.length, e.2.length ≤ 800000 := fun e he => by
    obtain ⟨i, hi⟩ := List.getElem?_of_mem he
    obtain ⟨e0, q1, q2, q3⟩ := markTo_all hi
    rw [q3, markL_len]
    exact h.small e0 (List.mem_of_getElem? q1)
  (refine top_in ?_; simp -implicitDefEqProofs only [go_sem, -List.reduceReplicate, ↓L_gdZ_tt, ↓L_gdZ_tf, ↓L_gdZ_ft, ↓L_gdZ_ff, ↓T_and, ↓T_imp, ↓T_all]; try simp only [top_out])
  refine holds_ok b 0 1 F _ [] M3 _ hB3 hx3 (by rw [h.g]; exact SlO.sn) (hsh hk3 hs1) (fun i y hy => by simp at hy) h.no (by decide) (by rw [List.length_map]; omega) ?_
  (refine top_in ?_; simp -implicitDefEqProofs only [go_sem, -List.reduceReplicate, ↓L_gdZ_tt, ↓L_gdZ_tf, ↓L_gdZ_ft, ↓L_gdZ_ff, ↓T_and, ↓T_imp, ↓T_all]; try simp only [top_out])
  obtain ⟨ks1, hks1⟩ : ∃ ks1, markTo 0 0 ks ks.length = ks1 := ⟨_, rfl⟩
  rw [hks1] at hk3 hx3 hs1 hl1
  have hpl : ((ks1.map fun e => (e.1, e.1)).map (·.1)) = ks1.map (·.1) := by rw [List.map_map]; rfl
  refine grow_ok b 0 1 F c (ks1.map fun e => (e.1, e.1)) 800000 M3 _ hB3 h.cb (by rw [hpl]; exact hx3) h.cx h.g (fun k p hp => ?_) (fun k p hp => ?_) h.no (by decide) (by decide) (by rw [List.length_map]; omega) (fun v4 M4 F4 c4 ps4 hf4 hB4 hF4 hc4 hg4 cg4 hp4 A4 => ?_)
  · rw [List.getElem?_map] at hp
    cases he : ks1[k]? with
    | none => rw [he] at hp; cases hp
    | some e =>
      rw [he] at hp; cases hp
      have hi := (List.getElem?_eq_some_iff.1 he).1
      have he2 := markTo_get (pass := 1) (id := 0) (i := ks1.length) he
      rw [if_pos hi] at he2
      obtain ⟨o1, o2⟩ := hk3 k _ he2
      refine ⟨⟨_, _, o1.byt, o1, Nat.le_refl _, ?_, ?_, ?_, fun _ _ _ => rfl⟩, o2, o2⟩
      · rw [markL_len]
      · rw [markL_len]
      · rw [if_neg (by omega), markL_len]; exact hs1 e (List.mem_of_getElem? he)
  · rw [List.getElem?_map] at hp
    cases he : ks1[k]? with
    | none => rw [he] at hp; cases hp
    | some e => rw [he] at hp; cases hp; rfl
  · have hx4 : SlO M4 (F4 2) (ps4.map (·.1)) := by
      rw [hf4, hpl, hF4 2 (by decide)]
      exact hx3.ag A4 (fun d hd e => by have := h.cx d hd; omega)
    have hlen4 : ps4.length = ks1.length := by rw [← List.length_map (f := fun p : SV × SV => p.1), hf4, hpl, List.length_map]
    have hD : BD M4 c4 b F4 ps4 := ⟨hB4, (hc4 b (by omega)).trans h.cb, hx4, fun d hd => by
      rw [hF4 2 (by decide)] at hd
      exact (hc4 d (Own.dn hx3 d hd)).trans (h.cx d hd), hg4, cg4, fun q h5 h53 => (hF4 q (by omega)).trans (h.no q h5 h53), hp4.mono (by decide), by omega⟩
    (refine top_in ?_; simp -implicitDefEqProofs only [go_sem, -List.reduceReplicate, ↓L_gdZ_tt, ↓L_gdZ_tf, ↓L_gdZ_ft, ↓L_gdZ_ff, ↓T_and, ↓T_imp, ↓T_all]; try simp only [top_out])
    refine holdsD_ok b F4 c4 ps4 M4 _ hD ?_
    (refine top_in ?_; simp -implicitDefEqProofs only [go_sem, -List.reduceReplicate, ↓L_gdZ_tt, ↓L_gdZ_tf, ↓L_gdZ_ft, ↓L_gdZ_ff, ↓T_and, ↓T_imp, ↓T_all]; try simp only [top_out])
    exact dropC_all (by have := A4.1; omega) (hK M4 F4 c4 ps4 hD (fun n hn => hc4 n (by omega)) (hA3.then (A4.mono (fun n e => by omega))))
theorem OwnB.app {M L : List Blk} {y : SV} {l : List (BitVec 8)} (h : OwnB M y l) : OwnB (M ++ L) y l := h.ag (S := fun _ => False) Ag.app (fun _ _ e => e)
theorem appO {T : Tab} {M : List Blk} {ts tx e : TypeId} {K : SV → List Blk → Prop} {y x : SV} {l w : List (BitVec 8)} (htk : T.k ts = .slice e 1 1) (hz : T.z e = some [.u8 0#8]) (hx : nonInt (T.k tx) = true) (h : OwnB M y l) (hsrc : SrcIs M x w) (hb : l.length + w.length ≤ 1000000)
    (hK : ∀ M' y', OwnB M' y' (l ++ w) → NmG (fun n => n = M.length) y' → Ag (fun n => dnS y = some n) M M' → K y' M') : appendC T M ts tx y x K := by
  obtain ⟨h0, ⟨rfl, rfl⟩ | ⟨n, z, ty, rfl, hB⟩⟩ := h
  · refine app8n w htk hz hx hsrc (by simp at hb; omega) (fun z' ty' => ?_)
    exact hK _ _ ⟨by simpa using hb, .inr ⟨M.length, z', ty', by simp, by rw [get_app0]; simp⟩⟩ (fun d e => by cases e; rfl) Ag.app
  · refine app8 n l z w ty htk hz hx hB rfl rfl hsrc (by omega) (fun z' ty' => ?_)
    have hl : (M.set n Blk.dead).length = M.length := List.length_set
    refine hK _ (.sl M.length 0 (l.length + w.length) (l.length + w.length + z'.length)) ⟨by rw [List.length_append]; exact hb, .inr ⟨M.length, z', ty', by rw [List.length_append], ?_⟩⟩ (fun d e => by cases e; rfl) (Ag.trans (S' := fun _ => False) (Ag.set rfl) Ag.app (fun n _ e => e.elim))
    conv => lhs; rw [← hl]
    rw [get_app0]; rfl
set_option maxHeartbeats 1000000 in
theorem bytes_own (x : SV) (l : List (BitVec 8)) (M : List Blk) (K : SV → List Blk → Prop) (h : Byt M x l) (hl : l.length ≤ 1000000)
    (hK : ∀ M' y, OwnB M' y l → NmG (fun n => M.length ≤ n) y → Ag (fun _ => False) M M' → K y M') :
    callVC Tryz.prog 12 [x] M K := by
  have la : ∀ {M' : List Blk} {e a' b' : Nat} {K : SV → Prop}, lenB (.slice e a' b') M' x K = K (.i .i64 l.length) := h.lenB
  refine fn_rule tabOK Tryz.func12 rfl Tryz.call12 (by kernel_rfl) (fun hM => ?_)
  (refine top_in ?_; simp -implicitDefEqProofs only [Tryz.ntmps12, Tryz.results12, go_sem, -List.reduceReplicate, ↓L_gdZ_tt, ↓L_gdZ_tf, ↓L_gdZ_ft, ↓L_gdZ_ff, ↓T_and, ↓T_imp, ↓T_all]; try simp only [top_out])
  refine loop_code tabOK (by kernel_rfl) (fun m ts M' => ∃ (k : Nat) (s : SV), k + m = l.length ∧ Ag (fun _ => False) M M' ∧ OwnB M' s (l.take k) ∧ NmG (fun n => M.length ≤ n) s ∧ frC [some (x), none, none, some (s), some (.i .i64 k), none, none, none, none, none, none, none, none, none, none, none, none, none, none] ts) l.length ?_ ?_
  · exact ⟨0, .sn, by omega, Ag.refl, ⟨by simp, .inl ⟨rfl, rfl⟩⟩, NmG.sn, by simp [frC]⟩
  · rintro m ts M1 ⟨k, s, hk, hA, hs, hn, hf⟩
    have hm := hA.1
    have os := hs.one
    obtain ⟨f, rfl⟩ := frC_open _ _ 0 hf
    clear hf
    (refine top_in ?_; simp -implicitDefEqProofs only [go_sem, -List.reduceReplicate, ↓L_gdZ_tt, ↓L_gdZ_tf, ↓L_gdZ_ft, ↓L_gdZ_ff, ↓T_and, ↓T_imp, ↓T_all, la, os]; try simp only [top_out])
    refine ⟨fun h1 => ?_, fun h1 => ?_⟩
    · obtain ⟨n1, o1, cap1, rfl, l1, ea⟩ := (h.ag hA (fun _ _ e => e)).at (by omega)
      obtain ⟨g1, g2, g3⟩ := ea k (by omega)
      (refine top_in ?_; simp -implicitDefEqProofs only [go_sem, -List.reduceReplicate, ↓L_gdZ_tt, ↓L_gdZ_tf, ↓L_gdZ_ft, ↓L_gdZ_ff, ↓T_and, ↓T_imp, ↓T_all, g1, g2, g3, os]; try simp only [top_out])
      refine ⟨by omega, by omega, by decide, ?_⟩
      refine appO rfl rfl rfl hs.app (src_u8 (by rw [get_app0]; rfl)) (by simp; omega) (fun M2 y2 ho hn2 A2 => ?_)
      rw [← take_snoc (by omega)] at ho
      rw [List.length_append, List.length_singleton] at hn2
      (refine top_in ?_; simp -implicitDefEqProofs only [go_sem, -List.reduceReplicate, ↓L_gdZ_tt, ↓L_gdZ_tf, ↓L_gdZ_ft, ↓L_gdZ_ff, ↓T_and, ↓T_imp, ↓T_all, ho.one]; try simp only [top_out])
      exact ⟨m - 1, by omega, k + 1, y2, by omega, Ag.trans hA (S' := fun n => dnS s = some n) (Ag.app.then A2) (fun n hn1 h => by have := hn n h; omega), ho, fun d hd => by have := hn2 d hd; omega, rfl, w64 (by omega) (by omega)⟩
    · obtain rfl : k = l.length := by omega
      rw [List.take_length] at hs
      exact dropC_all hm (hK M1 s hs hn hA)
theorem OwnB.new {M : List Blk} {l z : List (BitVec 8)} {ty : TypeId} (h : l.length ≤ 1000000) : OwnB (M ++ [.row (bS (l ++ z)) ty]) (.sl M.length 0 l.length (l.length + z.length)) l := ⟨h, .inr ⟨M.length, z, ty, rfl, by rw [get_app0]; rfl⟩⟩
theorem BA.clean {M : List Blk} {c : Nat → Nat} {b : Nat} {base : Int} {F : Nat → SV} {ks ws : List (SV × List (BitVec 8))} (h : BA M c b base F ks ws) : BA M (fun n => if n < M.length then c n else 0) b base F ks ws := by
  have hbl : b < M.length := by obtain ⟨R, ty, hb, _⟩ := h.bk; exact kwMem hb
  refine ⟨h.bk, (if_pos hbl).trans h.cb, h.x, fun d hd => (if_pos (Own.dn h.x d hd)).trans (h.cx d hd), h.w, fun d hd => (if_pos (Own.dn h.w d hd)).trans (h.cw d hd), h.g, h.no, h.kb.ag (S := fun _ => False) Ag.refl (fun n hn _ => if_pos hn) (fun _ _ _ e => e), fun i e he => ?_, h.same, h.small⟩
  obtain ⟨h1, h2⟩ := h.wb i e he
  exact ⟨h1, fun d hd => (if_pos (h1.dn d hd)).trans (h2 d hd)⟩
theorem BA.lt {M : List Blk} {c : Nat → Nat} {b : Nat} {base : Int} {F : Nat → SV} {ks ws : List (SV × List (BitVec 8))} (h : BA M c b base F ks ws) : b < M.length := by
  obtain ⟨R, ty, hb, _⟩ := h.bk; exact kwMem hb
theorem keepN_ok (b : Nat) (F : Nat → SV) (c : Nat → Nat) (ks ws : List (SV × List (BitVec 8))) (y : SV) (l : List (BitVec 8)) (M : List Blk) (K : SV → List Blk → Prop) (h : BA M c b 0 F ks ws) (ho : OwnG M y l) (cy : NmG (fun n => c n = 0) y) (hl : l.length ≤ 800000) (hkl : ks.length ≤ 90000)
    (hK : ∀ (v : SV) (M' : List Blk) (F' : Nat → SV) (c' : Nat → Nat) (ks' ws' : List (SV × List (BitVec 8))), BA M' c' b 0 F' ks' ws' → ks'.length = ks.length + 1 → (∀ n, c n = 0 → n < M.length → dnS y ≠ some n → c' n = 0) → (∀ n, M'.length ≤ n → c' n = 0) → Ag (fun n => c n ≠ 0) M M' → K v M') :
    callVC Tryz.prog 18 [.p b 0, y] M K :=
  keepA_ok b 0 F c ks ws y l M K h ho cy hl hkl (fun v M' F' c' ws' hB h1 h2 hA => hK v M' F' _ _ ws' hB.clean (by rw [List.length_append]; rfl) (fun n h0 hn hd => (if_pos (Nat.lt_of_lt_of_le hn hA.1)).trans (h2 n hn h0 hd)) (fun n hn => if_neg (by omega)) hA)
end Go.Proofs.YtdkdbeamimkljaaGreatDoor.Eng
