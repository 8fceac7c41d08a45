/- The engine, part H: regions in the order of the text, code, loops, functions. -/
import Derived.Test.YtdkdbeamimkljaaGreatDoorEngG
import Derived.LoopN
namespace Go.Proofs.YtdkdbeamimkljaaGreatDoor.Eng
open Go Go.RowKit
set_option linter.unusedSimpArgs false
set_option linter.unusedVariables false
def yS (ops : List Oper) (ts : List SV) (j : Nat) : SV :=
  match (ops[j]?).bind (·.dst) with
  | some d => ts.getD d uS
  | none => uS
/-- a guarded operation -/
def gdC (y : SV) (want : Bool) (A B : Prop) : Prop :=
  match y, want with
  | .b b, true => (b = true → A) ∧ (b = false → B)
  | .b b, false => (b = false → A) ∧ (b = true → B)
  | .raw (.tuple _), _ => B
  | _, _ => False
def regC (P : Program) (T : Tab) (ops : List Oper) : List Oper → List SV → List Blk → (List SV → List Blk → Prop) → Prop
  | [], ts, M, K => K ts M
  | o :: os, ts, M, K =>
    match o.guard with
    | none => opC P T o.op ts M (fun v M' => regC P T ops os (putS ts o.dst v) M' K)
    | some (j, want) => gdC (yS ops ts j) want (opC P T o.op ts M (fun v M' => regC P T ops os (putS ts o.dst v) M' K)) (regC P T ops os (putS ts o.dst uS) M K)
theorem put_defers (a : Act) (d : Option Tmp) (v : Value) : (a.put d v).defers = a.defers := by cases d <;> rfl
/-- what is said of a code: in every world that the state tells -/
def CodeOK (P : Program) (bs : Nat) (c : Code) (ts : List SV) (M : List Blk) (Q : Exit → List SV → List Blk → Prop) : Prop :=
  ∀ (G : Cx) (ρ : Ren) (w : World) (a : Act), G.m0 ≤ bs → Sim G ρ M w → TS ρ M.length ts a → a.defers = [] → ∀ R : Exit → Act → World → Prop,
    (∀ e ρ' ts' M' w' a', Sim G ρ' M' w' → TS ρ' M'.length ts' a' → a'.defers = [] → Q e ts' M' → R e a' w') → c.wp P R a w
def LoopVC (P : Program) (bs : Nat) (c : Code) (ts : List SV) (M : List Blk) (Q : Exit → List SV → List Blk → Prop) : Prop := CodeOK P bs (.loop c) ts M Q
def DrawVC (P : Program) (bs : Nat) (id : Nat) (ops : Array Oper) (ts : List SV) (M : List Blk) (Q : Exit → List SV → List Blk → Prop) : Prop := CodeOK P bs (.region id ops true) ts M Q
def thenC (next : List SV → List Blk → Prop) (Q : Exit → List SV → List Blk → Prop) : Exit → List SV → List Blk → Prop
  | .normal, ts, M => next ts M
  | e, ts, M => Q e ts M
def blockC (id : Nat) (Q : Exit → List SV → List Blk → Prop) : Exit → List SV → List Blk → Prop
  | .exit id', ts, M => if id' = id then Q .normal ts M else Q (.exit id') ts M
  | e, ts, M => Q e ts M
def condC (c : SV) (A B : Prop) : Prop :=
  match c with
  | .b c => (c = true → A) ∧ (c = false → B)
  | _ => False
def codeC (P : Program) (T : Tab) (bs : Nat) : Code → List SV → List Blk → (Exit → List SV → List Blk → Prop) → Prop
  | .skip, ts, M, Q => Q .normal ts M
  | .label _, ts, M, Q => Q .normal ts M
  | .region _ ops false, ts, M, Q => regC P T ops.toList ops.toList ts M (Q .normal)
  | .region id ops true, ts, M, Q => DrawVC P bs id ops ts M Q
  | .seq a b, ts, M, Q => codeC P T bs a ts M (thenC (fun ts M => codeC P T bs b ts M Q) Q)
  | .cond c a b, ts, M, Q => condC (evS ts c) (codeC P T bs a ts M Q) (codeC P T bs b ts M Q)
  | .block id c, ts, M, Q => codeC P T bs c ts M (blockC id Q)
  | .loop c, ts, M, Q => LoopVC P bs c ts M Q
  | .exit id, ts, M, Q => Q (.exit id) ts M
  | .ret, ts, M, Q => Q .ret ts M
  | _, _, _, _ => False
def sideC (P : Program) : Code → Bool
  | .region _ ops _ => ops.toList.all fun o => opSide P o.op
  | .seq a b => sideC P a && sideC P b
  | .cond _ a b => sideC P a && sideC P b
  | .block _ c => sideC P c
  | .loop c => sideC P c
  | _ => true
section
variable {P : Program} {T : Tab}
theorem wanted_gd {ρ : Ren} {m : Nat} {ts : List SV} {a : Act} (ht : TS ρ m ts a) {ops : List Oper} {o : Oper} {j : Nat} {want : Bool} (ho : o.guard = some (j, want)) {A B : Prop} (h : gdC (yS ops ts j) want A B) :
    (Region.wanted o (yielded ops.toArray a.tmps) = true ∧ A) ∨ (Region.wanted o (yielded ops.toArray a.tmps) = false ∧ B) := by
  have hy : ∀ b, yS ops ts j = .b b → yielded ops.toArray a.tmps j = some b := by
    intro b hb
    unfold yS at hb
    unfold yielded
    simp only [List.getElem?_toArray]
    cases hd : (ops[j]?).bind (·.dst) with
    | none => simp [hd, uS] at hb
    | some d =>
      simp only [hd, List.getD_eq_getElem?_getD] at hb
      cases hx : ts[d]? with
      | none => simp [hx, uS] at hb
      | some x =>
        simp only [hx, Option.getD_some] at hb
        subst hb
        simp [ht.tmps, denL_get, hx, den]
  have hn : ∀ vs, yS ops ts j = .raw (.tuple vs) → yielded ops.toArray a.tmps j = none := by
    intro vs hb
    unfold yS at hb
    unfold yielded
    simp only [List.getElem?_toArray]
    cases hd : (ops[j]?).bind (·.dst) with
    | none => simp
    | some d =>
      simp only [hd, List.getD_eq_getElem?_getD] at hb
      cases hx : ts[d]? with
      | none => simp [ht.tmps, denL_get, hx]
      | some x =>
        simp only [hx, Option.getD_some] at hb
        subst hb
        simp [ht.tmps, denL_get, hx, den]
  unfold Region.wanted
  simp only [ho]
  unfold gdC at h
  split at h
  · rename_i b hb
    rw [hy b hb]
    cases b
    · exact .inr ⟨rfl, h.2 rfl⟩
    · exact .inl ⟨rfl, h.1 rfl⟩
  · rename_i b hb
    rw [hy b hb]
    cases b
    · exact .inl ⟨rfl, h.1 rfl⟩
    · exact .inr ⟨rfl, h.2 rfl⟩
  · rename_i vs hb
    rw [hn vs hb]
    exact .inr ⟨rfl, h⟩
  · cases h
theorem regC_ok (hT : TabOK P T) {ops : List Oper} {K : List SV → List Blk → Prop} : ∀ (os : List Oper) (ts : List SV) (M : List Blk), os.all (fun o => opSide P o.op) = true → regC P T ops os ts M K →
    ∀ (G : Cx) (ρ : Ren) (w : World) (a : Act), Sim G ρ M w → TS ρ M.length ts a → a.defers = [] → ∀ Q : Exit → Act → World → Prop,
      (∀ ρ' ts' M' w' a', Sim G ρ' M' w' → TS ρ' M'.length ts' a' → a'.defers = [] → K ts' M' → Q .normal a' w') → wpList P ops.toArray Q os a w
  | [], ts, M, _, h, G, ρ, w, a, hs, ht, hd, Q, hQ => wpList_nil (hQ ρ ts M w a hs ht hd h)
  | o :: os, ts, M, hside, h, G, ρ, w, a, hs, ht, hd, Q, hQ => by
    simp only [List.all_cons, Bool.and_eq_true] at hside
    have run : opC P T o.op ts M (fun v M' => regC P T ops os (putS ts o.dst v) M' K) → ∀ Kn : Act → World → Prop, (∀ a w, wpList P ops.toArray Q os a w → Kn a w) → o.wp P a w Kn Q := by
      intro h Kn hKn
      refine opC_ok hT o hside.1 h G ρ w a hs ht Kn Q (fun ρ' v M' w' h1 h2 h3 h4 h5 => hKn _ _ ?_)
      exact regC_ok hT os _ _ hside.2 h5 G ρ' w' _ h3 (ht.put h1 h2 h4 o.dst) ((put_defers _ _ _).trans hd) Q hQ
    simp only [regC] at h
    cases hg : o.guard with
    | none =>
      rw [hg] at h
      exact wpList_plain hg (run h)
    | some g =>
      obtain ⟨j, want⟩ := g
      rw [hg] at h
      rcases wanted_gd ht hg h with ⟨hw, hA⟩ | ⟨hw, hB⟩
      · exact wpList_step fun Kn hKn => by rw [if_pos hw]; exact run hA Kn hKn
      · exact wpList_skip hw (regC_ok hT os _ _ hside.2 hB G ρ w _ hs (ht.put_undef o.dst) ((put_defers _ _ _).trans hd) Q hQ)
theorem codeC_ok (hT : TabOK P T) {bs : Nat} : ∀ (c : Code) (ts : List SV) (M : List Blk) (Q : Exit → List SV → List Blk → Prop), sideC P c = true → codeC P T bs c ts M Q → CodeOK P bs c ts M Q
  | .skip, ts, M, Q, _, h => fun G ρ w a hG hs ht hd R hR => wp_skip (hR _ ρ ts M w a hs ht hd h)
  | .label _, ts, M, Q, _, h => fun G ρ w a hG hs ht hd R hR => wp_label (hR _ ρ ts M w a hs ht hd h)
  | .region id ops false, ts, M, Q, hside, h => fun G ρ w a hG hs ht hd R hR =>
    wp_region_list (regC_ok hT ops.toList ts M hside h G ρ w a hs ht hd R (fun ρ' ts' M' w' a' h1 h2 h3 h4 => hR _ ρ' ts' M' w' a' h1 h2 h3 h4))
  | .region id ops true, ts, M, Q, _, h => h
  | .seq x y, ts, M, Q, hside, h => fun G ρ w a hG hs ht hd R hR => by
    simp only [sideC, Bool.and_eq_true] at hside
    refine wp_seq (codeC_ok hT x ts M _ hside.1 h G ρ w a hG hs ht hd _ (fun e ρ' ts' M' w' a' h1 h2 h3 h4 => ?_))
    cases e with
    | normal => exact codeC_ok hT y ts' M' Q hside.2 h4 G ρ' w' a' hG h1 h2 h3 R hR
    | exit id => exact hR _ ρ' ts' M' w' a' h1 h2 h3 h4
    | goto l => exact hR _ ρ' ts' M' w' a' h1 h2 h3 h4
    | ret => exact hR _ ρ' ts' M' w' a' h1 h2 h3 h4
    | panic c => exact hR _ ρ' ts' M' w' a' h1 h2 h3 h4
    | outgrown => exact hR _ ρ' ts' M' w' a' h1 h2 h3 h4
  | .cond c x y, ts, M, Q, hside, h => fun G ρ w a hG hs ht hd R hR => by
    simp only [sideC, Bool.and_eq_true] at hside
    simp only [codeC] at h
    have hev := ht.ev c
    unfold condC at h
    split at h
    · rename_i b hb
      rw [hb, den] at hev
      refine wp_cond_split hev (fun ht' => ?_) (fun hf' => ?_)
      · exact codeC_ok hT x ts M Q hside.1 (h.1 ht') G ρ w a hG hs ht hd R hR
      · exact codeC_ok hT y ts M Q hside.2 (h.2 hf') G ρ w a hG hs ht hd R hR
    · cases h
  | .block id c, ts, M, Q, hside, h => fun G ρ w a hG hs ht hd R hR => by
    refine wp_block (codeC_ok hT c ts M _ hside h G ρ w a hG hs ht hd _ (fun e ρ' ts' M' w' a' h1 h2 h3 h4 => ?_))
    cases e with
    | exit id' =>
      simp only [blockC, Exit.inBlock] at h4 ⊢
      split
      · rename_i he; rw [if_pos he] at h4; exact hR _ ρ' ts' M' w' a' h1 h2 h3 h4
      · rename_i he; rw [if_neg he] at h4; exact hR _ ρ' ts' M' w' a' h1 h2 h3 h4
    | normal => exact hR _ ρ' ts' M' w' a' h1 h2 h3 h4
    | goto l => exact hR _ ρ' ts' M' w' a' h1 h2 h3 h4
    | ret => exact hR _ ρ' ts' M' w' a' h1 h2 h3 h4
    | panic c => exact hR _ ρ' ts' M' w' a' h1 h2 h3 h4
    | outgrown => exact hR _ ρ' ts' M' w' a' h1 h2 h3 h4
  | .loop c, ts, M, Q, _, h => h
  | .exit id, ts, M, Q, _, h => fun G ρ w a hG hs ht hd R hR => wp_exit (hR _ ρ ts M w a hs ht hd h)
  | .ret, ts, M, Q, _, h => fun G ρ w a hG hs ht hd R hR => wp_ret (hR _ ρ ts M w a hs ht hd h)
  | .rangeFunc .., _, _, _, _, h => h.elim
  | .scope _, _, _, _, _, h => h.elim
  | .goto _, _, _, _, _, h => h.elim
  | .refuse _, _, _, _, _, h => h.elim
/-! dropping names -/
theorem Sim.take {G : Cx} {ρ : Ren} {M : List Blk} {w : World} (h : Sim G ρ M w) {m : Nat} (hm : G.m0 ≤ m) (hle : m ≤ M.length) (hlt : (M.take m).all (Blk.lt m) = true) : Sim G ρ (M.take m) w := by
  have hget : ∀ n B, (M.take m)[n]? = some B → M[n]? = some B ∧ n < m := by
    intro n B hB
    have hn : n < m := by
      have := (List.getElem?_eq_some_iff.1 hB).1
      simp at this; omega
    rw [List.getElem?_take_of_lt hn] at hB
    exact ⟨hB, hn⟩
  have hlen : (M.take m).length = m := by simp; omega
  refine ⟨h.os, h.tape, h.output, h.kept, by omega, h.same, ?_, ?_, ?_⟩
  · intro n B hB
    rw [hlen]
    exact List.all_eq_true.1 hlt B (List.mem_of_getElem? hB)
  · exact fun n B hB => h.blk n B (hget n B hB).1
  · exact fun a b B C hB hC => h.sep a b B C (hget a B hB).1 (hget b C hC).1
/-! loops -/
theorem exists_min (p : Nat → Prop) (h : ∃ n, p n) : ∃ n, p n ∧ ∀ m, p m → n ≤ m := by
  obtain ⟨n, hn⟩ := h
  induction n using Nat.strongRecOn with
  | _ n ih =>
    by_cases hm : ∃ m, m < n ∧ p m
    · obtain ⟨m, hlt, hp⟩ := hm
      exact ih m hlt hp
    · exact ⟨n, hn, fun m hp => Nat.le_of_not_lt fun hlt => hm ⟨m, hlt, hp⟩⟩
/-- A loop: I n is what holds at a round's head with n rounds left at the most; at a round's end the state may be seen under other names. -/
theorem loop_rule {bs : Nat} {c : Code} {ts : List SV} {M : List Blk} {Q : Exit → List SV → List Blk → Prop} (I : Nat → List SV → List Blk → Prop) (n : Nat) (h0 : CovF bs ts M (I n))
    (hround : ∀ n ts M, I n ts M → CodeOK P bs c ts M (thenC (fun ts' M' => CovF bs ts' M' (fun ts'' M'' => ∃ n', n' < n ∧ I n' ts'' M'')) Q)) : LoopVC P bs c ts M Q := by
  intro G ρ w a hG hs ht hd R hR
  let p : Act → World → Nat → Prop := fun a w n => ∃ ρ ts M, Sim G ρ M w ∧ TS ρ M.length ts a ∧ a.defers = [] ∧ I n ts M
  have hp : ∀ a w, (∃ n, p a w n) → ∃ n, p a w n ∧ ∀ m, p a w m → n ≤ m := fun a w h => exists_min _ h
  let μ : Act → World → Nat := fun a w => open Classical in if h : ∃ n, p a w n then Classical.choose (hp a w h) else 0
  have hμ : ∀ a w n, p a w n → p a w (μ a w) ∧ μ a w ≤ n := by
    intro a w n hn
    have h : ∃ n, p a w n := ⟨n, hn⟩
    have e : μ a w = Classical.choose (hp a w h) := by simp only [μ]; rw [dif_pos h]
    rw [e]
    have := Classical.choose_spec (hp a w h)
    exact ⟨this.1, this.2 n hn⟩
  obtain ⟨ρ0, ts0, M0, hs0, ht0, hI0⟩ := h0 G ρ w a hG hs ht
  refine wp_loop (fun a w => ∃ n, p a w n) μ ⟨n, ρ0, ts0, M0, hs0, ht0, hd, hI0⟩ ?_
  rintro a w ⟨n, hn⟩
  obtain ⟨⟨ρ1, ts1, M1, hs1, ht1, hd1, hI1⟩, _⟩ := hμ a w n hn
  refine hround _ ts1 M1 hI1 G ρ1 w a hG hs1 ht1 hd1 _ (fun e ρ' ts' M' w' a' h1 h2 h3 h4 => ?_)
  cases e with
  | normal =>
    obtain ⟨ρ2, ts2, M2, hs2, ht2, n', hlt, hI⟩ := h4 G ρ' w' a' hG h1 h2
    have hp' : p a' w' n' := ⟨ρ2, ts2, M2, hs2, ht2, h3, hI⟩
    exact ⟨⟨n', hp'⟩, Nat.lt_of_le_of_lt (hμ a' w' n' hp').2 hlt⟩
  | exit id => exact hR _ ρ' ts' M' w' a' h1 h2 h3 h4
  | goto l => exact hR _ ρ' ts' M' w' a' h1 h2 h3 h4
  | ret => exact hR _ ρ' ts' M' w' a' h1 h2 h3 h4
  | panic c => exact hR _ ρ' ts' M' w' a' h1 h2 h3 h4
  | outgrown => exact hR _ ρ' ts' M' w' a' h1 h2 h3 h4
/-- a loop of at most n rounds, each of them walked -/
def roundsC (P : Program) (T : Tab) (bs : Nat) (c : Code) (Q : Exit → List SV → List Blk → Prop) : Nat → List SV → List Blk → Prop
  | 0, _, _ => False
  | n + 1, ts, M => codeC P T bs c ts M (thenC (fun ts M => roundsC P T bs c Q n ts M) Q)
theorem loop_rounds (hT : TabOK P T) {bs : Nat} {c : Code} (hside : sideC P c = true) {Q : Exit → List SV → List Blk → Prop} (n : Nat) {ts : List SV} {M : List Blk} (h : roundsC P T bs c Q n ts M) : LoopVC P bs c ts M Q := by
  intro G ρ w a hG hs ht hd R hR
  refine wp_loop_rounds n ?_
  induction n generalizing ts M ρ w a with
  | zero => exact h.elim
  | succ n ih =>
    rw [rounds_succ]
    refine codeC_ok hT c ts M _ hside h G ρ w a hG hs ht hd _ (fun e ρ' ts' M' w' a' h1 h2 h3 h4 => ?_)
    cases e with
    | normal => exact ih h4 ρ' w' a' h1 h2 h3
    | exit id => exact hR _ ρ' ts' M' w' a' h1 h2 h3 h4
    | goto l => exact hR _ ρ' ts' M' w' a' h1 h2 h3 h4
    | ret => exact hR _ ρ' ts' M' w' a' h1 h2 h3 h4
    | panic c => exact hR _ ρ' ts' M' w' a' h1 h2 h3 h4
    | outgrown => exact hR _ ρ' ts' M' w' a' h1 h2 h3 h4
/-! functions -/
def resL (T : Tab) (ts : List SV) (M : List Blk) : List ResultVar → (List SV → Prop) → Prop
  | [], K => K []
  | .tmp t :: rs, K => resL T ts M rs (fun l => K (ts.getD t uS :: l))
  | .cell a t :: rs, K => loadC T t (ts.getD a uS) M (fun v => resL T ts M rs (fun l => K (v :: l)))
def tupS : List SV → SV
  | [v] => v
  | l => .tup l
/-- the end of a function: the result; what is new and not named in it is dropped -/
def endC (T : Tab) (m0 : Nat) (rs : List ResultVar) (K : SV → List Blk → Prop) : Exit → List SV → List Blk → Prop
  | .normal, ts, M => resL T ts M rs fun l => dropC m0 (tupS l) M K
  | .ret, ts, M => resL T ts M rs fun l => dropC m0 (tupS l) M K
  | _, _, _ => False
def runRes (tmps : Array Value) : ResultVar → Sem Value
  | .tmp t => pure (tmps.getD t undef)
  | .cell a t => do loadVar t (← asAddr (tmps.getD a undef))
theorem results_eq (fn : Func) (tmps : Array Value) : results fn tmps = (do
    let vs ← fn.results.mapM (runRes tmps)
    pure (if h : vs.size = 1 then vs[0] else .tuple vs)) := by
  unfold results
  rfl
theorem resL_ok (hT : TabOK P T) {G : Cx} {ρ : Ren} {M : List Blk} {w : World} {ts : List SV} {a : Act} (hs : Sim G ρ M w) (ht : TS ρ M.length ts a) : ∀ (rs : List ResultVar) (K : List SV → Prop), resL T ts M rs K →
    ∃ l, ltL M.length l = true ∧ K l ∧ (rs.mapM (runRes a.tmps)).run P w = .ok (denL ρ l) w
  | [], K, h => ⟨[], rfl, h, rfl⟩
  | .tmp t :: rs, K, h => by
    obtain ⟨l, hl, hK, hr⟩ := resL_ok hT hs ht rs _ h
    have hev : a.tmps.getD t undef = den ρ (ts.getD t uS) := ht.ev (.tmp t)
    refine ⟨_, by simp only [ltL, hl, Bool.and_true]; exact ht.ev_lt (.tmp t), hK, ?_⟩
    simp only [List.mapM_cons, runRes, Sem.run_bind, Sem.run_pure, Result.andThen_ok, hr, denL, hev]
  | .cell x t :: rs, K, h => by
    have hev : a.tmps.getD x undef = den ρ (ts.getD x uS) := ht.ev (.tmp x)
    simp only [resL] at h
    obtain ⟨v, hK, hv⟩ := loadC_val (P := P) hT h
    obtain ⟨l, hl, hK', hr⟩ := resL_ok hT hs ht rs _ hK
    refine ⟨_, by simp only [ltL, hl, Bool.and_true]; exact (hv G ρ w hs).2, hK', ?_⟩
    have h1 := (hv G ρ w hs).1
    have h2 : (loadVar t =<< asAddr (den ρ (ts.getD x uS))).run P w = .ok (den ρ v) w := by
      revert h1
      generalize den ρ (ts.getD x uS) = dx
      intro h1
      cases dx <;> simp only [Instr.loadAt, Instr.sureAddr, Sem.run_bind, run_stuck, Result.andThen_halt] at h1 <;> try (cases h1; done)
      rename_i p
      cases p with
      | none => simp at h1
      | some p =>
        simp only [Sem.run_pure, Result.andThen_ok] at h1
        show ((asAddr (.pointer (some p))) >>= loadVar t).run P w = _
        simp only [asAddr, Sem.run_bind, Sem.run_pure, Result.andThen_ok, h1]
    have h3 : (runRes a.tmps (.cell x t)).run P w = .ok (den ρ v) w := by
      simp only [runRes, hev]
      exact h2
    simp only [List.mapM_cons, Sem.run_bind, h3, Result.andThen_ok, hr, denL, Sem.run_pure]
theorem run_results (hT : TabOK P T) {fn : Func} {G : Cx} {ρ : Ren} {M : List Blk} {w : World} {ts : List SV} {a : Act} (hs : Sim G ρ M w) (ht : TS ρ M.length ts a) {K : List SV → Prop}
    (h : resL T ts M fn.results.toList K) : ∃ l, (tupS l).lt M.length = true ∧ K l ∧ (results fn a.tmps).run P w = .ok (den ρ (tupS l)) w := by
  obtain ⟨l, hl, hK, hr⟩ := resL_ok (P := P) hT hs ht _ K h
  refine ⟨l, ?_, hK, ?_⟩
  · match l with
    | [] => rfl
    | [v] => simpa [ltL, tupS] using hl
    | v :: u :: l => exact hl
  rw [results_eq, Array.mapM_eq_mapM_toList]
  simp only [Sem.run_bind, Sem.run_map, hr, Result.andThen_ok, Sem.run_pure]
  congr 1
  match l with
  | [] => simp [tupS, denL, den]
  | [v] => simp [tupS, denL]
  | v :: u :: l => simp [tupS, denL, den]
/-- A function's contract out of its body. -/
theorem fn_rule (hT : TabOK P T) {f : FuncId} {fn : Func} {c : Code} (hf : P.funcs[f]? = some fn) (hb : fn.body = some c) (hcall : ∀ as w, (callFunc f as).run P w = .ok (.enter f as) w)
    (hside : sideC P c = true) {args : List SV} {M : List Blk} {K : SV → List Blk → Prop}
    (h : (∀ (n : Nat) (B : Blk), M[n]? = some B → B.lt M.length = true) → codeC P T M.length c (args ++ List.replicate (fn.ntmps - args.length) uS) M (endC T M.length fn.results.toList K)) : callVC P f args M K := by
  refine .inl ⟨hcall, fun G ρ w hs hargs => ?_⟩
  refine calls_of_wp hf hb ?_
  have hG : Sim { G with ρ0 := ρ, m0 := M.length } ρ M w := ⟨hs.os, hs.tape, hs.output, hs.kept, Nat.le_refl _, fun _ _ => rfl, hs.lt, fun n B hB => by
    have := hs.blk n B hB
    cases B <;> exact this, hs.sep⟩
  have hts : TS ρ M.length (args ++ List.replicate (fn.ntmps - args.length) uS) { tmps := (denL ρ args).toArray ++ Array.replicate (fn.ntmps - (denL ρ args).toArray.size) undef, defers := [] } := by
    refine ⟨?_, ?_⟩
    · simp only [denL_append, List.size_toArray, denL_length]
      apply Array.ext'
      simp [denL_eq, uS, den]
    · rw [ltL_append, hargs, ltL_eq, Bool.true_and, List.all_eq_true]
      intro x hx
      rw [List.eq_of_mem_replicate hx]
      rfl
  refine codeC_ok hT c _ M _ hside (h hs.lt) _ ρ w _ (Nat.le_refl _) hG hts rfl _ (fun e ρ' ts' M' w' a' h1 h2 h3 h4 => ?_)
  have back : ∀ {l : List SV}, (tupS l).lt M'.length = true → dropC M.length (tupS l) M' K →
      ∃ ρ'' v M'', Ext ρ ρ'' M.length ∧ M.length ≤ M''.length ∧ Sim G ρ'' M'' w' ∧ v.lt M''.length = true ∧ Ending.returned (den ρ' (tupS l)) = .returned (den ρ'' v) ∧ K v M'' := by
    intro l g1 g2
    obtain ⟨ρ2, v2, M2, k1, k2, ht, k4, k5, k6⟩ := g2 _ ρ' w' (Nat.le_refl _) h1 g1
    refine ⟨ρ2, v2, M2, ht.same, k2, ?_, k4, by rw [k5], k6⟩
    exact ⟨ht.os, ht.tape, ht.output, ht.kept, by have := hs.base; omega, fun n hn => (ht.same n (by have := hs.base; show n < M.length; omega)).trans (hs.same n hn), ht.lt, fun n B hB => by
      have := ht.blk n B hB
      cases B <;> exact this, ht.sep⟩
  cases e with
  | normal =>
    obtain ⟨l, hl, hK, hr⟩ := run_results (P := P) hT h1 h2 h4
    exact ⟨h3, _, hr, back hl hK⟩
  | ret =>
    obtain ⟨l, hl, hK, hr⟩ := run_results (P := P) hT h1 h2 h4
    exact ⟨h3, _, hr, back hl hK⟩
  | exit id => exact h4.elim
  | goto l => exact h4.elim
  | panic c => exact h4.elim
  | outgrown => exact h4.elim
/-- a function with a body is entered -/
theorem callVC_E {f : FuncId} {args : List SV} {M : List Blk} {K : SV → List Blk → Prop} (hent : ∀ as w, (callFunc f as).run P w = .ok (.enter f as) w) (h : callVC P f args M K) : callE P f args M K := by
  rcases h with h | ⟨e, hc, hsem⟩
  · exact h
  · refine ⟨hent, fun G ρ w hs hl => ?_⟩
    obtain ⟨ρ', v, M', w', hr, _⟩ := hsem hl G ρ w hs
    have h1 := hc (denL ρ args).toArray w
    rw [hr, hent] at h1
    simp at h1
end
end Go.Proofs.YtdkdbeamimkljaaGreatDoor.Eng
