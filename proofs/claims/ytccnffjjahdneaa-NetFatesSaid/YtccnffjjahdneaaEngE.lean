/- The engine, part E: equality, indexes, fields, conversions, composite values. -/
import Derived.Test.YtccnffjjahdneaaEngD
namespace Go.Proofs.Ytccnffjjahdneaa.Eng
open Go Go.RowKit
set_option linter.unusedSimpArgs false
set_option linter.unusedVariables false

/-! equality -/

def liveN (M : List Blk) (n : Nat) : Bool :=
  match M[n]? with
  | some (.row cs _) => decide (0 < cs.length)
  | some (.ro cs) => decide (0 < cs.length)
  | some .here => true
  | _ => false

def eqS : SV → SV → Bool
  | .i _ a, .i _ b => a == b
  | .u8 a, .u8 b => a == b
  | .u32 a, .u32 b => a == b
  | .u64 a, .u64 b => a == b
  | .b a, .b b => a == b
  | _, _ => false

def eqL : List SV → List SV → Bool
  | [], [] => true
  | x :: l, y :: r => eqS x y && eqL l r
  | _, _ => false

/-- an integer of kind k -/
def ofK (k : IntKind) : SV → Bool
  | .i k' _ => k' == k && k != .u8 && k != .u32 && k != .u64
  | .u8 _ => k == .u8
  | .u32 _ => k == .u32
  | .u64 _ => k == .u64
  | _ => false

/-- the parts of two structs, field by field: each an integer or a bool -/
def eqF (T : Tab) : List (TypeId × Nat) → List SV → List SV → (Bool → Prop) → Prop
  | [], _, _, K => K true
  | (t, off) :: fs, xs, ys, K =>
    match T.k t, xs[off]?, ys[off]? with
    | .int _, some (.i k a), some (.i k' b) => k = k' ∧ eqF T fs xs ys (fun r => K ((a == b) && r))
    | .int _, some (.u8 a), some (.u8 b) => eqF T fs xs ys (fun r => K ((a == b) && r))
    | .int _, some (.u32 a), some (.u32 b) => eqF T fs xs ys (fun r => K ((a == b) && r))
    | .int _, some (.u64 a), some (.u64 b) => eqF T fs xs ys (fun r => K ((a == b) && r))
    | .bool, some (.b a), some (.b b) => eqF T fs xs ys (fun r => K ((a == b) && r))
    | _, _, _ => False

def aggEq (T : Tab) (t : TypeId) (xs ys : List SV) (K : Bool → Prop) : Prop :=
  match T.k t with
  | .arr n e esz _ => match T.k e with
    | .int k => esz = 1 ∧ T.eqp.getD t false = true ∧ xs.length = n ∧ ys.length = n ∧ xs.all (ofK k) = true ∧ ys.all (ofK k) = true ∧ K (eqL xs ys)
    | _ => False
  | _ => False

def isSl : TK → Bool
  | .slice .. => true
  | _ => false

def eqC (T : Tab) (M : List Blk) (t : TypeId) (x y : SV) (K : Bool → Prop) : Prop :=
  match x, y with
  | .b a, .b c => T.k t = .bool ∧ K (a == c)
  | .pn, .pn => T.k t = .ptr ∧ K true
  | .p n _, .pn | .pn, .p n _ => T.k t = .ptr ∧ liveN M n = true ∧ K false
  | .sn, .sn => isSl (T.k t) = true ∧ K true
  | .sl n _ _ _, .sn | .sn, .sl n _ _ _ => isSl (T.k t) = true ∧ liveN M n = true ∧ K false
  | .raw (.slice (some _) _ _), .sn => isSl (T.k t) = true ∧ K false
  | .agg xs, .agg ys => aggEq T t xs ys K
  | _, _ => False

def binC (T : Tab) (M : List Blk) (op : BinOp) (t : TypeId) (x y : SV) (K : SV → Prop) : Prop :=
  match x, y with
  | .u8 a, .u8 b => bvC op a b .u8 K
  | .u32 a, .u32 b => bvC op a b .u32 K
  | .u64 a, .u64 b => bvC op a b .u64 K
  | .i k a, .i k' b => if k = k' then intC op k a b K else 0 ≤ b ∧ shI op k a b.toNat K
  | .u8 a, .u32 b => shC op a b.toNat .u8 K
  | .u8 a, .u64 b => shC op a b.toNat .u8 K
  | .u32 a, .u8 b => shC op a b.toNat .u32 K
  | .u32 a, .u64 b => shC op a b.toNat .u32 K
  | .u64 a, .u8 b => shC op a b.toNat .u64 K
  | .u64 a, .u32 b => shC op a b.toNat .u64 K
  | .u8 a, .i _ b => 0 ≤ b ∧ shC op a b.toNat .u8 K
  | .u32 a, .i _ b => 0 ≤ b ∧ shC op a b.toNat .u32 K
  | .u64 a, .i _ b => 0 ≤ b ∧ shC op a b.toNat .u64 K
  | .i k a, .u8 b => shI op k a b.toNat K
  | .i k a, .u32 b => shI op k a b.toNat K
  | .i k a, .u64 b => shI op k a b.toNat K
  | x, y =>
    match op with
    | .eql => eqC T M t x y (fun b => K (.b b))
    | .neq => eqC T M t x y (fun b => K (.b !b))
    | _ => False

section
variable {P : Program} {T : Tab} {M : List Blk}

theorem run_forIn_all {w : World} (g : Nat → Bool) (B : Nat → Option Bool × Unit → Sem (ForInStep (Option Bool × Unit))) : ∀ (l : List Nat),
    (∀ i, i ∈ l → (B i (none, ())).run P w = .ok (if g i then .yield (none, ()) else .done (some false, ())) w) →
    (forIn l (none, ()) B).run P w = .ok (if l.all g then (none, ()) else (some false, ())) w
  | [], _ => rfl
  | i :: l, h => by
    simp only [List.forIn_cons, Sem.run_bind, h i (by simp), Result.andThen_ok]
    by_cases hg : g i = true
    · simp only [hg, if_true, List.all_cons, Bool.true_and]
      exact run_forIn_all g B l (fun j hj => h j (by simp [hj]))
    · simp only [hg, Bool.false_eq_true, if_false, List.all_cons, Bool.false_and]
      rfl

theorem ofK_den {k : IntKind} {x : SV} (h : ofK k x = true) : ∃ a, ∀ ρ, den ρ x = .int k a := by
  cases x <;> simp [ofK] at h
  case i k' a => exact ⟨a, fun ρ => by simp [den, h.1.1.1]⟩
  all_goals
    rename_i a
    subst h
    exact ⟨a.toNat, fun ρ => by simp [den]⟩

theorem eqS_den {k : IntKind} {x y : SV} (hx : ofK k x = true) (hy : ofK k y = true) (ρ : Ren) {a b : Int} (ha : den ρ x = .int k a) (hb : den ρ y = .int k b) : eqS x y = (a == b) := by
  cases x <;> simp [ofK] at hx <;> cases y <;> simp [ofK] at hy <;> (try simp_all; done) <;> simp [den] at ha hb
  all_goals
    obtain ⟨_, rfl⟩ := ha; obtain ⟨_, rfl⟩ := hb
    rw [Bool.eq_iff_iff]
    first | simp only [eqS, beq_iff_eq, Int.natCast_inj, BitVec.toNat_inj] | simp only [eqS]

theorem eqL_all : ∀ (xs ys : List SV), xs.length = ys.length → eqL xs ys = (List.range xs.length).all fun i => eqS (xs.getD i uS) (ys.getD i uS)
  | [], [], _ => rfl
  | x :: xs, y :: ys, h => by
    have ih := eqL_all xs ys (by simpa using h)
    simp only [eqL, ih, List.length_cons, List.range_succ_eq_map, List.all_cons, List.all_map, List.getD_cons_zero]
    rfl
  | [], _ :: _, h => by simp at h
  | _ :: _, [], h => by simp at h

theorem run_equalIn_arr {t e : TypeId} {n : Nat} {k : IntKind} (ht : P.underlying t = some (.array n e)) (he : P.underlying e = some (.int k)) (hi : (P.info? e).map (·.size) = some 1)
    (ρ : Ren) {xs ys : List SV} (hx : xs.length = n) (hy : ys.length = n) (kx : xs.all (ofK k) = true) (ky : ys.all (ofK k) = true) (d : Nat) (w : World) :
    (Op.equalIn (d + 2) t (den ρ (.agg xs)) (den ρ (.agg ys))).run P w = .ok (eqL xs ys) w := by
  obtain ⟨i, hi', hsz⟩ : ∃ i, P.info? e = some i ∧ i.size = 1 := by
    cases hq : P.info? e with
    | none => simp [hq] at hi
    | some i => exact ⟨i, rfl, by simpa [hq] using hi⟩
  have hso : (sizeOf e).run P w = .ok 1 w := by simp [sizeOf, typeInfo, hi', hsz]
  rw [Op.equalIn]
  simp only [den, Sem.run_bind, run_underlying ht, Result.andThen_ok, hso]
  have part1 : ∀ (l : List SV) (i : Nat) (h : i < l.length), (part e (denL ρ l).toArray (i * 1)).run P w = .ok (den ρ l[i]) w := by
    intro l i h
    have hg : (denL ρ l)[i]? = some (den ρ l[i]) := by simp [denL_eq, List.getElem?_eq_getElem h]
    simp [part, Sem.run_bind, run_isAgg he, isAggD, hg]
  rw [Std.Legacy.Range.forIn_eq_forIn_range', run_forIn_all (fun i => eqS (xs.getD i uS) (ys.getD i uS))]
  · rw [eqL_all xs ys (by omega)]
    have hr : List.range' 0 ({ start := 0, stop := n, step := 1, step_pos := Nat.one_pos : Std.Legacy.Range }).size 1 = List.range xs.length := by
      rw [List.range_eq_range', hx]
      simp [Std.Legacy.Range.size]
    rw [hr]
    simp only [Result.andThen_ok]
    generalize ((List.range xs.length).all fun i => eqS (xs.getD i uS) (ys.getD i uS)) = r
    cases r <;> simp
  · intro i hmem
    have hi1 : i < n := by
      simp [Std.Legacy.Range.size] at hmem
      omega
    have hix : i < xs.length := by omega
    have hiy : i < ys.length := by omega
    simp only [Sem.run_bind, part1 xs i hix, part1 ys i hiy, Result.andThen_ok]
    have k1 := List.all_eq_true.1 kx xs[i] (List.getElem_mem hix)
    have k2 := List.all_eq_true.1 ky ys[i] (List.getElem_mem hiy)
    obtain ⟨a, ha⟩ := ofK_den k1
    obtain ⟨b, hb⟩ := ofK_den k2
    rw [ha ρ, hb ρ, run_equalIn_int (P := P) (w := w) d e k k a b he]
    have hee := eqS_den k1 k2 ρ (ha ρ) (hb ρ)
    have g1 : xs.getD i uS = xs[i] := by simp [List.getD_eq_getElem?_getD, List.getElem?_eq_getElem hix]
    have g2 : ys.getD i uS = ys[i] := by simp [List.getD_eq_getElem?_getD, List.getElem?_eq_getElem hiy]
    rw [g1, g2, hee]
    simp only [Result.andThen_ok, Sem.run_ite, Sem.run_pure]
    cases (a == b) <;> rfl

/-- the guard ahead of a comparison lets by -/
theorem run_eqGuard_int (op : BinOp) (t : TypeId) (x y : Operand) (k k' : IntKind) (a b : Int) (w : World) : (eqGuard op t x y (.int k a) (.int k' b)).run P w = .ok () w := by
  unfold eqGuard; cases op <;> simp

theorem live_ren {G : Cx} {ρ : Ren} {w : World} (hs : Sim G ρ M w) {n : Nat} (h : liveN M n = true) : ∃ g o, ρ n = some (g, o) := by
  unfold liveN at h
  cases hB : M[n]? with
  | none => simp [hB] at h
  | some B =>
    cases B with
    | row cs ty =>
      simp [hB] at h
      obtain ⟨_, ⟨h0, _⟩ | ⟨g, hg, _⟩⟩ := hs.blk n _ hB
      · subst h0; simp at h
      · exact ⟨g, 0, hg⟩
    | ro cs =>
      simp [hB] at h
      obtain ⟨_, ⟨_, hn⟩ | ⟨g, o, hg, _⟩⟩ := hs.blk n _ hB
      · subst hn; simp at h
      · exact ⟨g, o, hg⟩
    | obj o => simp [hB] at h
    | here => exact hs.blk n _ hB
    | dead => simp [hB] at h

theorem eq_pp {t e : TypeId} (h : P.underlying t = some (.pointer e)) (b : Option Addr) (w : World) : (Op.equal t (.pointer none) (.pointer b)).run P w = .ok b.isNone w := by
  rw [Op.equal, Op.maxDepth, Op.equalIn]; simp [run_underlying h]
theorem eq_pq {t e : TypeId} (h : P.underlying t = some (.pointer e)) (a : Addr) (w : World) : (Op.equal t (.pointer (some a)) (.pointer none)).run P w = .ok false w := by
  rw [Op.equal, Op.maxDepth, Op.equalIn]; simp [run_underlying h]
theorem eq_ss {t e : TypeId} (h : P.underlying t = some (.slice e)) (b : Option Addr) (l c l' c' : Nat) (w : World) : (Op.equal t (.slice none l c) (.slice b l' c')).run P w = .ok b.isNone w := by
  rw [Op.equal, Op.maxDepth, Op.equalIn]; simp [run_underlying h]
theorem eq_st {t e : TypeId} (h : P.underlying t = some (.slice e)) (a : Addr) (l c l' c' : Nat) (w : World) : (Op.equal t (.slice (some a) l c) (.slice none l' c')).run P w = .ok false w := by
  rw [Op.equal, Op.maxDepth, Op.equalIn]; simp [run_underlying h]

/-- what an equality comes to: v, in every world that the memory tells -/
def EqOK (P : Program) (M : List Blk) (t : TypeId) (x y : SV) (b : Bool) : Prop :=
  ∀ G ρ w X Y, Sim G ρ M w → (∀ op, (eqGuard op t X Y (den ρ x) (den ρ y)).run P w = .ok () w) ∧ (Op.equal t (den ρ x) (den ρ y)).run P w = .ok b w ∧
    (binOp .eql t (den ρ x) (den ρ y) = do pure (.bool (← Op.equal t (den ρ x) (den ρ y)))) ∧ (binOp .neq t (den ρ x) (den ρ y) = do pure (.bool (!(← Op.equal t (den ρ x) (den ρ y)))))

theorem eqC_ok (hT : TabOK P T) {t : TypeId} {x y : SV} {K : Bool → Prop} (h : eqC T M t x y K) : ∃ b, K b ∧ EqOK P M t x y b := by
  have hsl : isSl (T.k t) = true → ∃ e, P.underlying t = some (.slice e) := by
    intro h
    cases htk : T.k t <;> simp [htk, isSl] at h
    obtain ⟨d, i, hd, hi, _, rfl, _⟩ := tk_facts (Tab.facts hT htk (by simp)) (by simp)
    exact ⟨_, hd⟩
  unfold eqC at h
  split at h
  · rename_i a c
    obtain ⟨htk, hK⟩ := h
    obtain ⟨d, i, hd, hi, _, rfl⟩ := tk_facts (Tab.facts hT htk (by simp)) (by simp)
    refine ⟨_, hK, fun G ρ w X Y hs => ⟨fun op => by unfold eqGuard; cases op <;> simp [den], run_equal_bool (P := P) (w := w) t a c hd, rfl, rfl⟩⟩
  · obtain ⟨htk, hK⟩ := h
    obtain ⟨d, i, hd, hi, _, e, rfl⟩ := tk_facts (Tab.facts hT htk (by simp)) (by simp)
    refine ⟨_, hK, fun G ρ w X Y hs => ⟨fun op => by unfold eqGuard; cases op <;> simp [den], ?_, rfl, rfl⟩⟩
    exact eq_pp hd none w
  · rename_i n off
    obtain ⟨htk, hl, hK⟩ := h
    obtain ⟨d, i, hd, hi, _, e, rfl⟩ := tk_facts (Tab.facts hT htk (by simp)) (by simp)
    refine ⟨_, hK, fun G ρ w X Y hs => ?_⟩
    obtain ⟨g, o, hg⟩ := live_ren hs hl
    have hden : den ρ (.p n off) = .pointer (some ⟨g, o + off, none⟩) := by simp [den, adr, hg]
    refine ⟨fun op => by rw [hden]; unfold eqGuard; cases op <;> simp [den], ?_, rfl, rfl⟩
    rw [hden]
    exact eq_pq hd _ w
  · rename_i n off
    obtain ⟨htk, hl, hK⟩ := h
    obtain ⟨d, i, hd, hi, _, e, rfl⟩ := tk_facts (Tab.facts hT htk (by simp)) (by simp)
    refine ⟨_, hK, fun G ρ w X Y hs => ?_⟩
    obtain ⟨g, o, hg⟩ := live_ren hs hl
    have hden : den ρ (.p n off) = .pointer (some ⟨g, o + off, none⟩) := by simp [den, adr, hg]
    refine ⟨fun op => by rw [hden]; unfold eqGuard; cases op <;> simp [den], ?_, rfl, rfl⟩
    rw [hden]
    exact eq_pp hd (some _) w
  · obtain ⟨htk, hK⟩ := h
    obtain ⟨e, hd⟩ := hsl htk
    refine ⟨_, hK, fun G ρ w X Y hs => ⟨fun op => by unfold eqGuard; cases op <;> simp [den], ?_, rfl, rfl⟩⟩
    exact eq_ss hd none _ _ _ _ w
  · rename_i n off len cap
    obtain ⟨htk, hl, hK⟩ := h
    obtain ⟨e, hd⟩ := hsl htk
    refine ⟨_, hK, fun G ρ w X Y hs => ?_⟩
    obtain ⟨g, o, hg⟩ := live_ren hs hl
    have hden : den ρ (.sl n off len cap) = .slice (some ⟨g, o + off, none⟩) len cap := by simp [den, adr, hg]
    refine ⟨fun op => by rw [hden]; unfold eqGuard; cases op <;> simp [den], ?_, rfl, rfl⟩
    rw [hden]
    exact eq_st hd _ _ _ _ _ w
  · rename_i n off len cap
    obtain ⟨htk, hl, hK⟩ := h
    obtain ⟨e, hd⟩ := hsl htk
    refine ⟨_, hK, fun G ρ w X Y hs => ?_⟩
    obtain ⟨g, o, hg⟩ := live_ren hs hl
    have hden : den ρ (.sl n off len cap) = .slice (some ⟨g, o + off, none⟩) len cap := by simp [den, adr, hg]
    refine ⟨fun op => by rw [hden]; unfold eqGuard; cases op <;> simp [den], ?_, rfl, rfl⟩
    rw [hden]
    exact eq_ss hd (some _) _ _ _ _ w
  · obtain ⟨htk, hK⟩ := h
    obtain ⟨e, hd⟩ := hsl htk
    refine ⟨_, hK, fun G ρ w X Y hs => ⟨fun op => by unfold eqGuard; cases op <;> simp [den], ?_, rfl, rfl⟩⟩
    exact eq_st hd _ _ _ _ _ w
  · rename_i xs ys
    unfold aggEq at h
    split at h
    · rename_i n e esz sz htk
      split at h
      · rename_i k hek
        obtain ⟨he1, hg, hx, hy, kx, ky, hK⟩ := h
        obtain ⟨d, i, hd, hi, rfl, _, _, he2⟩ := tk_facts (Tab.facts hT htk (by simp)) (by simp)
        obtain ⟨d', i', hd', hi', _, rfl⟩ := tk_facts (Tab.facts hT hek (by simp)) (by simp)
        rw [he1] at he2
        refine ⟨_, hK, fun G ρ w X Y hs => ⟨fun op => ?_, ?_, rfl, rfl⟩⟩
        · simp only [den]; exact run_eqGuard_agg (P := P) (w := w) op t X Y _ _ (hT.eqp t hg)
        · unfold Op.equal Op.maxDepth
          exact run_equalIn_arr hd hd' he2 ρ hx hy kx ky 9998 w
      · cases h
    · cases h
  · cases h

theorem den_i (ρ : Ren) (k : IntKind) (x : Int) : den ρ (.i k x) = .int k x := by rw [den]
theorem den_u8 (ρ : Ren) (x : BitVec 8) : den ρ (.u8 x) = .int .u8 x.toNat := by rw [den]
theorem den_u32 (ρ : Ren) (x : BitVec 32) : den ρ (.u32 x) = .int .u32 x.toNat := by rw [den]
theorem den_u64 (ρ : Ren) (x : BitVec 64) : den ρ (.u64 x) = .int .u64 x.toNat := by rw [den]

theorem binC_ok (hT : TabOK P T) (op : BinOp) (t : TypeId) (X Y : Operand) {x y : SV} {K : SV → List Blk → Prop} (h : binC T M op t x y (fun v => K v M)) :
    SemOK P M (fun ρ => do eqGuard op t X Y (den ρ x) (den ρ y); binOp op t (den ρ x) (den ρ y)) K := by
  -- integers
  have ints : ∀ (kx ky : IntKind) (a b : Int), (∀ ρ, den ρ x = .int kx a) → (∀ ρ, den ρ y = .int ky b) → Pure1 P (binOp op t (.int kx a) (.int ky b)) (fun v => K v M) →
      SemOK P M (fun ρ => do eqGuard op t X Y (den ρ x) (den ρ y); binOp op t (den ρ x) (den ρ y)) K := by
    intro kx ky a b hx hy ⟨v, hK, hlt, hr⟩
    refine SemOK.pure v (hlt _) hK (fun G ρ w hs => ?_)
    simp only [hx ρ, hy ρ, Sem.run_bind, run_eqGuard_int, Result.andThen_ok]
    exact hr ρ w
  unfold binC at h
  split at h
  · exact ints .u8 .u8 _ _ (fun ρ => den_u8 ρ _) (fun ρ => den_u8 ρ _) (bvC_ok (k := .u8) rfl (fun x ρ => den_u8 ρ x) (fun x m => rfl) op t _ _ h)
  · exact ints .u32 .u32 _ _ (fun ρ => den_u32 ρ _) (fun ρ => den_u32 ρ _) (bvC_ok (k := .u32) rfl (fun x ρ => den_u32 ρ x) (fun x m => rfl) op t _ _ h)
  · exact ints .u64 .u64 _ _ (fun ρ => den_u64 ρ _) (fun ρ => den_u64 ρ _) (bvC_ok (k := .u64) rfl (fun x ρ => den_u64 ρ x) (fun x m => rfl) op t _ _ h)
  · rename_i k a k' b
    split at h
    · rename_i hk; subst hk
      exact ints k k _ _ (fun ρ => den_i ρ _ _) (fun ρ => den_i ρ _ _) (intC_ok op t k a b h)
    · exact ints k k' _ _ (fun ρ => den_i ρ _ _) (fun ρ => den_i ρ _ _) (shI_ok op t k k' a b h.1 h.2)
  · exact ints .u8 .u32 _ _ (fun ρ => den_u8 ρ _) (fun ρ => den_u32 ρ _) (shC_ok (k := .u8) rfl (fun x ρ => den_u8 ρ x) (fun x m => rfl) op t _ .u32 _ (by omega) h)
  · exact ints .u8 .u64 _ _ (fun ρ => den_u8 ρ _) (fun ρ => den_u64 ρ _) (shC_ok (k := .u8) rfl (fun x ρ => den_u8 ρ x) (fun x m => rfl) op t _ .u64 _ (by omega) h)
  · exact ints .u32 .u8 _ _ (fun ρ => den_u32 ρ _) (fun ρ => den_u8 ρ _) (shC_ok (k := .u32) rfl (fun x ρ => den_u32 ρ x) (fun x m => rfl) op t _ .u8 _ (by omega) h)
  · exact ints .u32 .u64 _ _ (fun ρ => den_u32 ρ _) (fun ρ => den_u64 ρ _) (shC_ok (k := .u32) rfl (fun x ρ => den_u32 ρ x) (fun x m => rfl) op t _ .u64 _ (by omega) h)
  · exact ints .u64 .u8 _ _ (fun ρ => den_u64 ρ _) (fun ρ => den_u8 ρ _) (shC_ok (k := .u64) rfl (fun x ρ => den_u64 ρ x) (fun x m => rfl) op t _ .u8 _ (by omega) h)
  · exact ints .u64 .u32 _ _ (fun ρ => den_u64 ρ _) (fun ρ => den_u32 ρ _) (shC_ok (k := .u64) rfl (fun x ρ => den_u64 ρ x) (fun x m => rfl) op t _ .u32 _ (by omega) h)
  · exact ints .u8 _ _ _ (fun ρ => den_u8 ρ _) (fun ρ => den_i ρ _ _) (shC_ok (k := .u8) rfl (fun x ρ => den_u8 ρ x) (fun x m => rfl) op t _ _ _ h.1 h.2)
  · exact ints .u32 _ _ _ (fun ρ => den_u32 ρ _) (fun ρ => den_i ρ _ _) (shC_ok (k := .u32) rfl (fun x ρ => den_u32 ρ x) (fun x m => rfl) op t _ _ _ h.1 h.2)
  · exact ints .u64 _ _ _ (fun ρ => den_u64 ρ _) (fun ρ => den_i ρ _ _) (shC_ok (k := .u64) rfl (fun x ρ => den_u64 ρ x) (fun x m => rfl) op t _ _ _ h.1 h.2)
  · exact ints _ .u8 _ _ (fun ρ => den_i ρ _ _) (fun ρ => den_u8 ρ _) (shI_ok op t _ .u8 _ _ (by omega) h)
  · exact ints _ .u32 _ _ (fun ρ => den_i ρ _ _) (fun ρ => den_u32 ρ _) (shI_ok op t _ .u32 _ _ (by omega) h)
  · exact ints _ .u64 _ _ (fun ρ => den_i ρ _ _) (fun ρ => den_u64 ρ _) (shI_ok op t _ .u64 _ _ (by omega) h)
  · split at h
    · obtain ⟨b, hK, he⟩ := eqC_ok hT h
      refine SemOK.pure (.b b) rfl hK (fun G ρ w hs => ?_)
      obtain ⟨h1, h2, h3, _⟩ := he G ρ w X Y hs
      simp only [Sem.run_bind, h1, Result.andThen_ok, h3, h2, Sem.run_pure, den]
    · obtain ⟨b, hK, he⟩ := eqC_ok hT h
      refine SemOK.pure (.b (!b)) rfl hK (fun G ρ w hs => ?_)
      obtain ⟨h1, h2, _, h4⟩ := he G ρ w X Y hs
      simp only [Sem.run_bind, h1, Result.andThen_ok, h4, h2, Sem.run_pure, den]
    · cases h

end
end Go.Proofs.Ytccnffjjahdneaa.Eng
