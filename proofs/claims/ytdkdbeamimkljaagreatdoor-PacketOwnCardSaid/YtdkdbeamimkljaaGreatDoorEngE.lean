/- The engine, part E: equality, indexes, fields, conversions, composite values. -/
import Derived.Test.YtdkdbeamimkljaaGreatDoorEngD
namespace Go.Proofs.YtdkdbeamimkljaaGreatDoor.Eng
open Go Go.RowKit
set_option linter.unusedSimpArgs false
set_option linter.unusedVariables false
/-! equality -/
def liveN (M : List Blk) (n : Nat) : Bool :=
  match M[n]? with
  | some (.row cs _) => decide (0 < cs.length)
  | some (.ro cs) => decide (0 < cs.length)
  | some .here => true
  | _ => false
def eqS : SV → SV → Bool
  | .i _ a, .i _ b => a == b
  | .u8 a, .u8 b => a == b
  | .u32 a, .u32 b => a == b
  | .u64 a, .u64 b => a == b
  | .b a, .b b => a == b
  | _, _ => false
def eqL : List SV → List SV → Bool
  | [], [] => true
  | x :: l, y :: r => eqS x y && eqL l r
  | _, _ => false
/-- an integer of kind k -/
def ofK (k : IntKind) : SV → Bool
  | .i k' _ => k' == k && k != .u8 && k != .u32 && k != .u64
  | .u8 _ => k == .u8
  | .u32 _ => k == .u32
  | .u64 _ => k == .u64
  | _ => false
def oks : List IntKind → List SV → Bool
  | [], [] => true
  | k :: ks, x :: xs => ofK k x && oks ks xs
  | _, _ => false
def aggEq (T : Tab) (t : TypeId) (xs ys : List SV) (K : Bool → Prop) : Prop :=
  match T.k t with
  | .arr n e esz _ => match T.k e with
    | .int k => esz = 1 ∧ T.eqp.getD t false = true ∧ xs.length = n ∧ ys.length = n ∧ xs.all (ofK k) = true ∧ ys.all (ofK k) = true ∧ K (eqL xs ys)
    | _ => False
  | .struct _ => match T.eqk.getD t none with
    | some ks => T.eqp.getD t false = true ∧ oks ks xs = true ∧ oks ks ys = true ∧ K (eqL xs ys)
    | none => False
  | _ => False
def isSl : TK → Bool
  | .slice .. => true
  | _ => false
def eqC (T : Tab) (M : List Blk) (t : TypeId) (x y : SV) (K : Bool → Prop) : Prop :=
  match x, y with
  | .b a, .b c => T.k t = .bool ∧ K (a == c)
  | .pn, .pn => T.k t = .ptr ∧ K true
  | .p n _, .pn | .pn, .p n _ => T.k t = .ptr ∧ liveN M n = true ∧ K false
  | .sn, .sn => isSl (T.k t) = true ∧ K true
  | .sl n _ _ _, .sn | .sn, .sl n _ _ _ => isSl (T.k t) = true ∧ liveN M n = true ∧ K false
  | .raw (.slice (some _) _ _), .sn => isSl (T.k t) = true ∧ K false
  | .agg xs, .agg ys => aggEq T t xs ys K
  | _, _ => False
/-- strings held against each other -/
def strE (op : BinOp) (a b : ByteArray) (K : SV → Prop) : Prop :=
  match op with
  | .eql => K (.b (a.toList == b.toList))
  | .neq => K (.b (a.toList != b.toList))
  | _ => False
def binC (T : Tab) (M : List Blk) (op : BinOp) (t : TypeId) (x y : SV) (K : SV → Prop) : Prop :=
  match x, y with
  | .u8 a, .u8 b => bvC op a b .u8 K
  | .u32 a, .u32 b => bvC op a b .u32 K
  | .u64 a, .u64 b => bvC op a b .u64 K
  | .i k a, .i k' b => if k = k' then intC op k a b K else 0 ≤ b ∧ shI op k a b.toNat K
  | .u8 a, .u32 b => shC op a b.toNat .u8 K
  | .u8 a, .u64 b => shC op a b.toNat .u8 K
  | .u32 a, .u8 b => shC op a b.toNat .u32 K
  | .u32 a, .u64 b => shC op a b.toNat .u32 K
  | .u64 a, .u8 b => shC op a b.toNat .u64 K
  | .u64 a, .u32 b => shC op a b.toNat .u64 K
  | .u8 a, .i _ b => 0 ≤ b ∧ shC op a b.toNat .u8 K
  | .u32 a, .i _ b => 0 ≤ b ∧ shC op a b.toNat .u32 K
  | .u64 a, .i _ b => 0 ≤ b ∧ shC op a b.toNat .u64 K
  | .i k a, .u8 b => shI op k a b.toNat K
  | .i k a, .u32 b => shI op k a b.toNat K
  | .i k a, .u64 b => shI op k a b.toNat K
  | .str a, .str b => strE op a b K
  | x, y =>
    match op with
    | .eql => eqC T M t x y (fun b => K (.b b))
    | .neq => eqC T M t x y (fun b => K (.b !b))
    | _ => False
section
variable {P : Program} {T : Tab} {M : List Blk}
theorem run_forIn_all {w : World} (g : Nat → Bool) (B : Nat → Option Bool × Unit → Sem (ForInStep (Option Bool × Unit))) : ∀ (l : List Nat),
    (∀ i, i ∈ l → (B i (none, ())).run P w = .ok (if g i then .yield (none, ()) else .done (some false, ())) w) →
    (forIn l (none, ()) B).run P w = .ok (if l.all g then (none, ()) else (some false, ())) w
  | [], _ => rfl
  | i :: l, h => by
    simp only [List.forIn_cons, Sem.run_bind, h i (by simp), Result.andThen_ok]
    by_cases hg : g i = true
    · simp only [hg, if_true, List.all_cons, Bool.true_and]
      exact run_forIn_all g B l (fun j hj => h j (by simp [hj]))
    · simp only [hg, Bool.false_eq_true, if_false, List.all_cons, Bool.false_and]
      rfl
theorem ofK_den {k : IntKind} {x : SV} (h : ofK k x = true) : ∃ a, ∀ ρ, den ρ x = .int k a := by
  cases x <;> simp [ofK] at h
  case i k' a => exact ⟨a, fun ρ => by simp [den, h.1.1.1]⟩
  all_goals
    rename_i a
    subst h
    exact ⟨a.toNat, fun ρ => by simp [den]⟩
theorem eqS_den {k : IntKind} {x y : SV} (hx : ofK k x = true) (hy : ofK k y = true) (ρ : Ren) {a b : Int} (ha : den ρ x = .int k a) (hb : den ρ y = .int k b) : eqS x y = (a == b) := by
  cases x <;> simp [ofK] at hx <;> cases y <;> simp [ofK] at hy <;> (try simp_all; done) <;> simp [den] at ha hb
  all_goals
    obtain ⟨_, rfl⟩ := ha; obtain ⟨_, rfl⟩ := hb
    rw [Bool.eq_iff_iff]
    first | simp only [eqS, beq_iff_eq, Int.natCast_inj, BitVec.toNat_inj] | simp only [eqS]
theorem eqL_all : ∀ (xs ys : List SV), xs.length = ys.length → eqL xs ys = (List.range xs.length).all fun i => eqS (xs.getD i uS) (ys.getD i uS)
  | [], [], _ => rfl
  | x :: xs, y :: ys, h => by
    have ih := eqL_all xs ys (by simpa using h)
    simp only [eqL, ih, List.length_cons, List.range_succ_eq_map, List.all_cons, List.all_map, List.getD_cons_zero]
    rfl
  | [], _ :: _, h => by simp at h
  | _ :: _, [], h => by simp at h
theorem run_equalIn_arr {t e : TypeId} {n : Nat} {k : IntKind} (ht : P.underlying t = some (.array n e)) (he : P.underlying e = some (.int k)) (hi : (P.info? e).map (·.size) = some 1)
    (ρ : Ren) {xs ys : List SV} (hx : xs.length = n) (hy : ys.length = n) (kx : xs.all (ofK k) = true) (ky : ys.all (ofK k) = true) (d : Nat) (w : World) :
    (Op.equalIn (d + 2) t (den ρ (.agg xs)) (den ρ (.agg ys))).run P w = .ok (eqL xs ys) w := by
  obtain ⟨i, hi', hsz⟩ : ∃ i, P.info? e = some i ∧ i.size = 1 := by
    cases hq : P.info? e with
    | none => simp [hq] at hi
    | some i => exact ⟨i, rfl, by simpa [hq] using hi⟩
  have hso : (sizeOf e).run P w = .ok 1 w := by simp [sizeOf, typeInfo, hi', hsz]
  rw [Op.equalIn]
  simp only [den, Sem.run_bind, run_underlying ht, Result.andThen_ok, hso]
  have part1 : ∀ (l : List SV) (i : Nat) (h : i < l.length), (part e (denL ρ l).toArray (i * 1)).run P w = .ok (den ρ l[i]) w := by
    intro l i h
    have hg : (denL ρ l)[i]? = some (den ρ l[i]) := by simp [denL_eq, List.getElem?_eq_getElem h]
    simp [part, Sem.run_bind, run_isAgg he, isAggD, hg]
  rw [Std.Legacy.Range.forIn_eq_forIn_range', run_forIn_all (fun i => eqS (xs.getD i uS) (ys.getD i uS))]
  · rw [eqL_all xs ys (by omega)]
    have hr : List.range' 0 ({ start := 0, stop := n, step := 1, step_pos := Nat.one_pos : Std.Legacy.Range }).size 1 = List.range xs.length := by
      rw [List.range_eq_range', hx]
      simp [Std.Legacy.Range.size]
    rw [hr]
    simp only [Result.andThen_ok]
    generalize ((List.range xs.length).all fun i => eqS (xs.getD i uS) (ys.getD i uS)) = r
    cases r <;> simp
  · intro i hmem
    have hi1 : i < n := by
      simp [Std.Legacy.Range.size] at hmem
      omega
    have hix : i < xs.length := by omega
    have hiy : i < ys.length := by omega
    simp only [Sem.run_bind, part1 xs i hix, part1 ys i hiy, Result.andThen_ok]
    have k1 := List.all_eq_true.1 kx xs[i] (List.getElem_mem hix)
    have k2 := List.all_eq_true.1 ky ys[i] (List.getElem_mem hiy)
    obtain ⟨a, ha⟩ := ofK_den k1
    obtain ⟨b, hb⟩ := ofK_den k2
    rw [ha ρ, hb ρ, run_equalIn_int (P := P) (w := w) d e k k a b he]
    have hee := eqS_den k1 k2 ρ (ha ρ) (hb ρ)
    have g1 : xs.getD i uS = xs[i] := by simp [List.getD_eq_getElem?_getD, List.getElem?_eq_getElem hix]
    have g2 : ys.getD i uS = ys[i] := by simp [List.getD_eq_getElem?_getD, List.getElem?_eq_getElem hiy]
    rw [g1, g2, hee]
    simp only [Result.andThen_ok, Sem.run_ite, Sem.run_pure]
    cases (a == b) <;> rfl
/-- the guard ahead of a comparison lets by -/
theorem run_eqGuard_int (op : BinOp) (t : TypeId) (x y : Operand) (k k' : IntKind) (a b : Int) (w : World) : (eqGuard op t x y (.int k a) (.int k' b)).run P w = .ok () w := by
  unfold eqGuard; cases op <;> simp
theorem live_ren {G : Cx} {ρ : Ren} {w : World} (hs : Sim G ρ M w) {n : Nat} (h : liveN M n = true) : ∃ g o, ρ n = some (g, o) := by
  unfold liveN at h
  cases hB : M[n]? with
  | none => simp [hB] at h
  | some B =>
    cases B with
    | row cs ty =>
      simp [hB] at h
      obtain ⟨_, ⟨h0, _⟩ | ⟨g, hg, _⟩⟩ := hs.blk n _ hB
      · subst h0; simp at h
      · exact ⟨g, 0, hg⟩
    | ro cs =>
      simp [hB] at h
      obtain ⟨_, ⟨_, hn⟩ | ⟨g, o, hg, _⟩⟩ := hs.blk n _ hB
      · subst hn; simp at h
      · exact ⟨g, o, hg⟩
    | obj o => simp [hB] at h
    | here => exact hs.blk n _ hB
    | dead => simp [hB] at h
theorem eq_pp {t e : TypeId} (h : P.underlying t = some (.pointer e)) (b : Option Addr) (w : World) : (Op.equal t (.pointer none) (.pointer b)).run P w = .ok b.isNone w := by
  rw [Op.equal, Op.maxDepth, Op.equalIn]; simp [run_underlying h]
theorem eq_pq {t e : TypeId} (h : P.underlying t = some (.pointer e)) (a : Addr) (w : World) : (Op.equal t (.pointer (some a)) (.pointer none)).run P w = .ok false w := by
  rw [Op.equal, Op.maxDepth, Op.equalIn]; simp [run_underlying h]
theorem eq_ss {t e : TypeId} (h : P.underlying t = some (.slice e)) (b : Option Addr) (l c l' c' : Nat) (w : World) : (Op.equal t (.slice none l c) (.slice b l' c')).run P w = .ok b.isNone w := by
  rw [Op.equal, Op.maxDepth, Op.equalIn]; simp [run_underlying h]
theorem eq_st {t e : TypeId} (h : P.underlying t = some (.slice e)) (a : Addr) (l c l' c' : Nat) (w : World) : (Op.equal t (.slice (some a) l c) (.slice none l' c')).run P w = .ok false w := by
  rw [Op.equal, Op.maxDepth, Op.equalIn]; simp [run_underlying h]
/-- what an equality comes to: v, in every world that the memory tells -/
def EqOK (P : Program) (M : List Blk) (t : TypeId) (x y : SV) (b : Bool) : Prop :=
  ∀ G ρ w X Y, Sim G ρ M w → (∀ op, (eqGuard op t X Y (den ρ x) (den ρ y)).run P w = .ok () w) ∧ (Op.equal t (den ρ x) (den ρ y)).run P w = .ok b w ∧
    (binOp .eql t (den ρ x) (den ρ y) = do pure (.bool (← Op.equal t (den ρ x) (den ρ y)))) ∧ (binOp .neq t (den ρ x) (den ρ y) = do pure (.bool (!(← Op.equal t (den ρ x) (den ρ y)))))
theorem oks_len : ∀ {ks : List IntKind} {xs : List SV}, oks ks xs = true → xs.length = ks.length
  | [], [], _ => rfl
  | [], _ :: _, h => by simp [oks] at h
  | _ :: _, [], h => by simp [oks] at h
  | k :: ks, x :: xs, h => by
    simp only [oks, Bool.and_eq_true] at h
    simp [oks_len h.2]
theorem oks_app : ∀ {ks ks' : List IntKind} {xs : List SV}, oks (ks ++ ks') xs = true → oks ks (xs.take ks.length) = true ∧ oks ks' (xs.drop ks.length) = true
  | [], _, _, h => ⟨by simp [oks], by simpa using h⟩
  | _ :: _, _, [], h => by simp [oks] at h
  | k :: ks, ks', x :: xs, h => by
    simp only [List.cons_append, oks, Bool.and_eq_true] at h
    have := oks_app h.2
    simp only [List.length_cons, List.take_succ_cons, List.drop_succ_cons, oks, h.1, Bool.true_and]
    exact this
theorem eqL_split : ∀ (n : Nat) (xs ys : List SV), xs.length = ys.length → eqL xs ys = (eqL (xs.take n) (ys.take n) && eqL (xs.drop n) (ys.drop n))
  | 0, xs, ys, _ => by simp [eqL]
  | n + 1, [], [], _ => rfl
  | n + 1, [], _ :: _, h => by simp at h
  | n + 1, _ :: _, [], h => by simp at h
  | n + 1, x :: xs, y :: ys, h => by
    simp only [List.take_succ_cons, List.drop_succ_cons, eqL, eqL_split n xs ys (by simpa using h), Bool.and_assoc]
/-- a value of a type, of its cells -/
def valOf (P : Program) (t : TypeId) (ρ : Ren) (xs : List SV) : Value :=
  match P.underlying t with
  | some (.struct _) => .agg (denL ρ xs).toArray
  | _ => den ρ (xs.getD 0 uS)
theorem forIn_fields {w : World} (g : Field → Bool) (B : Field → Option Bool × Unit → Sem (ForInStep (Option Bool × Unit))) : ∀ (l : List Field),
    (∀ i, i ∈ l → (B i (none, ())).run P w = .ok (if g i then .yield (none, ()) else .done (some false, ())) w) →
    (forIn l (none, ()) B).run P w = .ok (if l.all g then (none, ()) else (some false, ())) w
  | [], _ => rfl
  | i :: l, h => by
    simp only [List.forIn_cons, Sem.run_bind, h i (by simp), Result.andThen_ok]
    by_cases hg : g i = true
    · simp only [hg, if_true, List.all_cons, Bool.true_and]
      exact forIn_fields g B l (fun j hj => h j (by simp [hj]))
    · simp only [hg, Bool.false_eq_true, if_false, List.all_cons, Bool.false_and]
      rfl
theorem kinds_size {d : Nat} {t : TypeId} {ks : List IntKind} (h : kindsOf P d t = some ks) : ∃ i, P.info? t = some i ∧ i.size = ks.length ∧ ((∃ k, P.underlying t = some (.int k) ∧ ks = [k]) ∨ ∃ fs, P.underlying t = some (.struct fs)) := by
  cases d with
  | zero => cases h
  | succ d =>
    unfold kindsOf at h
    split at h
    · rename_i k i hu hi
      split at h
      · rename_i hs
        cases h
        exact ⟨i, hi, hs, .inl ⟨k, hu, rfl⟩⟩
      · cases h
    · rename_i fs i hu hi
      split at h
      · cases h
      split at h
      · split at h
        · rename_i hs
          cases h
          exact ⟨i, hi, hs, .inr ⟨fs, hu⟩⟩
        · cases h
      · cases h
    · cases h
/-- what a field's part is -/
theorem part_val {d : Nat} {t : TypeId} {ks : List IntKind} (h : kindsOf P d t = some ks) (ρ : Ren) (xs : List SV) (off : Nat) (hl : off + ks.length ≤ xs.length) (hne : ks ≠ []) (w : World) :
    (part t (denL ρ xs).toArray off).run P w = .ok (valOf P t ρ ((xs.drop off).take ks.length)) w := by
  obtain ⟨i, hi, hs, ⟨k, hu, rfl⟩ | ⟨fs, hu⟩⟩ := kinds_size h
  · have ho : off < xs.length := by simp at hl; omega
    have hg : (denL ρ xs)[off]? = some (den ρ xs[off]) := by simp [denL_eq, List.getElem?_eq_getElem ho]
    have e : ((xs.drop off).take [k].length).getD 0 uS = xs[off] := by
      rw [List.getD_eq_getElem?_getD, List.getElem?_take_of_lt (by simp), List.getElem?_drop, Nat.add_zero, List.getElem?_eq_getElem ho]; rfl
    simp only [valOf, hu, e]
    simp [part, Sem.run_bind, run_isAgg hu, isAggD, hg]
  · have hso : (sizeOf t).run P w = .ok ks.length w := by simp [sizeOf, typeInfo, hi, hs]
    simp only [valOf, hu]
    simp [part, Sem.run_bind, run_isAgg hu, isAggD, hso, denL_take, denL_drop]
def sizeT (P : Program) (t : TypeId) : Nat := ((P.info? t).map (·.size)).getD 0
theorem fs_facts {d : Nat} : ∀ {fs : List Field} {off : Nat} {ks : List IntKind} {xs ys : List SV}, kindsFs P (kindsOf P d) fs off = some ks → oks ks (xs.drop off) = true → oks ks (ys.drop off) = true → off ≤ xs.length → off ≤ ys.length →
    (fs.all fun f => eqL ((xs.drop f.offset).take (sizeT P f.type)) ((ys.drop f.offset).take (sizeT P f.type))) = eqL (xs.drop off) (ys.drop off) ∧
    ∀ f, f ∈ fs → f.name ≠ "_" ∧ ∃ kf, kindsOf P d f.type = some kf ∧ kf ≠ [] ∧ sizeT P f.type = kf.length ∧ f.offset + kf.length ≤ xs.length ∧ f.offset + kf.length ≤ ys.length ∧ oks kf ((xs.drop f.offset).take kf.length) = true ∧ oks kf ((ys.drop f.offset).take kf.length) = true
  | [], off, ks, xs, ys, h, hx, hy, lx, ly => by
    cases h
    have e1 : xs.drop off = [] := List.length_eq_zero_iff.1 (oks_len hx)
    have e2 : ys.drop off = [] := List.length_eq_zero_iff.1 (oks_len hy)
    exact ⟨by rw [e1, e2]; rfl, by simp⟩
  | f :: fs, off, ks, xs, ys, h, hx, hy, lx, ly => by
    unfold kindsFs at h
    split at h
    · cases h
    rename_i hno
    simp only [not_or, Decidable.not_not] at hno
    split at h
    · rename_i kf hkf
      split at h
      · cases h
      rename_i hne
      cases hr : kindsFs P (kindsOf P d) fs (off + kf.length) with
      | none => rw [hr] at h; cases h
      | some kr =>
        rw [hr] at h
        simp only [Option.map_some, Option.some.injEq] at h
        subst h
        obtain ⟨a1, a2⟩ := oks_app hx
        obtain ⟨b1, b2⟩ := oks_app hy
        have l1 := oks_len hx
        have l2 := oks_len hy
        simp only [List.length_drop, List.length_append] at l1 l2
        rw [List.drop_drop] at a2 b2
        obtain ⟨i, hi, hs, _⟩ := kinds_size hkf
        have hsz : sizeT P f.type = kf.length := by simp [sizeT, hi, hs]
        obtain ⟨ih1, ih2⟩ := fs_facts (xs := xs) (ys := ys) hr a2 b2 (by omega) (by omega)
        constructor
        · rw [List.all_cons, ih1, hsz, hno.2, eqL_split kf.length (xs.drop off) (ys.drop off) (by simp; omega), List.drop_drop, List.drop_drop]
        · intro f' hf'
          rcases List.mem_cons.1 hf' with rfl | hf'
          · exact ⟨hno.1, kf, hkf, hne, hsz, by rw [hno.2]; omega, by rw [hno.2]; omega, by rw [hno.2]; exact a1, by rw [hno.2]; exact b1⟩
          · exact ih2 f' hf'
    · cases h
theorem run_equalIn_kinds : ∀ (d : Nat) {t : TypeId} {ks : List IntKind}, kindsOf P d t = some ks → ∀ (ρ : Ren) {xs ys : List SV} (e : Nat) (w : World), oks ks xs = true → oks ks ys = true → d ≤ e →
    (Op.equalIn e t (valOf P t ρ xs) (valOf P t ρ ys)).run P w = .ok (eqL xs ys) w
  | 0, t, ks, h, _, _, _, _, _, _, _, _ => by cases h
  | d + 1, t, ks, h, ρ, xs, ys, 0, w, hx, hy, he => by omega
  | d + 1, t, ks, h, ρ, xs, ys, e + 1, w, hx, hy, he => by
    have h' := h
    unfold kindsOf at h
    split at h
    · rename_i k i hu hi
      split at h
      · cases h
        match xs, ys, hx, hy with
        | [x], [y], hx, hy =>
          simp only [oks, Bool.and_true] at hx hy
          obtain ⟨a, ha⟩ := ofK_den hx
          obtain ⟨b, hb⟩ := ofK_den hy
          have hee := eqS_den hx hy ρ (ha ρ) (hb ρ)
          simp only [valOf, hu, List.getD_cons_zero, ha, hb, run_equalIn_int (P := P) (w := w) e t k k a b hu, eqL, hee, Bool.and_true]
        | [], _, hx, _ => simp [oks] at hx
        | _ :: _ :: _, _, hx, _ => simp [oks] at hx
        | [_], [], _, hy => simp [oks] at hy
        | [_], _ :: _ :: _, _, hy => simp [oks] at hy
      · cases h
    · rename_i fs i hu hi
      split at h
      · cases h
      rename_i hst
      split at h
      · rename_i ks' hks
        split at h
        · cases h
          obtain ⟨f1, f2⟩ := fs_facts (xs := xs) (ys := ys) hks (by simpa using hx) (by simpa using hy) (Nat.zero_le _) (Nat.zero_le _)
          simp only [List.drop_zero] at f1
          rw [Op.equalIn]
          simp only [valOf, hu, Sem.run_bind, run_underlying hu, Result.andThen_ok, run_program, hst, Bool.false_eq_true, if_false, Sem.run_pure]
          rw [← Array.forIn_toList, forIn_fields (fun f => eqL ((xs.drop f.offset).take (sizeT P f.type)) ((ys.drop f.offset).take (sizeT P f.type)))]
          · rw [f1]
            cases eqL xs ys <;> simp
          · intro f hf
            obtain ⟨g1, kf, g2, g3, g4, g5, g6, g7, g8⟩ := f2 f hf
            have ih := run_equalIn_kinds d g2 ρ e w g7 g8 (by omega)
            have p1 := part_val g2 ρ xs f.offset g5 g3 w
            have p2 := part_val g2 ρ ys f.offset g6 g3 w
            simp only [g1, ne_eq, not_false_eq_true, if_true, Sem.run_bind, p1, p2, Result.andThen_ok, ih, g4]
            cases eqL ((xs.drop f.offset).take kf.length) ((ys.drop f.offset).take kf.length) <;> simp
        · cases h
      · cases h
    · cases h
theorem eqC_ok (hT : TabOK P T) {t : TypeId} {x y : SV} {K : Bool → Prop} (h : eqC T M t x y K) : ∃ b, K b ∧ EqOK P M t x y b := by
  have hsl : isSl (T.k t) = true → ∃ e, P.underlying t = some (.slice e) := by
    intro h
    cases htk : T.k t <;> simp [htk, isSl] at h
    obtain ⟨d, i, hd, hi, _, rfl, _⟩ := tk_facts (Tab.facts hT htk (by simp)) (by simp)
    exact ⟨_, hd⟩
  unfold eqC at h
  split at h
  · rename_i a c
    obtain ⟨htk, hK⟩ := h
    obtain ⟨d, i, hd, hi, _, rfl⟩ := tk_facts (Tab.facts hT htk (by simp)) (by simp)
    refine ⟨_, hK, fun G ρ w X Y hs => ⟨fun op => by unfold eqGuard; cases op <;> simp [den], run_equal_bool (P := P) (w := w) t a c hd, rfl, rfl⟩⟩
  · obtain ⟨htk, hK⟩ := h
    obtain ⟨d, i, hd, hi, _, e, rfl⟩ := tk_facts (Tab.facts hT htk (by simp)) (by simp)
    refine ⟨_, hK, fun G ρ w X Y hs => ⟨fun op => by unfold eqGuard; cases op <;> simp [den], ?_, rfl, rfl⟩⟩
    exact eq_pp hd none w
  · rename_i n off
    obtain ⟨htk, hl, hK⟩ := h
    obtain ⟨d, i, hd, hi, _, e, rfl⟩ := tk_facts (Tab.facts hT htk (by simp)) (by simp)
    refine ⟨_, hK, fun G ρ w X Y hs => ?_⟩
    obtain ⟨g, o, hg⟩ := live_ren hs hl
    have hden : den ρ (.p n off) = .pointer (some ⟨g, o + off, none⟩) := by simp [den, adr, hg]
    refine ⟨fun op => by rw [hden]; unfold eqGuard; cases op <;> simp [den], ?_, rfl, rfl⟩
    rw [hden]
    exact eq_pq hd _ w
  · rename_i n off
    obtain ⟨htk, hl, hK⟩ := h
    obtain ⟨d, i, hd, hi, _, e, rfl⟩ := tk_facts (Tab.facts hT htk (by simp)) (by simp)
    refine ⟨_, hK, fun G ρ w X Y hs => ?_⟩
    obtain ⟨g, o, hg⟩ := live_ren hs hl
    have hden : den ρ (.p n off) = .pointer (some ⟨g, o + off, none⟩) := by simp [den, adr, hg]
    refine ⟨fun op => by rw [hden]; unfold eqGuard; cases op <;> simp [den], ?_, rfl, rfl⟩
    rw [hden]
    exact eq_pp hd (some _) w
  · obtain ⟨htk, hK⟩ := h
    obtain ⟨e, hd⟩ := hsl htk
    refine ⟨_, hK, fun G ρ w X Y hs => ⟨fun op => by unfold eqGuard; cases op <;> simp [den], ?_, rfl, rfl⟩⟩
    exact eq_ss hd none _ _ _ _ w
  · rename_i n off len cap
    obtain ⟨htk, hl, hK⟩ := h
    obtain ⟨e, hd⟩ := hsl htk
    refine ⟨_, hK, fun G ρ w X Y hs => ?_⟩
    obtain ⟨g, o, hg⟩ := live_ren hs hl
    have hden : den ρ (.sl n off len cap) = .slice (some ⟨g, o + off, none⟩) len cap := by simp [den, adr, hg]
    refine ⟨fun op => by rw [hden]; unfold eqGuard; cases op <;> simp [den], ?_, rfl, rfl⟩
    rw [hden]
    exact eq_st hd _ _ _ _ _ w
  · rename_i n off len cap
    obtain ⟨htk, hl, hK⟩ := h
    obtain ⟨e, hd⟩ := hsl htk
    refine ⟨_, hK, fun G ρ w X Y hs => ?_⟩
    obtain ⟨g, o, hg⟩ := live_ren hs hl
    have hden : den ρ (.sl n off len cap) = .slice (some ⟨g, o + off, none⟩) len cap := by simp [den, adr, hg]
    refine ⟨fun op => by rw [hden]; unfold eqGuard; cases op <;> simp [den], ?_, rfl, rfl⟩
    rw [hden]
    exact eq_ss hd (some _) _ _ _ _ w
  · obtain ⟨htk, hK⟩ := h
    obtain ⟨e, hd⟩ := hsl htk
    refine ⟨_, hK, fun G ρ w X Y hs => ⟨fun op => by unfold eqGuard; cases op <;> simp [den], ?_, rfl, rfl⟩⟩
    exact eq_st hd _ _ _ _ _ w
  · rename_i xs ys
    unfold aggEq at h
    split at h
    · rename_i n e esz sz htk
      split at h
      · rename_i k hek
        obtain ⟨he1, hg, hx, hy, kx, ky, hK⟩ := h
        obtain ⟨d, i, hd, hi, rfl, _, _, he2⟩ := tk_facts (Tab.facts hT htk (by simp)) (by simp)
        obtain ⟨d', i', hd', hi', _, rfl⟩ := tk_facts (Tab.facts hT hek (by simp)) (by simp)
        rw [he1] at he2
        refine ⟨_, hK, fun G ρ w X Y hs => ⟨fun op => ?_, ?_, rfl, rfl⟩⟩
        · simp only [den]; exact run_eqGuard_agg (P := P) (w := w) op t X Y _ _ (hT.eqp t hg)
        · unfold Op.equal Op.maxDepth
          exact run_equalIn_arr hd hd' he2 ρ hx hy kx ky 9998 w
      · cases h
    · rename_i sz htk
      split at h
      · rename_i ks hks
        obtain ⟨hg, kx, ky, hK⟩ := h
        have hk := hT.eqk t ks hks
        obtain ⟨i, hi, hs, ⟨k, hu, _⟩ | ⟨fs, hu⟩⟩ := kinds_size hk
        · have hf := Tab.facts hT htk (by simp)
          simp only [tkOf, hu, hi] at hf
          split at hf <;> cases hf
        · refine ⟨_, hK, fun G ρ w X Y hs => ⟨fun op => ?_, ?_, rfl, rfl⟩⟩
          · simp only [den]; exact run_eqGuard_agg (P := P) (w := w) op t X Y _ _ (hT.eqp t hg)
          · unfold Op.equal Op.maxDepth
            have := run_equalIn_kinds 4 hk ρ 10000 w kx ky (by omega)
            have hv : ∀ l, valOf P t ρ l = den ρ (.agg l) := fun l => by simp [valOf, hu, den]
            rw [hv, hv] at this
            exact this
      · cases h
    · cases h
  · cases h
theorem den_i (ρ : Ren) (k : IntKind) (x : Int) : den ρ (.i k x) = .int k x := by rw [den]
theorem den_u8 (ρ : Ren) (x : BitVec 8) : den ρ (.u8 x) = .int .u8 x.toNat := by rw [den]
theorem den_u32 (ρ : Ren) (x : BitVec 32) : den ρ (.u32 x) = .int .u32 x.toNat := by rw [den]
theorem den_u64 (ρ : Ren) (x : BitVec 64) : den ρ (.u64 x) = .int .u64 x.toNat := by rw [den]
theorem binC_ok (hT : TabOK P T) (op : BinOp) (t : TypeId) (X Y : Operand) {x y : SV} {K : SV → List Blk → Prop} (h : binC T M op t x y (fun v => K v M)) :
    SemOK P M (fun ρ => do eqGuard op t X Y (den ρ x) (den ρ y); binOp op t (den ρ x) (den ρ y)) K := by
  -- integers
  have ints : ∀ (kx ky : IntKind) (a b : Int), (∀ ρ, den ρ x = .int kx a) → (∀ ρ, den ρ y = .int ky b) → Pure1 P (binOp op t (.int kx a) (.int ky b)) (fun v => K v M) →
      SemOK P M (fun ρ => do eqGuard op t X Y (den ρ x) (den ρ y); binOp op t (den ρ x) (den ρ y)) K := by
    intro kx ky a b hx hy ⟨v, hK, hlt, hr⟩
    refine SemOK.pure v (hlt _) hK (fun G ρ w hs => ?_)
    simp only [hx ρ, hy ρ, Sem.run_bind, run_eqGuard_int, Result.andThen_ok]
    exact hr ρ w
  unfold binC at h
  split at h
  · exact ints .u8 .u8 _ _ (fun ρ => den_u8 ρ _) (fun ρ => den_u8 ρ _) (bvC_ok (k := .u8) rfl (fun x ρ => den_u8 ρ x) (fun x m => rfl) op t _ _ h)
  · exact ints .u32 .u32 _ _ (fun ρ => den_u32 ρ _) (fun ρ => den_u32 ρ _) (bvC_ok (k := .u32) rfl (fun x ρ => den_u32 ρ x) (fun x m => rfl) op t _ _ h)
  · exact ints .u64 .u64 _ _ (fun ρ => den_u64 ρ _) (fun ρ => den_u64 ρ _) (bvC_ok (k := .u64) rfl (fun x ρ => den_u64 ρ x) (fun x m => rfl) op t _ _ h)
  · rename_i k a k' b
    split at h
    · rename_i hk; subst hk
      exact ints k k _ _ (fun ρ => den_i ρ _ _) (fun ρ => den_i ρ _ _) (intC_ok op t k a b h)
    · exact ints k k' _ _ (fun ρ => den_i ρ _ _) (fun ρ => den_i ρ _ _) (shI_ok op t k k' a b h.1 h.2)
  · exact ints .u8 .u32 _ _ (fun ρ => den_u8 ρ _) (fun ρ => den_u32 ρ _) (shC_ok (k := .u8) rfl (fun x ρ => den_u8 ρ x) (fun x m => rfl) op t _ .u32 _ (by omega) h)
  · exact ints .u8 .u64 _ _ (fun ρ => den_u8 ρ _) (fun ρ => den_u64 ρ _) (shC_ok (k := .u8) rfl (fun x ρ => den_u8 ρ x) (fun x m => rfl) op t _ .u64 _ (by omega) h)
  · exact ints .u32 .u8 _ _ (fun ρ => den_u32 ρ _) (fun ρ => den_u8 ρ _) (shC_ok (k := .u32) rfl (fun x ρ => den_u32 ρ x) (fun x m => rfl) op t _ .u8 _ (by omega) h)
  · exact ints .u32 .u64 _ _ (fun ρ => den_u32 ρ _) (fun ρ => den_u64 ρ _) (shC_ok (k := .u32) rfl (fun x ρ => den_u32 ρ x) (fun x m => rfl) op t _ .u64 _ (by omega) h)
  · exact ints .u64 .u8 _ _ (fun ρ => den_u64 ρ _) (fun ρ => den_u8 ρ _) (shC_ok (k := .u64) rfl (fun x ρ => den_u64 ρ x) (fun x m => rfl) op t _ .u8 _ (by omega) h)
  · exact ints .u64 .u32 _ _ (fun ρ => den_u64 ρ _) (fun ρ => den_u32 ρ _) (shC_ok (k := .u64) rfl (fun x ρ => den_u64 ρ x) (fun x m => rfl) op t _ .u32 _ (by omega) h)
  · exact ints .u8 _ _ _ (fun ρ => den_u8 ρ _) (fun ρ => den_i ρ _ _) (shC_ok (k := .u8) rfl (fun x ρ => den_u8 ρ x) (fun x m => rfl) op t _ _ _ h.1 h.2)
  · exact ints .u32 _ _ _ (fun ρ => den_u32 ρ _) (fun ρ => den_i ρ _ _) (shC_ok (k := .u32) rfl (fun x ρ => den_u32 ρ x) (fun x m => rfl) op t _ _ _ h.1 h.2)
  · exact ints .u64 _ _ _ (fun ρ => den_u64 ρ _) (fun ρ => den_i ρ _ _) (shC_ok (k := .u64) rfl (fun x ρ => den_u64 ρ x) (fun x m => rfl) op t _ _ _ h.1 h.2)
  · exact ints _ .u8 _ _ (fun ρ => den_i ρ _ _) (fun ρ => den_u8 ρ _) (shI_ok op t _ .u8 _ _ (by omega) h)
  · exact ints _ .u32 _ _ (fun ρ => den_i ρ _ _) (fun ρ => den_u32 ρ _) (shI_ok op t _ .u32 _ _ (by omega) h)
  · exact ints _ .u64 _ _ (fun ρ => den_i ρ _ _) (fun ρ => den_u64 ρ _) (shI_ok op t _ .u64 _ _ (by omega) h)
  · rename_i a b
    unfold strE at h
    split at h
    · exact SemOK.pure _ rfl h (fun G ρ w hs => by simp only [den, Sem.run_bind, eqGuard, binOp, Op.stringOp]; rfl)
    · exact SemOK.pure _ rfl h (fun G ρ w hs => by simp only [den, Sem.run_bind, eqGuard, binOp, Op.stringOp]; rfl)
    · cases h
  · split at h
    · obtain ⟨b, hK, he⟩ := eqC_ok hT h
      refine SemOK.pure (.b b) rfl hK (fun G ρ w hs => ?_)
      obtain ⟨h1, h2, h3, _⟩ := he G ρ w X Y hs
      simp only [Sem.run_bind, h1, Result.andThen_ok, h3, h2, Sem.run_pure, den]
    · obtain ⟨b, hK, he⟩ := eqC_ok hT h
      refine SemOK.pure (.b (!b)) rfl hK (fun G ρ w hs => ?_)
      obtain ⟨h1, h2, _, h4⟩ := he G ρ w X Y hs
      simp only [Sem.run_bind, h1, Result.andThen_ok, h4, h2, Sem.run_pure, den]
    · cases h
end
end Go.Proofs.YtdkdbeamimkljaaGreatDoor.Eng
