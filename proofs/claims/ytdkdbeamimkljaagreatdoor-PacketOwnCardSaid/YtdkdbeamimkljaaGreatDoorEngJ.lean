/- The engine, part J: operations that hand on one value. -/
import Derived.Test.YtdkdbeamimkljaaGreatDoorEngH
namespace Go.Proofs.YtdkdbeamimkljaaGreatDoor.Eng
open Go Go.RowKit
set_option linter.unusedSimpArgs false
set_option linter.unusedVariables false
/-- f hands its continuation one value -/
def Det (f : (SV → Prop) → Prop) : Prop := ∀ K, f K → ∃ v, f (fun v' => v' = v) ∧ K v
def detOp : Op → Bool
  | .move _ | .assign _ | .pick .. | .load .. | .nilCheck _ | .binOp .. | .unOp .. | .convert .. | .slice .. | .fieldAddr .. | .field .. | .indexAddr .. | .index .. | .extract .. | .build .. | .makeFunc .. | .sliceToArrayPointer .. => true
  | .call { callee := .builtin .len, .. } | .call { callee := .builtin .cap, .. } | .call { callee := .builtin .min, .. } | .call { callee := .builtin .max, .. } => true
  | _ => false
section
variable {P : Program} {T : Tab} {M : List Blk}
theorem bvC_det {n : Nat} (op : BinOp) (a b : BitVec n) (mk : BitVec n → SV) : Det (bvC op a b mk) := by
  intro K h
  cases op <;> simp only [bvC] at h ⊢ <;> first | exact ⟨_, rfl, h⟩ | exact ⟨_, ⟨h.1, rfl⟩, h.2⟩
theorem shC_det {n : Nat} (op : BinOp) (a : BitVec n) (c : Nat) (mk : BitVec n → SV) : Det (shC op a c mk) := by
  intro K h
  cases op <;> simp only [shC] at h ⊢ <;> exact ⟨_, rfl, h⟩
theorem intC_det (op : BinOp) (k : IntKind) (a b : Int) : Det (intC op k a b) := by
  intro K h
  cases op <;> simp only [intC] at h ⊢ <;> first | exact ⟨_, rfl, h⟩ | exact ⟨_, ⟨h.1, rfl⟩, h.2⟩
theorem shI_det (op : BinOp) (k : IntKind) (a : Int) (c : Nat) : Det (shI op k a c) := by
  intro K h
  cases op <;> simp only [shI] at h ⊢ <;> exact ⟨_, rfl, h⟩
theorem det_and {A : Prop} {f : (SV → Prop) → Prop} (h : Det f) : Det (fun K => A ∧ f K) := by
  intro K ⟨hA, hf⟩
  obtain ⟨v, h1, h2⟩ := h K hf
  exact ⟨v, ⟨hA, h1⟩, h2⟩
theorem eqC_det (t : TypeId) (x y : SV) (K : Bool → Prop) (h : eqC T M t x y K) : ∃ b, eqC T M t x y (fun r => r = b) ∧ K b := by
  unfold eqC at h ⊢
  split at h <;> (try simp only at h ⊢) <;> first
    | exact ⟨_, ⟨h.1, rfl⟩, h.2⟩
    | exact ⟨_, ⟨h.1, h.2.1, rfl⟩, h.2.2⟩
    | exact h.elim
    | skip
  unfold aggEq at h ⊢
  split at h
  · split at h
    · exact ⟨_, ⟨h.1, h.2.1, h.2.2.1, h.2.2.2.1, h.2.2.2.2.1, h.2.2.2.2.2.1, rfl⟩, h.2.2.2.2.2.2⟩
    · cases h
  · split at h
    · exact ⟨_, ⟨h.1, h.2.1, h.2.2.1, rfl⟩, h.2.2.2⟩
    · cases h
  · cases h
theorem eqC_mono {t : TypeId} {x y : SV} {K K' : Bool → Prop} (hk : ∀ b, K b → K' b) (h : eqC T M t x y K) : eqC T M t x y K' := by
  unfold eqC at h ⊢
  split at h <;> (try simp only at h ⊢) <;> first
    | exact ⟨h.1, hk _ h.2⟩
    | exact ⟨h.1, h.2.1, hk _ h.2.2⟩
    | exact h.elim
    | skip
  unfold aggEq at h ⊢
  split at h
  · split at h
    · exact ⟨h.1, h.2.1, h.2.2.1, h.2.2.2.1, h.2.2.2.2.1, h.2.2.2.2.2.1, hk _ h.2.2.2.2.2.2⟩
    · cases h
  · split at h
    · exact ⟨h.1, h.2.1, h.2.2.1, hk _ h.2.2.2⟩
    · cases h
  · cases h
theorem binC_det (op : BinOp) (t : TypeId) (x y : SV) : Det (binC T M op t x y) := by
  intro K h
  unfold binC at h ⊢
  split at h <;> (try simp only at h ⊢)
  case h_4 =>
    split at h
    · rename_i hk; subst hk; simp only [if_true]; exact intC_det _ _ _ _ K h
    · rename_i hk; simp only [hk, if_false]; exact det_and (shI_det _ _ _ _) K h
  case h_17 =>
    unfold strE at h ⊢
    cases op <;> simp only at h ⊢ <;> first | exact ⟨_, rfl, h⟩ | exact h.elim
  case h_18 =>
    cases op <;> simp only at h ⊢ <;> try (exact h.elim)
    · obtain ⟨b, h1, h2⟩ := eqC_det t _ _ _ h
      exact ⟨.b b, eqC_mono (fun r hr => by rw [hr]) h1, h2⟩
    · obtain ⟨b, h1, h2⟩ := eqC_det t _ _ _ h
      exact ⟨.b (!b), eqC_mono (fun r hr => by rw [hr]) h1, h2⟩
  all_goals first
    | exact bvC_det _ _ _ _ K h
    | exact shC_det _ _ _ _ K h
    | exact det_and (shC_det _ _ _ _) K h
    | exact shI_det _ _ _ _ K h
theorem cellC_det (tk : TK) (cs : List SV) (j : Nat) : Det (cellC tk cs j) := by
  intro K h
  unfold cellC at h ⊢
  split at h <;> (try simp only at h ⊢) <;> first
    | exact ⟨_, ⟨h.1, rfl⟩, h.2⟩
    | exact ⟨_, ⟨h.1, h.2.1, rfl⟩, h.2.2⟩
    | exact h.elim
theorem loadC_det (t : TypeId) (x : SV) : Det (loadC T t x M) := by
  intro K h
  unfold loadC at h ⊢
  split at h
  · exact cellC_det _ _ _ K h
  · cases h
theorem pickC_det (c x y : SV) : Det (pickC c x y) := by
  intro K h
  unfold pickC at h ⊢
  split at h
  · rename_i b
    cases b
    · exact ⟨y, ⟨fun e => (by cases e), fun _ => rfl⟩, h.2 rfl⟩
    · exact ⟨x, ⟨fun _ => rfl, fun e => (by cases e)⟩, h.1 rfl⟩
  · cases h
theorem nilC_det (x : SV) : Det (nilC M x) := by
  intro K h
  unfold nilC at h ⊢
  split at h <;> (try simp only at h ⊢) <;> first | exact ⟨_, ⟨h.1, rfl⟩, h.2⟩ | exact ⟨_, rfl, h⟩ | exact h.elim
theorem unC_det (op : UnOp) (x : SV) : Det (unC op x) := by
  intro K h
  unfold unC at h ⊢
  split at h <;> (try simp only at h ⊢) <;> first | exact ⟨_, rfl, h⟩ | exact h.elim
theorem convC_det (t : TypeId) (x : SV) : Det (convC T t x) := by
  intro K h
  unfold convC at h ⊢
  split at h <;> (try simp only at h ⊢) <;> first | exact ⟨_, rfl, h⟩ | exact h.elim
theorem strC_det (tk : TK) (x : SV) : Det (strC T M tk x) := by
  intro K h
  unfold strC at h ⊢
  split at h
  case h_2 => exact h.elim
  obtain ⟨h1, h2, h⟩ := h
  split at h
  · exact ⟨_, ⟨h1, h2, h.1, h.2.1, rfl⟩, h.2.2⟩
  · exact ⟨_, ⟨h1, h2, rfl⟩, h⟩
  · exact ⟨_, ⟨h1, h2, rfl⟩, h⟩
  · exact h.elim
theorem convG_det (s t : TypeId) (x : SV) : Det (convG T M s t x) := by
  intro K h
  unfold convG at h ⊢
  split at h
  · split at h
    · exact ⟨_, rfl, h⟩
    · exact strC_det _ _ K h
  · exact convC_det _ _ K h
theorem bndC_det {o : Option SV} {d y : Nat} {K : Nat → Prop} (h : bndC o d y K) : ∃ n, K n ∧ ∀ K' : Nat → Prop, K' n → bndC o d y K' := by
  unfold bndC at h ⊢
  split at h
  · exact ⟨d, h, fun _ h => h⟩
  · split at h
    · rename_i j hj
      exact ⟨j.toNat, h.2.2, fun K' hk => ⟨h.1, h.2.1, hk⟩⟩
    · cases h
theorem bnds_det {len cap : Nat} {lo hi mx : Option SV} {K : Nat → Nat → Nat → Prop} (h : bnds len cap lo hi mx K) : ∃ l h m, K l h m ∧ ∀ K' : Nat → Nat → Nat → Prop, K' l h m → bnds len cap lo hi mx K' := by
  unfold bnds at h ⊢
  split at h
  · cases h
  · obtain ⟨m, h1, g1⟩ := bndC_det h
    obtain ⟨hh, h2, g2⟩ := bndC_det h1
    obtain ⟨l, h3, g3⟩ := bndC_det h2
    refine ⟨l, hh, m, h3, fun K' hk => ?_⟩
    exact g1 _ (g2 _ (g3 _ hk))
theorem sliceC_det (t : TypeId) (x : SV) (lo hi mx : Option SV) : Det (sliceC T M t x lo hi mx) := by
  intro K h
  unfold sliceC at h ⊢
  split at h
  · obtain ⟨l, hh, m, h1, g⟩ := bnds_det h.2
    exact ⟨_, ⟨h.1, g (fun l h m => SV.sl _ (if m = l then _ else _ + l * _) (h - l) (m - l) = _) rfl⟩, h1⟩
  · obtain ⟨l, hh, m, h1, g⟩ := bnds_det h
    exact ⟨_, g (fun l h m => SV.sl _ (if m = l then _ else _ + l * _) (h - l) (m - l) = _) rfl, h1⟩
  · obtain ⟨l, hh, m, h1, g⟩ := bnds_det h
    exact ⟨.sn, g _ rfl, h1⟩
  · cases h
theorem faC_det (s : TypeId) (x : SV) (f : Nat) : Det (faC T M s x f) := by
  intro K h
  unfold faC at h ⊢
  split at h
  · split at h
    · exact ⟨_, ⟨h.1, rfl⟩, h.2⟩
    · cases h
  · cases h
theorem fC_det (s : TypeId) (x : SV) (f : Nat) : Det (fC T s x f) := by
  intro K h
  unfold fC at h ⊢
  split at h
  · split at h
    · exact cellC_det _ _ _ K h
    · cases h
  · cases h
theorem ixaC_det (t : TypeId) (x i : SV) : Det (ixaC T M t x i) := by
  intro K h
  unfold ixaC at h ⊢
  split at h
  · split at h
    · exact ⟨_, ⟨h.1, h.2.1, h.2.2.1, h.2.2.2.1, rfl⟩, h.2.2.2.2⟩
    · exact ⟨_, ⟨h.1, h.2.1, h.2.2.1, h.2.2.2.1, rfl⟩, h.2.2.2.2⟩
    · cases h
  · cases h
theorem ixC_det (t : TypeId) (x i : SV) : Det (ixC T t x i) := by
  intro K h
  unfold ixC at h ⊢
  split at h
  · split at h
    · obtain ⟨v, h1, h2⟩ := cellC_det _ _ _ K h.2.2
      exact ⟨v, ⟨h.1, h.2.1, h1⟩, h2⟩
    · exact ⟨_, ⟨h.1, h.2.1, rfl⟩, h.2.2⟩
    · cases h
  · cases h
theorem extC_det (x : SV) (i : Nat) : Det (extC x i) := by
  intro K h
  unfold extC at h ⊢
  split at h
  · split at h
    · rename_i v hv; simp only [hv]; exact ⟨_, rfl, h⟩
    · cases h
  · cases h
theorem buildC_det (t : TypeId) (ps : List (Nat × SV)) : Det (buildC T t ps) := by
  intro K h
  unfold buildC at h ⊢
  split at h
  · cases h
  · split at h
    · split at h
      · rename_i hl; simp only [hl]; exact ⟨_, rfl, h⟩
      · cases h
    · split at h
      · rename_i hl; simp only [hl]; exact ⟨_, rfl, h⟩
      · cases h
    · cases h
theorem apC_det (t : TypeId) (x : SV) : Det (apC T t x) := by
  intro K h
  unfold apC at h ⊢
  split at h
  · exact ⟨_, ⟨h.1, rfl⟩, h.2⟩
  · exact h.elim
theorem lenC_det (t : TypeId) (x : SV) : Det (lenC T M t x) := by
  intro K h
  unfold lenC at h ⊢
  split at h
  · unfold lenO at h ⊢
    split at h <;> first | exact ⟨_, rfl, h⟩ | exact h.elim
  all_goals (try simp only at h ⊢)
  all_goals first | exact ⟨_, rfl, h⟩ | exact h.elim
theorem capC_det (t : TypeId) (x : SV) : Det (capC T t x) := by
  intro K h
  unfold capC at h ⊢
  split at h <;> (try simp only at h ⊢) <;> first | exact ⟨_, rfl, h⟩ | exact h.elim
theorem minC_det (l : List SV) : Det (minC l) := by
  intro K h
  unfold minC at h ⊢
  split at h <;> (try simp only at h ⊢) <;> first | exact ⟨_, rfl, h⟩ | exact h.elim
theorem maxC_det (l : List SV) : Det (maxC l) := by
  intro K h
  unfold maxC at h ⊢
  split at h <;> (try simp only at h ⊢) <;> first | exact ⟨_, rfl, h⟩ | exact h.elim
theorem det_use {f : (SV → Prop) → Prop} (hd : Det f) {K : SV → List Blk → Prop} (h : f (fun v => K v M)) : ∃ v, f (fun v' => v' = v ∧ M = M) ∧ K v M := by
  obtain ⟨v, h1, h2⟩ := hd _ h
  refine ⟨v, ?_, h2⟩
  have : (fun v' => v' = v ∧ M = M) = fun v' => v' = v := by funext v'; simp
  rw [this]; exact h1
theorem opC_det {op : Op} (hd : detOp op = true) {ts : List SV} {K : SV → List Blk → Prop} (h : opC P T op ts M K) : ∃ v, opC P T op ts M (fun v' M' => v' = v ∧ M' = M) ∧ K v M := by
  cases op <;> simp only [detOp] at hd <;> try (cases hd; done)
  case move x | assign x => exact ⟨_, ⟨rfl, rfl⟩, h⟩
  case pick c x y => exact det_use (pickC_det _ _ _) h
  case load t x => exact det_use (loadC_det _ _) h
  case sliceToArrayPointer t x => exact det_use (apC_det _ _) h
  case nilCheck x => exact det_use (nilC_det _) h
  case binOp o t x y u => exact det_use (binC_det _ _ _ _) h
  case unOp o t x => exact det_use (unC_det _ _) h
  case convert s d x => exact det_use (convG_det _ _ _) h
  case slice t x lo hi mx => exact det_use (sliceC_det _ _ _ _ _) h
  case fieldAddr t x f => exact det_use (faC_det _ _ _) h
  case field t x f => exact det_use (fC_det _ _ _) h
  case indexAddr t x i => exact det_use (ixaC_det _ _ _) h
  case index t x i => exact det_use (ixC_det _ _ _) h
  case extract x i => exact det_use (extC_det _ _) h
  case build t ps => exact det_use (buildC_det _ _) h
  case makeFunc f x c => exact ⟨_, ⟨rfl, rfl⟩, h⟩
  case call c =>
    obtain ⟨callee, as, ats⟩ := c
    cases callee <;> try (cases hd; done)
    rename_i b
    cases b <;> try (cases hd; done)
    all_goals
      simp only [opC] at h ⊢
      generalize ats.toList = al at h ⊢
      generalize as.toList.map (evS ts) = l at h ⊢
    · match al, l, h with
      | [t], [x], h => exact det_use (capC_det _ _) h
      | [], _, h | _ :: _ :: _, _, h | [_], [], h | [_], _ :: _ :: _, h => exact h.elim
    · match al, l, h with
      | [t], [x], h => exact det_use (lenC_det _ _) h
      | [], _, h | _ :: _ :: _, _, h | [_], [], h | [_], _ :: _ :: _, h => exact h.elim
    · exact det_use (maxC_det l) h
    · exact det_use (minC_det l) h
end
end Go.Proofs.YtdkdbeamimkljaaGreatDoor.Eng
