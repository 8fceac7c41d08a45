/- The engine, part L: a law's row, closed from a contract of the law's function. -/
import Derived.Test.YtdkdbeamimkljaaGreatDoorEngJ
import Derived.ProofKit
namespace Go.Proofs.YtdkdbeamimkljaaGreatDoor.Eng
open Go Go.RowKit Go.ChangeShapes Go.WideShapes
set_option linter.unusedSimpArgs false
set_option linter.unusedVariables false
section
variable {H : Type} {enc : TypeId × Value → H} {P : Program}
theorem trodAll_below {W W' : World} (hl : laidOutB P = true) (hb : Below W.heap.size W W') : ∀ (ts : List TypeId) (vs : List Value) (ds : List (DataW H)) (p : List MemPlace),
    (ts.all fun t => P.readableRec t && decide (t < P.types.size)) = true → (∀ x ∈ p, x.block < W.heap.size) →
    DataW.TrodAll enc P W 0 (fun _ => true) true ts vs ds p → DataW.TrodAll enc P W' 0 (fun b => decide (b < W.heap.size)) true ts vs ds p
  | [], vs, ds, p, _, _, h => by
    obtain ⟨rfl, rfl, rfl⟩ := trodAll_nil h
    rfl
  | t :: ts, vs, ds, p, hr, hlt, h => by
    obtain ⟨v, vs1, d, ds1, a, b, rfl, rfl, rfl, h1, h2⟩ := trodAll_cons h
    simp only [List.all_cons, Bool.and_eq_true, decide_eq_true_eq] at hr
    exact ⟨a, b, Below.trod hl hr.1.1 hr.1.2 h1 hb fun x hx => hlt x (List.mem_append.2 (.inl hx)), trodAll_below hl hb ts vs1 ds1 b (by simpa using hr.2) (fun x hx => hlt x (List.mem_append.2 (.inr hx))) h2, rfl⟩
theorem trodAll_len {w : World} {base : Nat} {sp : Nat → Bool} {held : Bool} : ∀ {ts : List TypeId} {vs : List Value} {ds : List (DataW H)} {p : List MemPlace}, DataW.TrodAll enc P w base sp held ts vs ds p → ds.length = ts.length
  | [], _, _, _, h => by
    obtain ⟨rfl, rfl, rfl⟩ := trodAll_nil h
    rfl
  | _ :: _, _, _, _, h => by
    obtain ⟨v, vs1, d, ds1, a, b, rfl, rfl, rfl, h1, h2⟩ := trodAll_cons h
    simp [trodAll_len h2]
/-- the names and blocks that a law's arguments come with: all are read alone -/
structure Given (P : Program) (W : World) (args : List Value) (ρ : Ren) (M : List Blk) (svs : List SV) : Prop where
  den : denL ρ svs = args
  lt : ltL M.length svs = true
  ro : ∀ (n : Nat) (B : Blk), M[n]? = some B → B.isRow = false ∧ B.lt M.length = true ∧ BlkOk ⟨(· < W.heap.size), W, ρ, M.length⟩ ρ W n B
theorem Given.sim {W : World} {args : List Value} {ρ : Ren} {M : List Blk} {svs : List SV} (h : Given P W args ρ M svs) : Sim ⟨(· < W.heap.size), W, ρ, M.length⟩ ρ M W :=
  ⟨rfl, rfl, ⟨rfl, Nat.le_refl _⟩, fun _ hk => ⟨hk, rfl⟩, Nat.le_refl _, fun _ _ => rfl, fun n B hB => (h.ro n B hB).2.1, fun n B hB => (h.ro n B hB).2.2,
    fun n m B C hB _ hr => by rw [(h.ro n B hB).1] at hr; cases hr⟩
theorem law_calls {f : FuncId} {W : World} {args : Array Value} {ρ : Ren} {M : List Blk} {svs : List SV} (h : Given P W args.toList ρ M svs) (hc : callE P f svs M (fun v _ => v = .b true)) :
    Calls P f args W fun e W' => e = .returned (.bool true) ∧ Below W.heap.size W W' := by
  have := hc.2 _ ρ W h.sim h.lt
  rw [h.den, Array.toArray_toList] at this
  refine this.mono fun e W' ⟨ρ', v, M', _, _, hs, _, he, hv⟩ => ?_
  subst hv
  refine ⟨he, ⟨hs.os, hs.tape, hs.output.1, ?_, fun k hk => (hs.kept k hk).2⟩⟩
  by_cases h0 : W.heap.size = 0
  · omega
  · have := (hs.kept (W.heap.size - 1) (by show _ < _; omega)).1
    omega
end
end Go.Proofs.YtdkdbeamimkljaaGreatDoor.Eng
