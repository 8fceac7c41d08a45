/- The engine, part L: a law's row, closed from a contract of the law's function. -/
import Derived.Test.YtbiolfeincepoaaGreatDoorEngJ
import Derived.ProofKit
namespace Go.Proofs.YtbiolfeincepoaaGreatDoor.Eng
open Go Go.RowKit Go.ChangeShapes Go.WideShapes
set_option linter.unusedSimpArgs false
set_option linter.unusedVariables false

section
variable {H : Type} {enc : TypeId × Value → H} {P : Program}

theorem trodAll_below {W W' : World} (hl : laidOutB P = true) (hb : Below W.heap.size W W') : ∀ (ts : List TypeId) (vs : List Value) (ds : List (DataW H)) (p : List MemPlace),
    (ts.all fun t => P.readableRec t && decide (t < P.types.size)) = true → (∀ x ∈ p, x.block < W.heap.size) →
    DataW.TrodAll enc P W 0 (fun _ => true) true ts vs ds p → DataW.TrodAll enc P W' 0 (fun b => decide (b < W.heap.size)) true ts vs ds p
  | [], vs, ds, p, _, _, h => by
    obtain ⟨rfl, rfl, rfl⟩ := trodAll_nil h
    rfl
  | t :: ts, vs, ds, p, hr, hlt, h => by
    obtain ⟨v, vs1, d, ds1, a, b, rfl, rfl, rfl, h1, h2⟩ := trodAll_cons h
    simp only [List.all_cons, Bool.and_eq_true, decide_eq_true_eq] at hr
    exact ⟨a, b, Below.trod hl hr.1.1 hr.1.2 h1 hb fun x hx => hlt x (List.mem_append.2 (.inl hx)), trodAll_below hl hb ts vs1 ds1 b (by simpa using hr.2) (fun x hx => hlt x (List.mem_append.2 (.inr hx))) h2, rfl⟩

theorem trodAll_len {w : World} {base : Nat} {sp : Nat → Bool} {held : Bool} : ∀ {ts : List TypeId} {vs : List Value} {ds : List (DataW H)} {p : List MemPlace}, DataW.TrodAll enc P w base sp held ts vs ds p → ds.length = ts.length
  | [], _, _, _, h => by
    obtain ⟨rfl, rfl, rfl⟩ := trodAll_nil h
    rfl
  | _ :: _, _, _, _, h => by
    obtain ⟨v, vs1, d, ds1, a, b, rfl, rfl, rfl, h1, h2⟩ := trodAll_cons h
    simp [trodAll_len h2]

/-- the names and blocks that a law's arguments come with: all are read alone -/
structure Given (P : Program) (W : World) (args : List Value) (ρ : Ren) (M : List Blk) (svs : List SV) : Prop where
  den : denL ρ svs = args
  lt : ltL M.length svs = true
  ro : ∀ (n : Nat) (B : Blk), M[n]? = some B → B.isRow = false ∧ B.lt M.length = true ∧ BlkOk ⟨(· < W.heap.size), W, ρ, M.length⟩ ρ W n B

theorem Given.sim {W : World} {args : List Value} {ρ : Ren} {M : List Blk} {svs : List SV} (h : Given P W args ρ M svs) : Sim ⟨(· < W.heap.size), W, ρ, M.length⟩ ρ M W :=
  ⟨rfl, rfl, ⟨rfl, Nat.le_refl _⟩, fun _ hk => ⟨hk, rfl⟩, Nat.le_refl _, fun _ _ => rfl, fun n B hB => (h.ro n B hB).2.1, fun n B hB => (h.ro n B hB).2.2,
    fun n m B C hB _ hr => by rw [(h.ro n B hB).1] at hr; cases hr⟩

theorem law_calls {f : FuncId} {W : World} {args : Array Value} {ρ : Ren} {M : List Blk} {svs : List SV} (h : Given P W args.toList ρ M svs) (hc : callE P f svs M (fun v _ => v = .b true)) :
    Calls P f args W fun e W' => e = .returned (.bool true) ∧ Below W.heap.size W W' := by
  have := hc.2 _ ρ W h.sim h.lt
  rw [h.den, Array.toArray_toList] at this
  refine this.mono fun e W' ⟨ρ', v, M', _, _, hs, _, he, hv⟩ => ?_
  subst hv
  refine ⟨he, ⟨hs.os, hs.tape, hs.output.1, ?_, fun k hk => (hs.kept k hk).2⟩⟩
  by_cases h0 : W.heap.size = 0
  · omega
  · have := (hs.kept (W.heap.size - 1) (by show _ < _; omega)).1
    omega

theorem law_lifted {C : Checked} {os : Os} {f : FuncId} {fn : Func} {s : ChangeSpec} {conds : List PathCond} {apart fresh handsOn : Bool} {tb : TypeId}
    (own : ownKnob C.prog.godebug = none) (started : os.Started) (noInit : C.prog.inits.idxOf? f = none) (hfn : C.prog.funcs[f]? = some fn)
    (witness : ∃ (w : World) (tape : Tape) (i : Input), w.os = os ∧ (w.forCall tape i).Shaped C.prog ∧ i.vars = [] ∧ Input.okWide C.prog (w.forCall tape i) .any w.heap.size f i ∧
      s.pre6 enc C.prog fn conds apart (w.forCall tape i).memory i.args ∧ ({} : Assume).holds C.prog (lone (Frame.enter C.prog f i.args .normal) [] (w.forCall tape i)))
    (hl : laidOutB C.prog = true) (hr : (fn.params.toList.all fun t => C.prog.readableRec t && decide (t < C.prog.types.size)) = true)
    (hres : fn.resultTypes = #[tb]) (hb : C.prog.underlying tb = some .bool) (hv : s.vars = [])
    (hs : ∀ ds : List (DataW H), ds.length = fn.params.toList.length → (s.fn H ds).results = [.lit (.bool true)] ∧ (s.fn H ds).args = ds ∧ (s.fn H ds).vars = [])
    (h : ∀ (W : World) (base : Nat) (vs : List Value) (ds : List (DataW H)) (p : List MemPlace), DataW.TrodAll enc C.prog W 0 (fun _ => true) true fn.params.toList vs ds p → (∀ x ∈ p, x.block < W.heap.size) →
      (∀ (j : Nat) t v, fn.params[j]? = some t → vs[j]? = some v → Value.okWide C.prog W .any base t v) →
      conds.all (PathCond.test C.prog ⟨fn.params.toList, ds, s.plain.varTypes C.prog, []⟩) = true →
      ∃ ρ M svs, Given C.prog W vs ρ M svs ∧ callE C.prog f svs M (fun v _ => v = .b true)) :
    ReturnsInHanded {} C os f .any (s.pre6 enc C.prog fn conds apart) (s.post enc C.prog fn apart fresh handsOn false) := by
  refine returnsInHanded_of_change own started noInit hfn witness ?_
  intro W base args ds gs before hval hW hcnd _
  have hW' := hW
  obtain ⟨p, q, hA, hV, rfl, hfz, hnd⟩ := hW
  rw [hv] at hV
  obtain ⟨rfl, rfl⟩ := trodVars_none hV
  have hlt : ∀ x ∈ p, x.block < W.heap.size := fun x hx => hW'.lt x (by simpa using hx)
  obtain ⟨ρ, M, svs, hG, hc⟩ := h W base args.toList ds p hA hlt (fun j t v h1 h2 => hval j t v h1 (by simpa using h2)) hcnd
  refine (law_calls hG hc).mono fun e W' ⟨he, hbl⟩ => ?_
  subst he
  have hds : ds.length = fn.params.toList.length := trodAll_len hA
  obtain ⟨r1, r2, r3⟩ := hs ds hds
  have rr : (Value.bool true).resultList fn.resultTypes.size = [.bool true] := by rw [hres]; rfl
  refine ⟨_, rfl, ds, [], p ++ [], [], p, [], hW', ?_, ?_, ?_, World.keptBut_mono (fun x hx => ⟨hx, Or.inr (Or.inl (by simpa using hx))⟩) (hbl.frame _), fun h => by cases h⟩
  · rw [rr, List.append_nil, r1, hres]
    exact trodAll_mk1 (shut_bool hb true)
  · rw [List.append_nil, r2]
    exact trodAll_below hl hbl _ _ _ _ hr hlt hA
  · rw [List.append_nil, r3, hv]
    rfl
end
end Go.Proofs.YtbiolfeincepoaaGreatDoor.Eng
