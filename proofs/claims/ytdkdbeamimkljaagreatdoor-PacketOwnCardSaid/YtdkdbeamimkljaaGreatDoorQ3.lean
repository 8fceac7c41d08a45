/- A law's row with a condition of its own: what the contract of the law's function gives. -/
import Derived.Test.YtdkdbeamimkljaaGreatDoorEngO
import Derived.Deep.CondSized
namespace Go.Proofs.YtdkdbeamimkljaaGreatDoor.Eng
open Go Go.RowKit Go.ChangeShapes Go.WideShapes
set_option linter.unusedSimpArgs false
set_option linter.unusedVariables false
set_option linter.unusedSimpArgs false
set_option linter.unusedVariables false
section
variable {H : Type} {enc : TypeId × Value → H}
theorem law_contract {C : Checked} {f : FuncId} {fn : Func} {s : ChangeSpec} {apart fresh handsOn : Bool} {tb : TypeId}
    (hl : laidOutB C.prog = true) (hr : (fn.params.toList.all fun t => C.prog.readableRec t && decide (t < C.prog.types.size)) = true)
    (hres : fn.resultTypes = #[tb]) (hb : C.prog.underlying tb = some .bool) (hv : s.vars = [])
    (hs : ∀ ds : List (DataW H), ds.length = fn.params.toList.length → (s.fn H ds).results = [.lit (.bool true)] ∧ (s.fn H ds).args = ds ∧ (s.fn H ds).vars = [])
    (h : ∀ (W : World) (base : Nat) (vs : List Value) (ds : List (DataW H)) (p : List MemPlace), DataW.TrodAll enc C.prog W 0 (fun _ => true) true fn.params.toList vs ds p → (∀ x ∈ p, x.block < W.heap.size) →
      (∀ (j : Nat) t v, fn.params[j]? = some t → vs[j]? = some v → Value.okWide C.prog W .any base t v) →
      (∀ (j : Nat) t d, fn.params[j]? = some t → ds[j]? = some d → ∀ n ∈ d.weights C.prog t, n ≤ reachBytes) →
      ∃ ρ M svs, Given C.prog W vs ρ M svs ∧ callE C.prog f svs M (fun v _ => v = .b true))
    (W : World) (base : Nat) (args : Array Value) (ds gs : List (DataW H)) (before : List MemPlace)
    (hval : ∀ (j : Nat) t v, fn.params[j]? = some t → args[j]? = some v → Value.okWide C.prog W .any base t v)
    (hW : DataW.Whole enc C.prog fn.params.toList s.vars apart W args.toList ds gs before)
    (hsized : (DataW.weightsEach C.prog (fn.params.toList ++ s.plain.varTypes C.prog) (ds ++ gs)).all (· ≤ reachBytes) = true) :
    Calls C.prog f args W fun e W' => ∃ v, e = .returned v ∧ s.post enc C.prog fn apart fresh handsOn false W args v W' := by
  have hW' := hW
  obtain ⟨p, q, hA, hV, rfl, hfz, hnd⟩ := hW
  rw [hv] at hV
  obtain ⟨rfl, rfl⟩ := trodVars_none hV
  have hlt : ∀ x ∈ p, x.block < W.heap.size := fun x hx => hW'.lt x (by simpa using hx)
  have hds : ds.length = fn.params.toList.length := trodAll_len hA
  have hvt : s.plain.varTypes C.prog = [] := by simp [ChangeSpec.plain, DataSpec.varTypes, hv]
  rw [hvt, List.append_nil, List.append_nil] at hsized
  obtain ⟨ρ, M, svs, hG, hc⟩ := h W base args.toList ds p hA hlt (fun j t v h1 h2 => hval j t v h1 (by simpa using h2))
    (fun j t d h1 h2 n hn => by
      have := List.all_eq_true.1 hsized n (DataW.weights_mem_each (by simpa using h1) h2 n hn)
      simpa using this)
  refine (law_calls hG hc).mono fun e W' ⟨he, hbl⟩ => ?_
  subst he
  obtain ⟨r1, r2, r3⟩ := hs ds hds
  have rr : (Value.bool true).resultList fn.resultTypes.size = [.bool true] := by rw [hres]; rfl
  refine ⟨_, rfl, ds, [], p ++ [], [], p, [], hW', ?_, ?_, ?_, World.keptBut_mono (fun x hx => ⟨hx, Or.inr (Or.inl (by simpa using hx))⟩) (hbl.frame _), fun h => by cases h⟩
  · rw [rr, List.append_nil, r1, hres]
    exact trodAll_mk1 (shut_bool hb true)
  · rw [List.append_nil, r2]
    exact trodAll_below hl hbl _ _ _ _ hr hlt hA
  · rw [List.append_nil, r3, hv]
    rfl
end
end Go.Proofs.YtdkdbeamimkljaaGreatDoor.Eng
