/- The engine, part O: a law's arguments, opened one after the other. -/
import Derived.Test.YtbiolfeincepoaaGreatDoorEngN
import Derived.Test.YtbiolfeincepoaaGreatDoorEngM
import Derived.SizedLaws
namespace Go.Proofs.YtbiolfeincepoaaGreatDoor.Eng
open Go Go.RowKit Go.ChangeShapes Go.WideShapes
set_option linter.unusedSimpArgs false
set_option linter.unusedVariables false

section
variable {H : Type} {enc : TypeId × Value → H} {P : Program} {W : World} {base : Nat}

theorem given_start : Given P W [] (fun _ => none) [] [] := ⟨rfl, rfl, by simp⟩

theorem given_val {vs : List Value} {ρ : Ren} {M : List Blk} {svs : List SV} (h : Given P W vs ρ M svs) {v : Value} {x : SV} (hx : ∀ ρ, den ρ x = v) (hl : x.lt 0 = true) : Given P W (vs ++ [v]) ρ M (svs ++ [x]) :=
  ⟨by rw [denL_append, h.den]; simp [denL, hx], by rw [ltL_append, h.lt]; simp [ltL, lt_mono (Nat.zero_le _) x hl], h.ro⟩

/-- a value whose slices lie in one more block that is read alone -/
theorem given_block {vs : List Value} {ρ : Ren} {M : List Blk} {svs : List SV} (h : Given P W vs ρ M svs) {v : Value} {x : SV} {cs : List SV} (a : Option (Nat × Nat)) (ho : cs.all SV.one = true) (hcl : ltL 0 cs = true)
    (ha : (a = none ∧ cs = []) ∨ ∃ g o, a = some (g, o) ∧ g < W.heap.size ∧ ∀ j v, cs[j]? = some v → W.cell? ⟨g, o + j, none⟩ = some (den ρ v))
    (hx : den (fun k => if k = M.length then a else ρ k) x = v) (hl : x.lt (M.length + 1) = true) : Given P W (vs ++ [v]) (fun k => if k = M.length then a else ρ k) (M ++ [.ro cs]) (svs ++ [x]) := by
  have hext : Ext ρ (fun k => if k = M.length then a else ρ k) M.length := fun k hk => if_neg (by omega)
  refine ⟨by rw [denL_append, denL_congr hext svs h.lt, h.den]; simp [denL, hx], by rw [ltL_append, ltL_mono (by simp) svs h.lt]; simpa [ltL] using hl, ?_⟩
  intro n B hB
  rcases Nat.lt_or_ge n M.length with hn | hn
  · rw [List.getElem?_append_left hn] at hB
    obtain ⟨h1, h2, h3⟩ := h.ro n B hB
    refine ⟨h1, Blk.lt_mono h2 (by simp), ?_⟩
    have h4 := h3.ren hext hn h2
    cases B with
    | row cs ty => cases h1
    | ro cs => exact h4
    | obj o => cases h1
    | here => exact h4
    | dead => trivial
  · rw [List.getElem?_append_right hn] at hB
    by_cases he : n = M.length
    · subst he
      simp at hB
      subst hB
      refine ⟨rfl, ltL_mono (Nat.zero_le _) cs hcl, ho, ?_⟩
      simp only [if_true]
      rcases ha with ha | ⟨g, o, hg, hlt, hc⟩
      · exact .inl ha
      · exact .inr ⟨g, o, hg, hlt, fun j v hv => by rw [den_congr (m := 0) (fun n hn => by omega) v (ltL_get hcl hv)]; rw [← den_congr (ρ := ρ) (m := 0) (fun n hn => by omega) v (ltL_get hcl hv)]; rw [den_congr (ρ := ρ) (ρ' := ρ) (fun _ _ => rfl) v (ltL_get hcl hv)]; exact hc j v hv⟩
    · rw [List.getElem?_eq_none (by simp; omega)] at hB; cases hB

theorem open_i64 {t : TypeId} {v : Value} {d : DataW H} {ps : List MemPlace} (ht : P.underlying t = some (.int .i64)) (hval : Value.okWide P W .any base t v) (hd : DataW.Trod enc P W 0 (fun _ => true) true t v d ps) :
    ∃ x : Int, -9223372036854775808 ≤ x ∧ x ≤ 9223372036854775807 ∧ ∀ ρ, den ρ (.i .i64 x) = v := by
  obtain ⟨n, rfl, _, _, hw⟩ := open_int ht hval hd
  exact ⟨n, (wf_i64 hw).1, (wf_i64 hw).2, fun ρ => by rw [den]⟩
theorem open_w64 {t : TypeId} {v : Value} {d : DataW H} {ps : List MemPlace} (ht : P.underlying t = some (.int .u64)) (hval : Value.okWide P W .any base t v) (hd : DataW.Trod enc P W 0 (fun _ => true) true t v d ps) :
    ∃ x : BitVec 64, ∀ ρ, den ρ (.u64 x) = v := by
  obtain ⟨n, rfl, _, _, hw⟩ := open_int ht hval hd
  obtain ⟨x, rfl⟩ := u64_of hw
  exact ⟨x, fun ρ => by rw [den]⟩
theorem open_w8 {t : TypeId} {v : Value} {d : DataW H} {ps : List MemPlace} (ht : P.underlying t = some (.int .u8)) (hval : Value.okWide P W .any base t v) (hd : DataW.Trod enc P W 0 (fun _ => true) true t v d ps) :
    ∃ x : BitVec 8, ∀ ρ, den ρ (.u8 x) = v := by
  obtain ⟨n, rfl, _, _, hw⟩ := open_int ht hval hd
  obtain ⟨x, rfl⟩ := u8_of hw
  exact ⟨x, fun ρ => by rw [den]⟩

theorem open_struct {t : TypeId} {fs : Array Field} {v : Value} {d : DataW H} {ps : List MemPlace} (ht : P.underlying t = some (.struct fs)) (hval : Value.okWide P W .any base t v) (hd : DataW.Trod enc P W 0 (fun _ => true) true t v d ps) :
    ∃ (cs : List Value) (xs : List (DataW H × List MemPlace)) (n : Nat), v = .agg cs.toArray ∧ cs.length = P.cellsOf t ∧ d = .agg (xs.map (·.1)) ∧ xs.length = fs.size ∧ Row.okWide P W .any base t cs.toArray ∧
      ∀ (i : Nat) (f : Field), fs[i]? = some f → DataW.trod enc P W 0 (fun _ => true) true n f.type ((cs.drop f.offset).take (P.cellsOf f.type)) = xs[i]? := by
  obtain ⟨cs, rfl, hs, hrow⟩ : ∃ cs, v = .agg cs ∧ cs.size = P.cellsOf t ∧ Row.okWide P W .any base t cs := by
    simpa [Value.okWide, ht] using hval
  obtain ⟨fuel, hf⟩ := hd
  obtain ⟨xs, n, _, hx, hl, hxl, hi⟩ := DataW.trod_struct ht hf
  simp only [Prod.mk.injEq] at hx
  exact ⟨cs.toList, xs, n, by simp, by simpa using hs, hx.1, hxl, by simpa using hrow, hi⟩

/-- a field that is a number -/
theorem field_int {fs : Array Field} {cs : List Value} {xs : List (DataW H × List MemPlace)} {n : Nat} (hi : ∀ (i : Nat) (f : Field), fs[i]? = some f → DataW.trod enc P W 0 (fun _ => true) true n f.type ((cs.drop f.offset).take (P.cellsOf f.type)) = xs[i]?)
    (hx : xs.length = fs.size) (i : Nat) {ty off : Nat} {k : IntKind} (hf : fs[i]?.map (fun f => (f.type, f.offset)) = some (ty, off)) (ht : P.underlying ty = some (.int k)) (hc : P.cellsOf ty = 1) :
    ∃ m, (cs.drop off).take 1 = [.int k m] ∧ (Lit.int k m).wf = true := by
  cases hfi : fs[i]? with
  | none => rw [hfi] at hf; cases hf
  | some f =>
    rw [hfi] at hf
    simp only [Option.map_some, Option.some.injEq, Prod.mk.injEq] at hf
    obtain ⟨h1, h2⟩ := hf
    have h := hi i f hfi
    rw [h1, h2, hc] at h
    have hlt : i < xs.length := by rw [hx]; exact (Array.getElem?_eq_some_iff.1 hfi).1
    rw [List.getElem?_eq_getElem hlt] at h
    obtain ⟨m, g1, _, g2⟩ := DataW.trod_int ht h
    exact ⟨m, g1, g2⟩

/-- bytes in a place of the arguments' memory -/
theorem bytes_at {e : TypeId} {n m : Nat} {a : Addr} {xs : List (DataW H × List MemPlace)} (he : P.underlying e = some (.int .u8)) (hc : P.cellsOf e = 1) :
    ∀ (len : Nat), (∀ i, i < len → ((W.cells? 0 (a.add (i * P.cellsOf e)) (P.cellsOf e)).bind (DataW.trod enc P W 0 (fun _ => true) true m e)) = xs[i]?) → xs.length = len →
      ∃ l : List (BitVec 8), l.length = len ∧ ∀ i, i < len → W.cell? (a.add i) = some (.int .u8 (l.getD i 0#8).toNat) := by
  intro len hel hlen
  have each : ∀ i, i < len → ∃ x : BitVec 8, W.cell? (a.add i) = some (.int .u8 x.toNat) := by
    intro i hi
    have h := hel i hi
    rw [hc, Nat.mul_one, List.getElem?_eq_getElem (by omega), Option.bind_eq_some_iff] at h
    obtain ⟨cs', hcs, hy⟩ := h
    obtain ⟨k, rfl, _, hw⟩ := DataW.trod_int he hy
    obtain ⟨x, rfl⟩ := u8_of hw
    exact ⟨x, cell_of_cells?_one hcs⟩
  refine ⟨(List.range len).map fun i => if h : i < len then Classical.choose (each i h) else 0#8, by simp, fun i hi => ?_⟩
  rw [List.getD_eq_getElem?_getD, List.getElem?_map, List.getElem?_range hi]
  simp only [Option.map_some, Option.getD_some, dif_pos hi]
  exact Classical.choose_spec (each i hi)

theorem given_bytes {vs : List Value} {ρ : Ren} {M : List Blk} {svs : List SV} (h : Given P W vs ρ M svs) {t e : TypeId} {v : Value} {d : DataW H} {ps : List MemPlace} (ht : P.underlying t = some (.slice e)) (he : P.underlying e = some (.int .u8)) (hc : P.cellsOf e = 1)
    (hby : P.bytesOf e = 1) (hval : Value.okWide P W .any base t v) (hd : DataW.Trod enc P W 0 (fun _ => true) true t v d ps) (hsz : ∀ n ∈ d.weights P t, n ≤ reachBytes) :
    ∃ (ρ' : Ren) (l : List (BitVec 8)) (cap : Nat), l.length ≤ cap ∧ cap ≤ 140737488351232 ∧ Given P W (vs ++ [v]) ρ' (M ++ [.ro (bS l)]) (svs ++ [.sl M.length 0 l.length cap]) := by
  obtain ⟨a0, len, cap, rfl⟩ := okWide_slice ht hval
  obtain ⟨fuel, hf⟩ := hd
  rcases DataW.trod_slice ht hf with ⟨h0, _⟩ | ⟨a, len', cap', elems, rest, n, _, h1, hx, hb, hl, hm, hlen, hel, hsp, _⟩
  · simp [Value.cells] at h0
    obtain ⟨rfl, rfl, rfl⟩ := h0
    refine ⟨_, [], 0, Nat.le_refl _, by omega, given_block h none rfl rfl (.inl ⟨rfl, rfl⟩) ?_ (by simp [SV.lt])⟩
    simp [den, adr]
  · simp [Value.cells] at h1
    obtain ⟨rfl, rfl, rfl⟩ := h1
    have hcap : cap ≤ 140737488351232 := by
      have hr := (hsp rfl).1
      simp only [Prod.mk.injEq] at hx
      have := hsz ((elems.length + rest.length) * P.bytesOf e) (by rw [hx.1]; simp [DataW.weights, ht])
      rw [hby, hr, hlen] at this
      have hr : reachBytes = 140737488351232 := rfl
      omega
    obtain ⟨l, hll, hcl⟩ := bytes_at (n := 0) he hc len hel hlen
    have hok : Cell.ok P W .any base t (.slice (some a) len cap) := by
      simpa [Value.okWide, ht, Cell.okWide] using hval
    have hhas : W.has P .any base a e cap := by
      have := hok
      simp only [Cell.ok, ht] at this
      exact this.2.2
    obtain ⟨_, hspot, row, cells, hshape, _⟩ := hhas
    obtain ⟨g, o, s⟩ := a
    simp only at hspot
    subst hspot
    have hg : g < W.heap.size := by
      unfold World.shape? at hshape
      cases hh : W.heap[g]? with
      | none => simp [hh] at hshape
      | some ob => exact heap_some_lt hh
    refine ⟨_, l, cap, by omega, hcap, given_block h (some (g, o)) (bS_one l) (bS_lt 0 l) (.inr ⟨g, o, rfl, hg, fun j v hv => ?_⟩) ?_ (by simp [SV.lt])⟩
    · unfold bS at hv
      rw [List.getElem?_map] at hv
      cases hj : l[j]? with
      | none => rw [hj] at hv; cases hv
      | some x =>
        rw [hj] at hv
        simp only [Option.map_some, Option.some.injEq] at hv
        subst hv
        have hjl : j < len := by have := (List.getElem?_eq_some_iff.1 hj).1; omega
        have := hcl j hjl
        rw [add_plain, List.getD_eq_getElem?_getD, hj] at this
        rw [this]
        simp [den]
    · simp [den, adr, hll]

theorem law_lifted_sized {C : Checked} {os : Os} {f : FuncId} {fn : Func} {s : ChangeSpec} {conds : List PathCond} {apart fresh handsOn : Bool} {tb : TypeId}
    (own : ownKnob C.prog.godebug = none) (started : os.Started) (noInit : C.prog.inits.idxOf? f = none) (hfn : C.prog.funcs[f]? = some fn)
    (witness : ∃ (w : World) (tape : Tape) (i : Input), w.os = os ∧ (w.forCall tape i).Shaped C.prog ∧ i.vars = [] ∧ Input.okWide C.prog (w.forCall tape i) .any w.heap.size f i ∧
      s.pre6 enc C.prog fn conds apart (w.forCall tape i).memory i.args ∧ ({} : Assume).holds C.prog (lone (Frame.enter C.prog f i.args .normal) [] (w.forCall tape i)))
    (hl : laidOutB C.prog = true) (hr : (fn.params.toList.all fun t => C.prog.readableRec t && decide (t < C.prog.types.size)) = true)
    (hres : fn.resultTypes = #[tb]) (hb : C.prog.underlying tb = some .bool) (hv : s.vars = [])
    (hs : ∀ ds : List (DataW H), ds.length = fn.params.toList.length → (s.fn H ds).results = [.lit (.bool true)] ∧ (s.fn H ds).args = ds ∧ (s.fn H ds).vars = [])
    (h : ∀ (W : World) (base : Nat) (vs : List Value) (ds : List (DataW H)) (p : List MemPlace), DataW.TrodAll enc C.prog W 0 (fun _ => true) true fn.params.toList vs ds p → (∀ x ∈ p, x.block < W.heap.size) →
      (∀ (j : Nat) t v, fn.params[j]? = some t → vs[j]? = some v → Value.okWide C.prog W .any base t v) →
      (∀ (j : Nat) t d, fn.params[j]? = some t → ds[j]? = some d → ∀ n ∈ d.weights C.prog t, n ≤ reachBytes) →
      ∃ ρ M svs, Given C.prog W vs ρ M svs ∧ callE C.prog f svs M (fun v _ => v = .b true)) :
    ReturnsInHanded {} C os f .any (s.pre6 enc C.prog fn conds apart) (s.post enc C.prog fn apart fresh handsOn false) := by
  refine returnsInHanded_of_change_sized own started noInit hfn witness ?_
  intro W base args ds gs before hval hW hcnd hsized _
  have hW' := hW
  obtain ⟨p, q, hA, hV, rfl, hfz, hnd⟩ := hW
  rw [hv] at hV
  obtain ⟨rfl, rfl⟩ := trodVars_none hV
  have hlt : ∀ x ∈ p, x.block < W.heap.size := fun x hx => hW'.lt x (by simpa using hx)
  have hds : ds.length = fn.params.toList.length := trodAll_len hA
  have hvt : s.plain.varTypes C.prog = [] := by simp [ChangeSpec.plain, DataSpec.varTypes, hv]
  rw [hvt, List.append_nil, List.append_nil] at hsized
  obtain ⟨ρ, M, svs, hG, hc⟩ := h W base args.toList ds p hA hlt (fun j t v h1 h2 => hval j t v h1 (by simpa using h2))
    (fun j t d h1 h2 n hn => by
      have := List.all_eq_true.1 hsized n (DataW.weights_mem_each (by simpa using h1) h2 n hn)
      simpa using this)
  refine (law_calls hG hc).mono fun e W' ⟨he, hbl⟩ => ?_
  subst he
  obtain ⟨r1, r2, r3⟩ := hs ds hds
  have rr : (Value.bool true).resultList fn.resultTypes.size = [.bool true] := by rw [hres]; rfl
  refine ⟨_, rfl, ds, [], p ++ [], [], p, [], hW', ?_, ?_, ?_, World.keptBut_mono (fun x hx => ⟨hx, Or.inr (Or.inl (by simpa using hx))⟩) (hbl.frame _), fun h => by cases h⟩
  · rw [rr, List.append_nil, r1, hres]
    exact trodAll_mk1 (shut_bool hb true)
  · rw [List.append_nil, r2]
    exact trodAll_below hl hbl _ _ _ _ hr hlt hA
  · rw [List.append_nil, r3, hv]
    rfl
end
end Go.Proofs.YtbiolfeincepoaaGreatDoor.Eng
