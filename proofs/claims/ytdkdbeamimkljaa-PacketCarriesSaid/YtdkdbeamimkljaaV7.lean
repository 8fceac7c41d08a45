/- Addresses, payloads and packets among a law's arguments. -/
import Derived.Test.YtdkdbeamimkljaaEngP
import Derived.Test.YtdkdbeamimkljaaU8
import Derived.Test.YtdkdbeamimkljaaV6
namespace Go.Proofs.Ytdkdbeamimkljaa.Eng
open Go Go.RowKit Go.ChangeShapes Go.WideShapes
set_option linter.unusedSimpArgs false
set_option linter.unusedVariables false

theorem cAddr : Try.prog.cellsOf 45 = 3 := by kernel_rfl
theorem cPay : Try.prog.cellsOf 47 = 7 := by kernel_rfl
theorem cPk : Try.prog.cellsOf 57 = 5 := by kernel_rfl
theorem cSl : Try.prog.cellsOf 25 = 1 := by kernel_rfl
theorem tPay : Try.prog.cellTypes Try.prog.depth 47 = some [3, 22, 22, 3, 22, 22, 25] := by kernel_rfl
theorem tPk : Try.prog.cellTypes Try.prog.depth 57 = some [3, 3, 3, 22, 25] := by kernel_rfl
set_option maxRecDepth 100000 in
theorem addr_cells {H : Type} {enc : TypeId × Value → H} {W : World} {cs : List Value} {d : DataW H} {ps : List MemPlace} {n : Nat} (hf : DataW.trod enc Try.prog W 0 (fun _ => true) true n 45 cs = some (d, ps)) :
    ∃ (f : Int) (hi lo : BitVec 64), cs = [.int .i64 f, .int .u64 hi.toNat, .int .u64 lo.toNat] := by
  obtain ⟨xs, n, _, hx, hl, hxl, hi⟩ := DataW.trod_struct Try.underlying45 hf
  rw [cAddr] at hl
  match cs, hl with
  | [a, b, c], _ =>
    obtain ⟨f, g0, w0⟩ := field_int hi hxl 0 (ty := 3) (off := 0) rfl Try.underlying3 cInt
    obtain ⟨l, g1, w1⟩ := field_int hi hxl 1 (ty := 22) (off := 1) rfl Try.underlying22 cU64
    obtain ⟨k, g2, w2⟩ := field_int hi hxl 2 (ty := 22) (off := 2) rfl Try.underlying22 cU64
    obtain ⟨y, rfl⟩ := u64_of w1
    obtain ⟨z, rfl⟩ := u64_of w2
    simp at g0 g1 g2
    subst g0 g1 g2
    exact ⟨f, y, z, rfl⟩
set_option maxRecDepth 100000 in
theorem open_addr {H : Type} {enc : TypeId × Value → H} {W : World} {base : Nat} {v : Value} {d : DataW H} {ps : List MemPlace} (hval : Value.okWide Try.prog W .any base 45 v)
    (hd : DataW.Trod enc Try.prog W 0 (fun _ => true) true 45 v d ps) : ∃ (f : Int) (hi lo : BitVec 64), ∀ ρ, den ρ (adS f hi lo) = v := by
  obtain ⟨cs, xs, n, rfl, hl, _, hxl, _, hi⟩ := open_struct Try.underlying45 hval hd
  obtain ⟨fuel, hf⟩ := hd
  obtain ⟨f, a, b, h⟩ := addr_cells (cs := cs) (by simpa [Value.cells] using hf)
  subst h
  exact ⟨f, a, b, fun ρ => by simp [adS, den, denL]⟩

set_option maxRecDepth 100000 in
theorem given_payload {H : Type} {enc : TypeId × Value → H} {W : World} {base : Nat} {vs : List Value} {ρ : Ren} {M : List Blk} {svs : List SV} (G : Given Try.prog W vs ρ M svs) {v : Value} {d : DataW H} {ps : List MemPlace}
    (hval : Value.okWide Try.prog W .any base 47 v) (hd : DataW.Trod enc Try.prog W 0 (fun _ => true) true 47 v d ps) (hsz : ∀ n ∈ d.weights Try.prog 47, n ≤ reachBytes) :
    ∃ (f : Int) (a b : BitVec 64) (f' : Int) (a' b' : BitVec 64) (ρ' : Ren) (x : List (BitVec 8)) (cap : Nat), x.length ≤ cap ∧ cap ≤ 140737488351232 ∧
      Given Try.prog W (vs ++ [v]) ρ' (M ++ [.ro (bS x)]) (svs ++ [plS f a b f' a' b' (.sl M.length 0 x.length cap)]) := by
  obtain ⟨cs, xs, n, rfl, hl, hdd, hxl, hrow, hi⟩ := open_struct Try.underlying47 hval hd
  rw [cPay] at hl
  obtain ⟨d0, p0, _, h0⟩ := field_cell hi hxl 0 (ty := 45) (off := 0) rfl cAddr
  obtain ⟨d1, p1, _, h1⟩ := field_cell hi hxl 1 (ty := 45) (off := 3) rfl cAddr
  obtain ⟨d2, p2, e2, h2⟩ := field_cell hi hxl 2 (ty := 25) (off := 6) rfl cSl
  obtain ⟨f, a, b, g0⟩ := addr_cells h0
  obtain ⟨f', a', b', g1⟩ := addr_cells h1
  match cs, hl with
  | [c0, c1, c2, c3, c4, c5, c6], _ =>
    simp at g0 g1
    obtain ⟨rfl, rfl, rfl⟩ := g0
    obtain ⟨rfl, rfl, rfl⟩ := g1
    obtain ⟨ts, ht, _, hcell⟩ := hrow
    rw [tPay] at ht
    cases ht
    obtain ⟨u, hu, hok⟩ := hcell 6 c6 rfl
    simp at hu
    subst hu
    have hw : ∀ m ∈ d2.weights Try.prog 25, m ≤ reachBytes := fun m hm => hsz m (by
      rw [hdd]
      match xs, hxl, e2 with
      | [y0, y1, y2], _, e2 =>
        simp at e2
        subst e2
        simp only [DataW.weights, Try.underlying47, List.map_cons, List.map_nil, DataW.weightsEach, List.mem_append]
        exact .inr (.inr (.inl hm)))
    obtain ⟨x, cap, o, l1, l2, ha, hx⟩ := bytes_cell Try.underlying25 Try.underlying5 c8 b8 hok h2 hw
    refine ⟨f, a, b, f', a', b', _, x, cap, l1, l2, given_in G ha (fun ρ hρ => ?_) (by simp [plS, SV.lt, ltL])⟩
    have := hx M.length ρ hρ
    simp only [plS, den, denL] at this ⊢
    rw [this]

set_option maxRecDepth 100000 in
theorem given_packet {H : Type} {enc : TypeId × Value → H} {W : World} {base : Nat} {vs : List Value} {ρ : Ren} {M : List Blk} {svs : List SV} (G : Given Try.prog W vs ρ M svs) {v : Value} {d : DataW H} {ps : List MemPlace}
    (hval : Value.okWide Try.prog W .any base 57 v) (hd : DataW.Trod enc Try.prog W 0 (fun _ => true) true 57 v d ps) (hsz : ∀ n ∈ d.weights Try.prog 57, n ≤ reachBytes) :
    ∃ (t l g : Int) (c : BitVec 64) (ρ' : Ren) (x : List (BitVec 8)) (cap : Nat), x.length ≤ cap ∧ cap ≤ 140737488351232 ∧
      Given Try.prog W (vs ++ [v]) ρ' (M ++ [.ro (bS x)]) (svs ++ [.agg [.i .i64 t, .i .i64 l, .i .i64 g, .u64 c, .sl M.length 0 x.length cap]]) := by
  obtain ⟨cs, xs, n, rfl, hl, hdd, hxl, hrow, hi⟩ := open_struct Try.underlying57 hval hd
  rw [cPk] at hl
  obtain ⟨d0, p0, _, h0⟩ := field_cell hi hxl 0 (ty := 24) (off := 0) rfl cHead
  obtain ⟨d2, p2, e2, h2⟩ := field_cell hi hxl 1 (ty := 25) (off := 4) rfl cSl
  obtain ⟨ys, m, _, hy, hyl, hyx, hyi⟩ := DataW.trod_struct Try.underlying24 h0
  match cs, hl with
  | [c0, c1, c2, c3, c4], _ =>
    obtain ⟨t, g0, w0⟩ := field_int hyi hyx 0 (ty := 3) (off := 0) rfl Try.underlying3 cInt
    obtain ⟨l, g1, w1⟩ := field_int hyi hyx 1 (ty := 3) (off := 1) rfl Try.underlying3 cInt
    obtain ⟨g, g2, w2⟩ := field_int hyi hyx 2 (ty := 3) (off := 2) rfl Try.underlying3 cInt
    obtain ⟨k, g3, w3⟩ := field_int hyi hyx 3 (ty := 22) (off := 3) rfl Try.underlying22 cU64
    obtain ⟨y, rfl⟩ := u64_of w3
    simp at g0 g1 g2 g3
    subst g0 g1 g2 g3
    obtain ⟨ts, ht, _, hcell⟩ := hrow
    rw [tPk] at ht
    cases ht
    obtain ⟨u, hu, hok⟩ := hcell 4 c4 rfl
    simp at hu
    subst hu
    have hw : ∀ m ∈ d2.weights Try.prog 25, m ≤ reachBytes := fun m hm => hsz m (by
      rw [hdd]
      match xs, hxl, e2 with
      | [y0, y1], _, e2 =>
        simp at e2
        subst e2
        simp only [DataW.weights, Try.underlying57, List.map_cons, List.map_nil, DataW.weightsEach, List.mem_append]
        exact .inr (.inl hm))
    obtain ⟨x, cap, o, l1, l2, ha, hx⟩ := bytes_cell Try.underlying25 Try.underlying5 c8 b8 hok h2 hw
    refine ⟨t, l, g, y, _, x, cap, l1, l2, given_in G ha (fun ρ hρ => ?_) (by simp [SV.lt, ltL])⟩
    have := hx M.length ρ hρ
    simp only [den, denL] at this ⊢
    rw [this]
end Go.Proofs.Ytdkdbeamimkljaa.Eng
