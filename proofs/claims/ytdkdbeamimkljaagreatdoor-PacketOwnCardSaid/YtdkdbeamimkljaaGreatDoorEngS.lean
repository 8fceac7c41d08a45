/- The engine, part S: how a state is run by simp: equations, and what simp leaves alone. -/
import Derived.Test.YtdkdbeamimkljaaGreatDoorEngR
namespace Go.Proofs.YtdkdbeamimkljaaGreatDoor.Eng
open Go Go.RowKit
set_option linter.unusedSimpArgs false
set_option linter.unusedVariables false
section
variable {P : Program} {T : Tab}
/-! what simp looks into -/
theorem codeC_congr {bs : Nat} {c : Code} {ts ts' : List SV} {M M' : List Blk} {Q : Exit → List SV → List Blk → Prop} (h : ts = ts') (h' : M = M') : codeC P T bs c ts M Q = codeC P T bs c ts' M' Q := by rw [h, h']
theorem regC_congr {ops os : List Oper} {ts ts' : List SV} {M M' : List Blk} {K : List SV → List Blk → Prop} (h : ts = ts') (h' : M = M') : regC P T ops os ts M K = regC P T ops os ts' M' K := by rw [h, h']
theorem opC_congr {op : Op} {ts : List SV} {M : List Blk} {K : SV → List Blk → Prop} : opC P T op ts M K = opC P T op ts M K := rfl
theorem binC_congr {M : List Blk} {op : BinOp} {t : TypeId} {x x' y y' : SV} {K : SV → Prop} (h : x = x') (h' : y = y') : binC T M op t x y K = binC T M op t x' y' K := by rw [h, h']
theorem bvC_congr {n : Nat} {op : BinOp} {a b : BitVec n} {mk : BitVec n → SV} {K : SV → Prop} : bvC op a b mk K = bvC op a b mk K := rfl
theorem shC_congr {n : Nat} {op : BinOp} {a : BitVec n} {c : Nat} {mk : BitVec n → SV} {K : SV → Prop} : shC op a c mk K = shC op a c mk K := rfl
theorem intC_congr {op : BinOp} {k : IntKind} {a b : Int} {K : SV → Prop} : intC op k a b K = intC op k a b K := rfl
theorem shI_congr {op : BinOp} {k : IntKind} {a : Int} {c : Nat} {K : SV → Prop} : shI op k a c K = shI op k a c K := rfl
theorem eqC_congr {M : List Blk} {t : TypeId} {x y : SV} {K : Bool → Prop} : eqC T M t x y K = eqC T M t x y K := rfl
theorem aggEq_congr {t : TypeId} {x x' y y' : List SV} {K : Bool → Prop} (h : x = x') (h' : y = y') : aggEq T t x y K = aggEq T t x' y' K := by rw [h, h']
theorem unC_congr {op : UnOp} {x x' : SV} {K : SV → Prop} (h : x = x') : unC op x K = unC op x' K := by rw [h]
theorem convG_congr {M : List Blk} {s t : TypeId} {x x' : SV} {K : SV → Prop} (h : x = x') : convG T M s t x K = convG T M s t x' K := by rw [h]
theorem strE_congr {op : BinOp} {a b : ByteArray} {K : SV → Prop} : strE op a b K = strE op a b K := rfl
theorem strC_congr {M : List Blk} {tk tk' : TK} {x : SV} {K : SV → Prop} (h : tk = tk') : strC T M tk x K = strC T M tk' x K := by rw [h]
theorem convC_congr {t : TypeId} {x x' : SV} {K : SV → Prop} (h : x = x') : convC T t x K = convC T t x' K := by rw [h]
theorem pickC_congr {c c' x x' y y' : SV} {K : SV → Prop} (h : c = c') (h1 : x = x') (h2 : y = y') : pickC c x y K = pickC c' x' y' K := by rw [h, h1, h2]
theorem loadC_congr {t : TypeId} {x x' : SV} {M : List Blk} {K : SV → Prop} (h : x = x') : loadC T t x M K = loadC T t x' M K := by rw [h]
theorem cellC_congr {tk tk' : TK} {cs cs' : List SV} {j j' : Nat} {K : SV → Prop} (h : tk = tk') (h1 : cs = cs') (h2 : j = j') : cellC tk cs j K = cellC tk' cs' j' K := by rw [h, h1, h2]
theorem storeC_congr {t : TypeId} {x x' y y' : SV} {M : List Blk} {K : List Blk → Prop} (h : x = x') (h1 : y = y') : storeC T t x y M K = storeC T t x' y' M K := by rw [h, h1]
theorem storeB_congr {tk tk' : TK} {n off off' : Nat} {v v' : SV} {M : List Blk} {B B' : Option Blk} {K : List Blk → Prop} (h : tk = tk') (h1 : B = B') (h2 : v = v') (h3 : off = off') : storeB tk n off v M B K = storeB tk' n off' v' M B' K := by rw [h, h1, h2, h3]
theorem allocC_congr {t : TypeId} {M : List Blk} {K : SV → List Blk → Prop} : allocC T t M K = allocC T t M K := rfl
theorem boxC_congr {t : TypeId} {x x' : SV} {M : List Blk} {K : SV → List Blk → Prop} (h : x = x') : boxC t x M K = boxC t x' M K := by rw [h]
theorem ixaC_congr {M : List Blk} {t : TypeId} {x x' i i' : SV} {K : SV → Prop} (h : x = x') (h1 : i = i') : ixaC T M t x i K = ixaC T M t x' i' K := by rw [h, h1]
theorem ixC_congr {t : TypeId} {x x' i i' : SV} {K : SV → Prop} (h : x = x') (h1 : i = i') : ixC T t x i K = ixC T t x' i' K := by rw [h, h1]
theorem faC_congr {M : List Blk} {t : TypeId} {x x' : SV} {f : Nat} {K : SV → Prop} (h : x = x') : faC T M t x f K = faC T M t x' f K := by rw [h]
theorem fC_congr {t : TypeId} {x x' : SV} {f : Nat} {K : SV → Prop} (h : x = x') : fC T t x f K = fC T t x' f K := by rw [h]
theorem nilC_congr {M : List Blk} {x x' : SV} {K : SV → Prop} (h : x = x') : nilC M x K = nilC M x' K := by rw [h]
theorem extC_congr {x x' : SV} {i : Nat} {K : SV → Prop} (h : x = x') : extC x i K = extC x' i K := by rw [h]
theorem buildC_congr {t : TypeId} {ps ps' : List (Nat × SV)} {K : SV → Prop} (h : ps = ps') : buildC T t ps K = buildC T t ps' K := by rw [h]
theorem sliceC_congr {M : List Blk} {t : TypeId} {x x' : SV} {lo lo' hi hi' mx mx' : Option SV} {K : SV → Prop} (h : x = x') (h1 : lo = lo') (h2 : hi = hi') (h3 : mx = mx') : sliceC T M t x lo hi mx K = sliceC T M t x' lo' hi' mx' K := by rw [h, h1, h2, h3]
theorem makeC_congr {t : TypeId} {l l' c c' : SV} {M : List Blk} {K : SV → List Blk → Prop} (h : l = l') (h1 : c = c') : makeC T t l c M K = makeC T t l' c' M K := by rw [h, h1]
theorem bltC_congr {b : Builtin} {ats : List TypeId} {as as' : List SV} {M : List Blk} {K : SV → List Blk → Prop} (h : as = as') : bltC T b ats as M K = bltC T b ats as' M K := by rw [h]
theorem fnC_congr {x x' : SV} {as as' : List SV} {M : List Blk} {K : SV → List Blk → Prop} (h : x = x') (h1 : as = as') : fnC P x as M K = fnC P x' as' M K := by rw [h, h1]
theorem callVC_congr {f : FuncId} {as as' : List SV} {M : List Blk} {K : SV → List Blk → Prop} (h : as = as') : callVC P f as M K = callVC P f as' M K := by rw [h]
theorem thenC_congr {n : List SV → List Blk → Prop} {Q : Exit → List SV → List Blk → Prop} {e : Exit} {ts ts' : List SV} {M M' : List Blk} (h : ts = ts') (h' : M = M') : thenC n Q e ts M = thenC n Q e ts' M' := by rw [h, h']
theorem blockC_congr {id : Nat} {Q : Exit → List SV → List Blk → Prop} {e : Exit} {ts ts' : List SV} {M M' : List Blk} (h : ts = ts') (h' : M = M') : blockC id Q e ts M = blockC id Q e ts' M' := by rw [h, h']
theorem condC_congr {c c' : SV} {A B : Prop} (h : c = c') : condC c A B = condC c' A B := by rw [h]
theorem gdC_congr {y y' : SV} {w : Bool} {A B : Prop} (h : y = y') : gdC y w A B = gdC y' w A B := by rw [h]
theorem LoopVC_congr {bs : Nat} {c : Code} {ts ts' : List SV} {M M' : List Blk} {Q : Exit → List SV → List Blk → Prop} (h : ts = ts') (h' : M = M') : LoopVC P bs c ts M Q = LoopVC P bs c ts' M' Q := by rw [h, h']
theorem DrawVC_congr {bs : Nat} {id : Nat} {ops : Array Oper} {ts ts' : List SV} {M M' : List Blk} {Q : Exit → List SV → List Blk → Prop} (h : ts = ts') (h' : M = M') : DrawVC P bs id ops ts M Q = DrawVC P bs id ops ts' M' Q := by rw [h, h']
theorem resL_congr {ts : List SV} {M : List Blk} {rs : List ResultVar} {K : List SV → Prop} : resL T ts M rs K = resL T ts M rs K := rfl
theorem endC_congr {m0 m0' : Nat} {rs : List ResultVar} {K : SV → List Blk → Prop} {e : Exit} {ts ts' : List SV} {M M' : List Blk} (h : ts = ts') (h' : M = M') (h0 : m0 = m0') : endC T m0 rs K e ts M = endC T m0' rs K e ts' M' := by rw [h, h', h0]
/-! equations -/
end
/-! bytes -/
def bS (l : List (BitVec 8)) : List SV := l.map .u8
theorem bS_one (l : List (BitVec 8)) : (bS l).all SV.one = true := by
  simp [bS, SV.one]
theorem bS_lt (m : Nat) (l : List (BitVec 8)) : ltL m (bS l) = true := by
  rw [ltL_eq, List.all_eq_true]
  intro x hx
  obtain ⟨b, _, rfl⟩ := List.mem_map.1 hx
  rfl
theorem bS_length (l : List (BitVec 8)) : (bS l).length = l.length := by simp [bS]
theorem bS_is8 (l : List (BitVec 8)) (j : Nat) : is8 (bS l) j = decide (j < l.length) := by
  unfold is8 bS
  rw [List.getElem?_map]
  by_cases h : j < l.length
  · simp [List.getElem?_eq_getElem h, h]
  · simp [List.getElem?_eq_none (Nat.le_of_not_lt h), h]
theorem bS_cell8 (l : List (BitVec 8)) (j : Nat) : cell8 (bS l) j = l.getD j 0#8 := by
  unfold cell8 bS
  rw [List.getElem?_map, List.getD_eq_getElem?_getD]
  cases l[j]? <;> simp
theorem bS_set (l : List (BitVec 8)) (j : Nat) (x : BitVec 8) : (bS l).set j (.u8 x) = bS (l.set j x) := by
  unfold bS
  rw [List.map_set]
theorem bS_take (l : List (BitVec 8)) (n : Nat) : (bS l).take n = bS (l.take n) := by simp [bS, List.map_take]
theorem bS_drop (l : List (BitVec 8)) (n : Nat) : (bS l).drop n = bS (l.drop n) := by simp [bS, List.map_drop]
theorem bS_append (l r : List (BitVec 8)) : bS l ++ bS r = bS (l ++ r) := by simp [bS]
theorem bS_zeros' (n : Nat) : zerosS [SV.u8 0#8] n = bS (List.replicate n 0#8) := by
  unfold zerosS bS
  induction n with
  | zero => rfl
  | succ n ih => simp [List.replicate_succ, ih]
theorem bS_ofK (l : List (BitVec 8)) : (bS l).all (ofK .u8) = true := by simp [bS, ofK]
theorem bS_eqL : ∀ (l r : List (BitVec 8)), eqL (bS l) (bS r) = (l == r)
  | [], [] => rfl
  | [], _ :: _ => rfl
  | _ :: _, [] => rfl
  | a :: l, b :: r => by
    have := bS_eqL l r
    show (eqS (.u8 a) (.u8 b) && eqL (bS l) (bS r)) = _
    rw [this]
    rfl
theorem splice_all {cs vs : List SV} (h : vs.length = cs.length) : splice cs 0 vs = vs := by
  unfold splice
  simp [h]
theorem splice_z {c v : SV} {cs vs : List SV} : splice (c :: cs) 0 (v :: vs) = v :: splice cs 0 vs := by simp [splice]
theorem splice_s {c : SV} {cs vs : List SV} {n : Nat} : splice (c :: cs) (n + 1) vs = c :: splice cs n vs := by
  simp only [splice, List.take_succ_cons, List.cons_append, show n + 1 + vs.length = (n + vs.length) + 1 by omega, List.drop_succ_cons]
theorem splice_n {cs : List SV} : splice cs 0 [] = cs := by simp [splice]
theorem take_all {α : Type} {l : List α} {n : Nat} (h : l.length ≤ n) : l.take n = l := List.take_of_length_le h
theorem cast_lit (n : Nat) : ((no_index (OfNat.ofNat n) : Nat) : Int) = OfNat.ofNat n := rfl
/-! names past a memory's end -/
theorem repU (n : Nat) : List.replicate (n + 1) uS = uS :: List.replicate n uS := rfl
theorem repU0 : List.replicate 0 uS = [] := rfl
theorem get_app (M L : List Blk) (k : Nat) : (M ++ L)[M.length + k]? = L[k]? := by
  rw [List.getElem?_append_right (by omega)]; congr 1; omega
theorem get_app0 (M L : List Blk) : (M ++ L)[M.length]? = L[0]? := by
  rw [List.getElem?_append_right (by omega)]; congr 1; omega
theorem set_app (M L : List Blk) (k : Nat) (b : Blk) : (M ++ L).set (M.length + k) b = M ++ L.set k b := by
  induction M with
  | nil => simp
  | cons a M ih =>
    simp only [List.length_cons, List.cons_append]
    rw [show M.length + 1 + k = (M.length + k) + 1 by omega, List.set_cons_succ, ih]
theorem set_app0 (M L : List Blk) (b : Blk) : (M ++ L).set M.length b = M ++ L.set 0 b := set_app M L 0 b
/-! frames -/
def fillF : List (Option SV) → (Nat → SV) → Nat → List SV
  | [], _, _ => []
  | some x :: r, f, i => x :: fillF r f (i + 1)
  | none :: r, f, i => f i :: fillF r f (i + 1)
theorem frC_nn : frC [] [] = True := rfl
theorem frC_ss {x y : SV} {r : List (Option SV)} {l : List SV} : frC (some x :: r) (y :: l) = (y = x ∧ frC r l) := rfl
theorem frC_ns {y : SV} {r : List (Option SV)} {l : List SV} : frC (none :: r) (y :: l) = frC r l := rfl
theorem fillF_n {f : Nat → SV} {i : Nat} : fillF [] f i = [] := rfl
theorem fillF_s {x : SV} {r : List (Option SV)} {f : Nat → SV} {i : Nat} : fillF (some x :: r) f i = x :: fillF r f (i + 1) := rfl
theorem fillF_u {r : List (Option SV)} {f : Nat → SV} {i : Nat} : fillF (none :: r) f i = f i :: fillF r f (i + 1) := rfl
theorem frC_open : ∀ (sp : List (Option SV)) (ts : List SV) (i : Nat), frC sp ts → ∃ f : Nat → SV, ts = fillF sp f i
  | [], [], i, _ => ⟨fun _ => uS, rfl⟩
  | [], _ :: _, _, h => h.elim
  | some x :: r, [], i, h => h.elim
  | none :: r, [], i, h => h.elim
  | some x :: r, y :: l, i, h => by
    obtain ⟨f, hf⟩ := frC_open r l (i + 1) h.2
    exact ⟨f, by rw [h.1, hf]; rfl⟩
  | none :: r, y :: l, i, h => by
    obtain ⟨f, hf⟩ := frC_open r l (i + 1) h
    have key : ∀ (sp : List (Option SV)) (j : Nat), i < j → fillF sp f j = fillF sp (fun k => if k = i then y else f k) j := by
      intro sp
      induction sp with
      | nil => intro j _; rfl
      | cons o sp ih =>
        intro j hj
        cases o with
        | some x => simp only [fillF]; rw [ih (j + 1) (by omega)]
        | none => simp only [fillF]; rw [ih (j + 1) (by omega), if_neg (by omega)]
    refine ⟨fun k => if k = i then y else f k, ?_⟩
    rw [hf, key r (i + 1) (by omega)]
    simp [fillF]
theorem CodeOK.mono {P : Program} {bs : Nat} {c : Code} {ts : List SV} {M : List Blk} {Q Q' : Exit → List SV → List Blk → Prop} (h : CodeOK P bs c ts M Q) (hq : ∀ e ts M, Q e ts M → Q' e ts M) : CodeOK P bs c ts M Q' :=
  fun G ρ w a hG hs ht hd R hR => h G ρ w a hG hs ht hd R (fun e ρ' ts' M' w' a' h1 h2 h3 h4 => hR e ρ' ts' M' w' a' h1 h2 h3 (hq _ _ _ h4))
theorem loop_code {P : Program} {T : Tab} (hT : TabOK P T) {bs : Nat} {c : Code} (hside : sideC P c = true) {ts : List SV} {M : List Blk} {Q : Exit → List SV → List Blk → Prop} (I : Nat → List SV → List Blk → Prop) (n : Nat) (h0 : I n ts M)
    (hround : ∀ n ts M, I n ts M → codeC P T bs c ts M (thenC (fun ts' M' => ∃ n', n' < n ∧ I n' ts' M') Q)) : LoopVC P bs c ts M Q :=
  loop_rule I n (covF_self h0) fun n ts M h => CodeOK.mono (codeC_ok hT c ts M _ hside (hround n ts M h)) (fun e ts M h => by cases e <;> first | exact covF_self h | exact h)
/-- the same, where a round's end, and the loop's beginning, may be seen under other names -/
theorem loop_gc {P : Program} {T : Tab} (hT : TabOK P T) {bs : Nat} {c : Code} (hside : sideC P c = true) {ts : List SV} {M : List Blk} {Q : Exit → List SV → List Blk → Prop} (I : Nat → List SV → List Blk → Prop) (n : Nat) (h0 : CovF bs ts M (I n))
    (hround : ∀ n ts M, I n ts M → codeC P T bs c ts M (thenC (fun ts' M' => CovF bs ts' M' (fun ts'' M'' => ∃ n', n' < n ∧ I n' ts'' M'')) Q)) : LoopVC P bs c ts M Q :=
  loop_rule I n h0 fun n ts M h => codeC_ok hT c ts M _ hside (hround n ts M h)
theorem dropC_append {M N : List Blk} {v : SV} {K : SV → List Blk → Prop} (hM : ∀ (n : Nat) (B : Blk), M[n]? = some B → B.lt M.length = true) (hv : v.lt M.length = true) (hK : K v M) : dropC M.length v (M ++ N) K := by
  have h0 : ∀ (x : SV), x.lt M.length = true → ∀ ρ, den ρ (x.rn (tau M.length [])) = den ρ x := fun x hx ρ => by
    rw [← den_rn]; exact den_congr (fun n hn => by simp [reOf, tau_lt hn]) x hx
  refine dropC_gc hM [] v [] rfl trivial rfl hv (h0 v hv) ?_
  rw [List.append_nil]; exact hK
theorem dropC_self {M : List Blk} {v : SV} {K : SV → List Blk → Prop} (hM : ∀ (n : Nat) (B : Blk), M[n]? = some B → B.lt M.length = true) (hv : v.lt M.length = true) (hK : K v M) : dropC M.length v M K := by
  have := dropC_append (N := []) hM hv hK
  rwa [List.append_nil] at this
/-- nothing is dropped -/
theorem dropC_all {m : Nat} {M : List Blk} {v : SV} {K : SV → List Blk → Prop} (hm : m ≤ M.length) (hK : K v M) : dropC m v M K :=
  fun G ρ w _ hs hl => ⟨ρ, v, M, Ext.refl _ _, hm, hs, hl, rfl, hK⟩
/-! integers in range -/
theorem w64 {x : Int} (h0 : -9223372036854775808 ≤ x) (h1 : x ≤ 9223372036854775807) : IntKind.i64.wrap x = x := by
  simp only [IntKind.wrap, IntKind.bits, IntKind.signed]; simp; omega
end Go.Proofs.YtdkdbeamimkljaaGreatDoor.Eng
