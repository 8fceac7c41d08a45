/- Squaring the rows of 128 bits: 128 squarings bring a row back, and no two rows but nought have the product nought. -/
import Derived.Test.YthibglfeccmocaaFc
namespace Go.Proofs.Ythibglfeccmocaa.Eng
open Go
set_option linter.unusedSimpArgs false
set_option linter.unusedVariables false

/-- a row, worked out before it is used -/
def force128 {α : Type} (v : BitVec 128) (f : BitVec 128 → α) : α := forceN v.toNat fun n => f (BitVec.ofNat 128 n)
theorem force128_eq {α : Type} (v : BitVec 128) (f : BitVec 128 → α) : force128 v f = f v := by
  unfold force128
  rw [forceN_eq, BitVec.ofNat_toNat, BitVec.setWidth_eq]
def mulA : Nat → BitVec 128 → BitVec 128 → BitVec 128 → BitVec 128
  | 0, _, _, acc => acc
  | k + 1, x, y, acc => force128 (t128 y) fun y' => force128 (if x.getLsbD k then acc ^^^ y else acc) fun a => mulA k x y' a
theorem mulA_gs (x y : BitVec 128) : ∀ k, k ≤ 128 → mulA k x (it t128 (128 - k) y) (gs t128 (fun i => x.getMsbD i) (128 - k) y) = gs t128 (fun i => x.getMsbD i) 128 y
  | 0, _ => rfl
  | k + 1, hk => by
    have ih := mulA_gs x y k (by omega)
    have e : 128 - k = 128 - (k + 1) + 1 := by omega
    rw [e] at ih
    rw [← ih]
    simp only [mulA, force128_eq, it, gs]
    congr 1
    have hb : x.getMsbD (128 - (k + 1)) = x.getLsbD k := by
      rw [BitVec.getMsbD, show 128 - 1 - (128 - (k + 1)) = k by omega]
      simp
      omega
    rw [← hb]
    by_cases h : x.getMsbD (128 - (k + 1)) = true
    · rw [if_pos h, if_pos h]
    · rw [if_neg h, if_neg h, BitVec.xor_zero]
theorem mulA_mul (x y : BitVec 128) : mulA 128 x y 0#128 = F128.mul x y := mulA_gs x y 128 (Nat.le_refl _)
/-- n squarings -/
def sqn : Nat → BitVec 128 → BitVec 128
  | 0, x => x
  | n + 1, x => F128.mul (sqn n x) (sqn n x)
def sqA : Nat → BitVec 128 → BitVec 128
  | 0, x => x
  | n + 1, x => force128 (mulA 128 x x 0#128) fun y => sqA n y
theorem sqn_sq (n : Nat) (x : BitVec 128) : sqn n (F128.mul x x) = F128.mul (sqn n x) (sqn n x) := by
  induction n with
  | zero => rfl
  | succ n ih => simp only [sqn, ih]
theorem sqA_sqn : ∀ (n : Nat) (x : BitVec 128), sqA n x = sqn n x
  | 0, _ => rfl
  | n + 1, x => by
    simp only [sqA, force128_eq, mulA_mul]
    rw [sqA_sqn n, sqn_sq]
    rfl
theorem sqn_xor (n : Nat) (x y : BitVec 128) : sqn n (x ^^^ y) = sqn n x ^^^ sqn n y := by
  induction n with
  | zero => rfl
  | succ n ih => simp only [sqn, ih, F128.sq_xor]
theorem sqn_mul (n : Nat) (x y : BitVec 128) : sqn n (F128.mul x y) = F128.mul (sqn n x) (sqn n y) := by
  induction n with
  | zero => rfl
  | succ n ih => simp only [sqn, ih, F128.sq_mul]
theorem sqn_one (n : Nat) : sqn n o128 = o128 := by
  induction n with
  | zero => rfl
  | succ n ih => simp only [sqn, ih]; exact F128.mul_one _
def X128 : BitVec 128 := 1#128 <<< 126
theorem t_X (v : BitVec 128) : t128 v = F128.mul X128 v := by
  have : X128 = t128 o128 := by decide +kernel
  rw [F128.mul_comm, this]
  show _ = gs t128 _ 128 (t128 o128)
  rw [gs_t t128_lin]
  congr 1
  exact (F128.mul_one v).symm
theorem sq_X : sqA 128 X128 = X128 := by decide +kernel
theorem sqn_it (i : Nat) : sqn 128 (it t128 i o128) = it t128 i o128 := by
  induction i with
  | zero => exact sqn_one 128
  | succ i ih => simp only [it]; rw [t_X, sqn_mul, ih, ← sqA_sqn, sq_X]
/-- what is linear and nought at the powers of X is nought -/
theorem lin_zero {G : BitVec 128 → BitVec 128} (hG : ∀ a b, G (a ^^^ b) = G a ^^^ G b) (h : ∀ i, i < 128 → G (it t128 i o128) = 0#128) (x : BitVec 128) : G x = 0#128 := by
  have h0 : G 0#128 = 0#128 := by
    have := hG 0#128 0#128
    rw [BitVec.xor_self] at this
    rw [this, BitVec.xor_self]
  have : ∀ n, n ≤ 128 → G (gs t128 (fun i => x.getMsbD i) n o128) = 0#128 := by
    intro n hn
    induction n with
    | zero => exact h0
    | succ n ih =>
      simp only [gs]
      rw [hG, ih (by omega), BitVec.zero_xor]
      split
      · exact h n (by omega)
      · exact h0
  have := this 128 (Nat.le_refl _)
  rwa [show gs t128 (fun i => x.getMsbD i) 128 o128 = x from F128.h1 x] at this
theorem frob (x : BitVec 128) : sqn 128 x = x := by
  have := lin_zero (G := fun v => sqn 128 v ^^^ v) (fun a b => by rw [sqn_xor, xor4]) (fun i _ => by rw [sqn_it, BitVec.xor_self]) x
  have h2 : sqn 128 x ^^^ x ^^^ x = 0#128 ^^^ x := by rw [this]
  rwa [BitVec.xor_assoc, BitVec.xor_self, BitVec.xor_zero, BitVec.zero_xor] at h2

/-! the rows that are their own square -/
def cols : List Nat := [
  22349210433241643211303706255459310228, 42781086895802961305837899807692839847, 127851678626037577171681551665634892711, 64161864867486123575827494532326627698,
  85316382760920269238759725736663866279, 114910088095513088234682618273958557012, 42894216934927469609366581567841114482, 32564043359013102798989312672802603315,
  95950206727199596221990182218906622887, 46326064391129892899928697286047832434, 109593176112373424743067390032837178708, 142223934881672753734463413618344281941,
  45552672926497301355174195688401803634, 94354540392079830942767997527157175399, 33893271354798018671893119733082947891, 133492860460135582475628106552095754965,
  96614820725092054158442085749046795175, 123504943270841248069084356367027567956, 45993757392183663931702745520977746290, 84108166368187411435240813705953482624,
  109427022612900310258954414150302135636, 65334698174074460006561831602428846656, 142140858131936196492406925677076760405, 26944648382676130012539518143993095923,
  45594211301365579976202439659035564402, 34751615226583747878589791662865156403, 94333771204645691632253875541840295015, 58594332839845026287895736368243621554,
  33882886761080949016636058740424507699, 49689517202507746048320574050840187699, 133487668163277047647999576055766534869, 87518597506017800282691648887090017190,
  96617416873521321572256350997211405223, 123492369287794167071922631989304127700, 123506241345055881775991488991109872980, 88394181544543220452557894239097387942,
  45994406429290980785156311833018898802, 49921000057622566873658450198655872755, 84108490886741069861967596861974058880, 35809052500604244266195401481916326771,
  109427184872177139472317805728312423764, 79569572989071969373811419141996187585, 65334779303712874613243527391433990720, 4726979706471076424241489524707209152,
  142140898696755403795747773571579332437, 58275656592714443450777541729474286387, 26944628100266526360869094196741809907, 140308235276560358896028355552301283989,
  45594221442570381802037651632661207410, 44935323831971706514111515550899780402, 34751610155981346965672185676052334899, 115575792119390803779456185938199600469,
  94333773739946892088712678535246705767, 159324042485362573657552647614603385767, 58594334107495626516125137864946826930, 153238470225796900814681174335121648678,
  33882886127255648902521357992072905011, 59792954277794325190837842541115644722, 49689517519420396105377924425015989043, 72978216601350599591347508359916847681,
  133487668004820722619470900868678634197, 163309321578052146805450802438263305319, 87518597585245962796955986480633967526, 6161591008139076220601646446843146177,
  96617416833907240315124182200439430055, 67288019353279926038130604499846823936, 123492369307601207700488716387690115284, 72992884249465865451566362034747193217,
  123506241354959402090274531190302866772, 93226277353508642900164249188457535015, 88394181539591460295416373139500891046, 6116654749483988959971426010360459777,
  45994406431766860863727072382817147250, 113870918609522322281985099445019275925, 49921000058860506912943830473554996979, 161537358671016203777973217828391545831,
  84108490886122099842324906724524496768, 63089105448741488643398279942380763954, 35809052500294759256374056413191545715, 96504253903287235160744645914913229863,
  109427184872331881977228478262674814292, 9537274821874957483351388617584152641, 79569572988994598121356082874814992321, 122557457634345817322758110469731963540,
  65334779303751560239471195525024588352, 161542955870533464563010084267448332775, 4726979706490419237355323591502507968, 53639910565545342273528145980335791795,
  142140898696765075202304690604976981845, 51613027339492204128265575524803459891, 58275656592719279154056000246173111091, 81071795988965022717357904530596407232,
  26944628100264108509229864938392397555, 92325303522414418149753570460923091879, 140308235276559149970208740923126577813, 100983558286137050684044238585428660711,
  45594221442569777339127844318073854322, 132003651752985294974180122299820886164, 44935323831972008745566419208193456946, 100972845268357601278728964017462078439,
  34751610155981195849944733847405496627, 133436244703473040169882794575366898389, 115575792119390728221592460023876181333, 161752945482599484730126084874801441767,
  94333773739946854309780815578084996199, 149021274876537960721224429182834492454, 159324042485362592547018579093184240551, 5725366257701666555538562805218717057,
  58594334107495617071392172125656399538, 127777348636302309636952298273557535380, 153238470225796905537047657204766862374, 133385434108064708788808215410435911893,
  33882886127255646541338116557250298163, 275464514806027128612938827324864, 59792954277794326371429463258526948146, 12764899024296983899235621676887115841,
  49689517519420395515082114066310337331, 126976600203468727039316187211004055892, 72978216601350599296199603180564021825, 108887185710678174598840578861931466132,
  133487668004820722767044853458355047125, 126814247099887467207929949960147586332, 163309321578052146879237778733101511783, 72921817864677867521778898634038080609,
  87518597585245962833849474628053070758, 71430717218983613641036104277415506289, 6161591008139076202154902373133594561, 0]
def lap : Nat → List Nat → BitVec 128 → BitVec 128 → BitVec 128
  | _, [], _, acc => acc
  | k, c :: cs, v, acc => force128 (if v.getMsbD k then acc ^^^ BitVec.ofNat 128 c else acc) fun a => lap (k + 1) cs v a
theorem lap_acc : ∀ (cs : List Nat) (k : Nat) (v a b : BitVec 128), lap k cs v (a ^^^ b) = lap k cs v a ^^^ b
  | [], _, _, _, _ => rfl
  | c :: cs, k, v, a, b => by
    simp only [lap, force128_eq]
    split
    · rw [show a ^^^ b ^^^ BitVec.ofNat 128 c = (a ^^^ BitVec.ofNat 128 c) ^^^ b by rw [BitVec.xor_assoc, BitVec.xor_comm b, ← BitVec.xor_assoc], lap_acc cs]
    · exact lap_acc cs _ _ _ _
theorem lap_xor : ∀ (cs : List Nat) (k : Nat) (u v : BitVec 128), lap k cs (u ^^^ v) 0#128 = lap k cs u 0#128 ^^^ lap k cs v 0#128
  | [], _, _, _ => by simp [lap]
  | c :: cs, k, u, v => by
    have ih := lap_xor cs (k + 1) u v
    have e : ∀ (w : BitVec 128), lap k (c :: cs) w 0#128 = lap (k + 1) cs w 0#128 ^^^ (if w.getMsbD k = true then BitVec.ofNat 128 c else 0#128) := by
      intro w
      simp only [lap, force128_eq]
      split
      · rw [lap_acc]
      · rw [BitVec.xor_zero]
    rw [e, e, e, ih, xor4]
    congr 1
    rw [BitVec.getMsbD_xor, xor_ite]
def lapC (v : BitVec 128) : BitVec 128 := lap 0 cols v 0#128
theorem lap_ok : ∀ i : Fin 128, lapC (mulA 128 (1#128 <<< (127 - i.val)) (1#128 <<< (127 - i.val)) 0#128 ^^^ (1#128 <<< (127 - i.val))) ^^^ (1#128 <<< (127 - i.val)) ^^^ (if (1#128 <<< (127 - i.val)).getMsbD 0 = true then o128 else 0#128) = 0#128 := by decide +kernel
theorem lap_all (x : BitVec 128) : lapC (F128.mul x x ^^^ x) ^^^ x ^^^ (if x.getMsbD 0 = true then o128 else 0#128) = 0#128 := by
  refine lin_zero (G := fun x => lapC (F128.mul x x ^^^ x) ^^^ x ^^^ (if x.getMsbD 0 = true then o128 else 0#128)) (fun a b => ?_) (fun i hi => ?_) x
  · show lapC (F128.mul (a ^^^ b) (a ^^^ b) ^^^ (a ^^^ b)) ^^^ (a ^^^ b) ^^^ (if (a ^^^ b).getMsbD 0 = true then o128 else 0#128) = _
    rw [F128.sq_xor, xor4, BitVec.getMsbD_xor, xor_ite]
    unfold lapC
    rw [lap_xor]
    generalize lap 0 cols (F128.mul a a ^^^ a) 0#128 = p, lap 0 cols (F128.mul b b ^^^ b) 0#128 = q, (if a.getMsbD 0 = true then o128 else 0#128) = r, (if b.getMsbD 0 = true then o128 else 0#128) = u
    rw [xor4 p q a b, xor4]
  · have := lap_ok ⟨i, hi⟩
    rw [it128 ⟨i, hi⟩, ← mulA_mul]
    exact this
theorem idem (x : BitVec 128) (h : F128.mul x x = x) : x = 0#128 ∨ x = o128 := by
  have := lap_all x
  rw [h, BitVec.xor_self] at this
  have hz : lapC 0#128 = 0#128 := by decide +kernel
  rw [hz, BitVec.zero_xor] at this
  have h2 : x = if x.getMsbD 0 = true then o128 else 0#128 := by
    have h3 : x ^^^ (if x.getMsbD 0 = true then o128 else 0#128) ^^^ (if x.getMsbD 0 = true then o128 else 0#128) = 0#128 ^^^ (if x.getMsbD 0 = true then o128 else 0#128) := by rw [this]
    rwa [BitVec.xor_assoc, BitVec.xor_self, BitVec.xor_zero, BitVec.zero_xor] at h3
  split at h2
  · exact Or.inr h2
  · exact Or.inl h2
/-- the product of the first n squares of squares -/
def prd (x : BitVec 128) : Nat → BitVec 128
  | 0 => o128
  | n + 1 => F128.mul (prd x n) (sqn n x)
def qrd (x : BitVec 128) : Nat → BitVec 128
  | 0 => o128
  | n + 1 => F128.mul (qrd x n) (sqn (n + 1) x)
theorem prd_sq (x : BitVec 128) : ∀ n, F128.mul (prd x n) (prd x n) = qrd x n
  | 0 => F128.mul_one _
  | n + 1 => by
    have ih := prd_sq x n
    simp only [prd, qrd]
    rw [F128.sq_mul, ih]
    rfl
theorem prd_qrd (x : BitVec 128) : ∀ n, prd x (n + 1) = F128.mul x (qrd x n)
  | 0 => F128.mul_comm _ _
  | n + 1 => by
    have ih := prd_qrd x n
    rw [show prd x (n + 1 + 1) = F128.mul (prd x (n + 1)) (sqn (n + 1) x) from rfl, ih, F128.mul_assoc]
    rfl
theorem prd_pow (x : BitVec 128) : ∀ n, F128.mul x (prd x n) = sqn n x
  | 0 => F128.mul_one x
  | n + 1 => by simp only [prd, sqn]; rw [← F128.mul_assoc, prd_pow x n]
theorem no_zero (x y : BitVec 128) (h : F128.mul x y = 0#128) : x = 0#128 ∨ y = 0#128 := by
  have hp := prd_pow x 128
  rw [frob] at hp
  have hq : prd x 128 = F128.mul x (qrd x 127) := prd_qrd x 127
  have he : F128.mul (prd x 128) (prd x 128) = prd x 128 := by
    rw [prd_sq, hq]
    show F128.mul (qrd x 127) (sqn 128 x) = _
    rw [frob, F128.mul_comm]
  rcases idem _ he with h0 | h1
  · left
    rw [h0, F128.mul_zero] at hp
    exact hp.symm
  · right
    have h2 : F128.mul (F128.mul x (qrd x 127)) y = y := by rw [← hq, h1]; exact F128.one_mul y
    rw [F128.mul_comm x, F128.mul_assoc, h, F128.mul_zero] at h2
    exact h2.symm
end Go.Proofs.Ythibglfeccmocaa.Eng
