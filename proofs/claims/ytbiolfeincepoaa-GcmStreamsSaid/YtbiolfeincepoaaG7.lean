/- The chapter's example. -/
import Derived.Test.YtbiolfeincepoaaG6
import Derived.Test.YtbiolfeincepoaaU0
namespace Go.Proofs.Ytbiolfeincepoaa.Eng
open Go Go.RowKit
set_option linter.unusedSimpArgs false
set_option linter.unusedVariables false

def sealU (key nonce ad text : List (BitVec 8)) : List (BitVec 8) := if sealE key nonce ad text = 0 then sealL key nonce ad text else []
def openU (key nonce ad s : List (BitVec 8)) : List (BitVec 8) := if openB key nonce ad s = true then openL key nonce s else []
theorem sealU_len (key nonce ad text : List (BitVec 8)) : (sealU key nonce ad text).length ≤ 65552 := by
  unfold sealU
  split
  · rename_i h
    have := sealE_0 h
    rw [sealL_len]; omega
  · simp
theorem openU_len (key nonce ad s : List (BitVec 8)) : (openU key nonce ad s).length ≤ s.length := by
  unfold openU
  split
  · rw [openL_len]; omega
  · simp
theorem seal_u (nk ok lk ck nn no ln nc na oa la ca nt ot lt ct : Nat) (key nonce ad text : List (BitVec 8)) (M : List Blk) (K : SV → List Blk → Prop)
    (hk : BAt M nk ok key) (hlk : lk = key.length) (hck : lk ≤ ck) (hmk : lk ≤ 140737488355000) (hn : BAt M nn no nonce) (hln : ln = nonce.length) (ha : BAt M na oa ad) (hla : la = ad.length) (hca : la ≤ ca)
    (ht : BAt M nt ot text) (hlt : lt = text.length) (hct : lt ≤ ct)
    (hK : ∀ z ty, K (.tup [.sl M.length 0 (sealU key nonce ad text).length ((sealU key nonce ad text).length + z.length), .i .i64 (sealE key nonce ad text)]) (M ++ [.row (bS (sealU key nonce ad text ++ z)) ty])) :
    callVC Try.prog 9 [.sl nk ok lk ck, .sl nn no ln nc, .sl na oa la ca, .sl nt ot lt ct] M K := by
  refine callVC_drop (callVC_names (fun hM => ?_) Try.call9)
  refine seal_ok nk ok lk ck nn no ln nc na oa la ca nt ot lt ct key nonce ad text M _ hk hlk hck hmk hn hln ha hla hca ht hlt hct (fun h z ty => ?_) (fun h => ?_)
  · have := hK z ty
    unfold sealU at this
    rw [if_pos h, h, sealL_len] at this
    exact dropC_all (by simp) this
  · have := hK [] 0
    unfold sealU at this
    rw [if_neg h] at this
    exact drop8nt hM this
theorem refseal_u (nk ok lk ck nn no ln nc na oa la ca nt ot lt ct : Nat) (key nonce ad text : List (BitVec 8)) (M : List Blk) (K : SV → List Blk → Prop)
    (hk : BAt M nk ok key) (hlk : lk = key.length) (hck : lk ≤ ck) (hmk : lk ≤ 140737488355000) (hn : BAt M nn no nonce) (hln : ln = nonce.length) (ha : BAt M na oa ad) (hla : la = ad.length) (hca : la ≤ ca)
    (ht : BAt M nt ot text) (hlt : lt = text.length) (hct : lt ≤ ct)
    (hK : ∀ z ty, K (.tup [.sl M.length 0 (sealU key nonce ad text).length ((sealU key nonce ad text).length + z.length), .i .i64 (sealE key nonce ad text)]) (M ++ [.row (bS (sealU key nonce ad text ++ z)) ty])) :
    callVC Try.prog 11 [.sl nk ok lk ck, .sl nn no ln nc, .sl na oa la ca, .sl nt ot lt ct] M K := by
  refine callVC_drop (callVC_names (fun hM => ?_) Try.call11)
  refine refseal_ok nk ok lk ck nn no ln nc na oa la ca nt ot lt ct key nonce ad text M _ hk hlk hck hmk hn hln ha hla hca ht hlt hct (fun h z ty => ?_) (fun h => ?_)
  · have := hK z ty
    unfold sealU at this
    rw [if_pos h, h, sealL_len] at this
    exact dropC_all (by simp) this
  · have := hK [] 0
    unfold sealU at this
    rw [if_neg h] at this
    exact drop8nt hM this
theorem open_u (nk ok lk ck nn no ln nc na oa la ca nt ot lt ct : Nat) (key nonce ad s : List (BitVec 8)) (M : List Blk) (K : SV → List Blk → Prop)
    (hk : BAt M nk ok key) (hlk : lk = key.length) (hck : lk ≤ ck) (hmk : lk ≤ 140737488355000) (hn : BAt M nn no nonce) (hln : ln = nonce.length) (ha : BAt M na oa ad) (hla : la = ad.length) (hca : la ≤ ca)
    (ht : BAt M nt ot s) (hlt : lt = s.length) (hct : lt ≤ ct) (hms : lt ≤ 140737488355000)
    (hK : ∀ z ty, K (.tup [.sl M.length 0 (openU key nonce ad s).length ((openU key nonce ad s).length + z.length), .b (openB key nonce ad s)]) (M ++ [.row (bS (openU key nonce ad s ++ z)) ty])) :
    callVC Try.prog 14 [.sl nk ok lk ck, .sl nn no ln nc, .sl na oa la ca, .sl nt ot lt ct] M K := by
  refine callVC_drop (callVC_names (fun hM => ?_) Try.call14)
  refine open_ok nk ok lk ck nn no ln nc na oa la ca nt ot lt ct key nonce ad s M _ hk hlk hck hmk hn hln ha hla hca ht hlt hct hms (fun h z ty => ?_) (fun h => ?_)
  · have := hK z ty
    unfold openU at this
    rw [if_pos h, h, openL_len] at this
    exact dropC_all (by simp) this
  · have := hK [] 0
    unfold openU at this
    rw [if_neg (by rw [h]; decide), h] at this
    exact drop8nb hM this
theorem refopen_u (nk ok lk ck nn no ln nc na oa la ca nt ot lt ct : Nat) (key nonce ad s : List (BitVec 8)) (M : List Blk) (K : SV → List Blk → Prop)
    (hk : BAt M nk ok key) (hlk : lk = key.length) (hck : lk ≤ ck) (hmk : lk ≤ 140737488355000) (hn : BAt M nn no nonce) (hln : ln = nonce.length) (ha : BAt M na oa ad) (hla : la = ad.length) (hca : la ≤ ca)
    (ht : BAt M nt ot s) (hlt : lt = s.length) (hct : lt ≤ ct) (hms : lt ≤ 140737488355000)
    (hK : ∀ z ty, K (.tup [.sl M.length 0 (openU key nonce ad s).length ((openU key nonce ad s).length + z.length), .b (openB key nonce ad s)]) (M ++ [.row (bS (openU key nonce ad s ++ z)) ty])) :
    callVC Try.prog 15 [.sl nk ok lk ck, .sl nn no ln nc, .sl na oa la ca, .sl nt ot lt ct] M K := by
  refine callVC_drop (callVC_names (fun hM => ?_) Try.call15)
  refine refopen_ok nk ok lk ck nn no ln nc na oa la ca nt ot lt ct key nonce ad s M _ hk hlk hck hmk hn hln ha hla hca ht hlt hct hms (fun h z ty => ?_) (fun h => ?_)
  · have := hK z ty
    unfold openU at this
    rw [if_pos h, h, openL_len] at this
    exact dropC_all (by simp) this
  · have := hK [] 0
    unfold openU at this
    rw [if_neg (by rw [h]; decide), h] at this
    exact drop8nb hM this
end Go.Proofs.Ytbiolfeincepoaa.Eng
