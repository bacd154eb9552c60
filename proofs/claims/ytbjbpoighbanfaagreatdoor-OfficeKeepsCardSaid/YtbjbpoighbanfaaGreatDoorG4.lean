/- A part of the proof: what the functions compute, and that their calls return it. No condition. -/
import Derived.Test.YtbjbpoighbanfaaGreatDoorG3
/- What the functions compute, and that their calls return it. No condition. -/
namespace Go.Proofs.YtbjbpoighbanfaaGreatDoor
open Go Go.TA
/-! 114 -/
abbrev R_commitment_Drop := TApiBook × Int
def V_commitment_Drop (x : R_commitment_Drop) : AV := (AV.tup [(AV.d (TApiBook.e x.1)), (vi x.2)])
def L_commitment_Drop (_ : R_commitment_Drop) : List Ob := []
noncomputable def S_commitment_Drop (a0 : TApiBook) (a1 : Int) (a2 : Int) : Scr Tryz.prog R_commitment_Drop R_commitment_Drop :=
.reg 0 [] [(1, { obs := [(1, (bx (TApiBook.e (⟨[], [], [], []⟩ : TApiBook))))] })] [.pf cz3] <|
.call (@F_commitment_Valid_ok a0) fun rv1 cv1 =>
.reg 1 [] [(1, hc cv1 [] true)] [.cl 0 cv1 [] 2 true] <|
.ite (!rv1) (
.reg 2 [] [(0, hv (AV.d (TApiBook.e (⟨[], [], [], []⟩ : TApiBook))))] [.pf cz4] <|
.ret [] ((⟨[], [], [], []⟩ : TApiBook), 1)) (
.call (@F_commitment_among_ok a1 1 (a0.Commitments.length : Int)) fun rv2 cv2 =>
.reg 3 [] [(4, hc cv2 [] true)] [.cl 0 cv2 [] 2 true] <|
.ite (!rv2) (
.reg 4 [] [(0, hv (AV.d (TApiBook.e (⟨[], [], [], []⟩ : TApiBook))))] [.pf cz4] <|
.ret [] ((⟨[], [], [], []⟩ : TApiBook), 6)) (
.call (@F_commitment_amount_ok a2) fun rv3 cv3 =>
.reg 5 [] [(1, hc cv3 [] true)] [.cl 0 cv3 [] 2 true] <|
.ite (!rv3) (
.reg 6 [] [(0, hv (AV.d (TApiBook.e (⟨[], [], [], []⟩ : TApiBook))))] [.pf cz4] <|
.ret [] ((⟨[], [], [], []⟩ : TApiBook), 2)) (
.call (@F_commitment_open_ok a0 (a0.Commitments.getD (((IntKind.i64.wrap (a1 - 1))).toNat) default)) fun rv4 cv4 =>
.guard [(0 : Int) ≤ (IntKind.i64.wrap (a1 - 1)), ((IntKind.i64.wrap (a1 - 1))).toNat < a0.Commitments.length] <|
.reg 7 [] [(8, hc cv4 [] true)] [.ev 0, .ev 1, .cl 2 cv4 [] 2 true] <|
.ite (decide (a2 > rv4)) (
.reg 8 [] [(0, hv (AV.d (TApiBook.e (⟨[], [], [], []⟩ : TApiBook))))] [.pf cz4] <|
.ret [] ((⟨[], [], [], []⟩ : TApiBook), 15)) (
.call (@F_commitment_copied_rw_ok a0) fun rv5 cv5 =>
.reg 9 [] [(1, hc cv5 [] false)] [.cl 0 cv5 [] 2 false] <|
.kill 3 <|
.guard [rv5.1.length < 2 ^ 63] <|
.frz 4 (.ev 0) none [] [0] <|
.guard [rv5.2.2.1.length < 2 ^ 63] <|
.frz 6 (.ev 0) none [] [0] <|
.guard [rv5.2.2.2.length < 2 ^ 63] <|
.frz 7 (.ev 0) none [] [0] <|
.guard [((IntKind.i64.wrap (a1 - 1))).toNat < rv5.2.1.length, (0 + ((IntKind.i64.wrap (a1 - 1))).toNat) < rv5.2.1.length] <|
.reg 10 [] [(11, { obs := [(5, (eS 7 TApiCommitment.e (rv5.2.1.set (0 + ((IntKind.i64.wrap (a1 - 1))).toNat) (⟨(rv5.2.1.getD (0 + ((IntKind.i64.wrap (a1 - 1))).toNat) default).Number, (rv5.2.1.getD (0 + ((IntKind.i64.wrap (a1 - 1))).toNat) default).Reservation, (rv5.2.1.getD (0 + ((IntKind.i64.wrap (a1 - 1))).toNat) default).Day, (rv5.2.1.getD (0 + ((IntKind.i64.wrap (a1 - 1))).toNat) default).Amount, (IntKind.i64.wrap (((rv5.2.1.getD (0 + ((IntKind.i64.wrap (a1 - 1))).toNat) default).Released) + a2)), (rv5.2.1.getD (0 + ((IntKind.i64.wrap (a1 - 1))).toNat) default).Payee, (rv5.2.1.getD (0 + ((IntKind.i64.wrap (a1 - 1))).toNat) default).Due⟩ : TApiCommitment))))] })] [.pf (Eq.refl rv5.2.1.length), .ev 7, .ev 0, .pf (Eq.refl rv5.2.1.length), .pf (Eq.refl rv5.2.1.length), .ev 1, .pf (Eq.refl rv5.2.1.length), .ev 7, .ev 0, .pf (Eq.refl rv5.2.1.length), .pf (Eq.refl rv5.2.1.length), .ev 1, .pf (oLe_set (sz := 7) (e := TApiCommitment.e) (l := rv5.2.1) (i := (0 + ((IntKind.i64.wrap (a1 - 1))).toNat)) (x := (⟨(rv5.2.1.getD (0 + ((IntKind.i64.wrap (a1 - 1))).toNat) default).Number, (rv5.2.1.getD (0 + ((IntKind.i64.wrap (a1 - 1))).toNat) default).Reservation, (rv5.2.1.getD (0 + ((IntKind.i64.wrap (a1 - 1))).toNat) default).Day, (rv5.2.1.getD (0 + ((IntKind.i64.wrap (a1 - 1))).toNat) default).Amount, (IntKind.i64.wrap (((rv5.2.1.getD (0 + ((IntKind.i64.wrap (a1 - 1))).toNat) default).Released) + a2)), (rv5.2.1.getD (0 + ((IntKind.i64.wrap (a1 - 1))).toNat) default).Payee, (rv5.2.1.getD (0 + ((IntKind.i64.wrap (a1 - 1))).toNat) default).Due⟩ : TApiCommitment)) (fun _ => rfl))] <|
.cst (A := True) (.pf trivial) [(3, (vp 0)), (6, (vp 1))] [(3, (vp 0)), (6, (vp 1))] [(Ob.box (AV.agg [(AV.d (eL TApiReservation.e rv5.1)), (AV.ref 5 rv5.2.1.length 0 rv5.2.1.length), (AV.d (eL TApiVerification.e rv5.2.2.1)), (AV.d (eL TApiOrder.e rv5.2.2.2))])), (bx (TApiBook.e (⟨[], [], [], []⟩ : TApiBook))), Ob.dead, Ob.dead, Ob.dead, (eS 7 TApiCommitment.e (rv5.2.1.set (0 + ((IntKind.i64.wrap (a1 - 1))).toNat) (⟨(rv5.2.1.getD (0 + ((IntKind.i64.wrap (a1 - 1))).toNat) default).Number, (rv5.2.1.getD (0 + ((IntKind.i64.wrap (a1 - 1))).toNat) default).Reservation, (rv5.2.1.getD (0 + ((IntKind.i64.wrap (a1 - 1))).toNat) default).Day, (rv5.2.1.getD (0 + ((IntKind.i64.wrap (a1 - 1))).toNat) default).Amount, (IntKind.i64.wrap (((rv5.2.1.getD (0 + ((IntKind.i64.wrap (a1 - 1))).toNat) default).Released) + a2)), (rv5.2.1.getD (0 + ((IntKind.i64.wrap (a1 - 1))).toNat) default).Payee, (rv5.2.1.getD (0 + ((IntKind.i64.wrap (a1 - 1))).toNat) default).Due⟩ : TApiCommitment))), Ob.dead, Ob.dead] [(Ob.box (AV.agg [(AV.d (eL TApiReservation.e rv5.1)), (AV.ref 5 ((rv5.2.1.set (0 + ((IntKind.i64.wrap (a1 - 1))).toNat) (⟨(rv5.2.1.getD (0 + ((IntKind.i64.wrap (a1 - 1))).toNat) default).Number, (rv5.2.1.getD (0 + ((IntKind.i64.wrap (a1 - 1))).toNat) default).Reservation, (rv5.2.1.getD (0 + ((IntKind.i64.wrap (a1 - 1))).toNat) default).Day, (rv5.2.1.getD (0 + ((IntKind.i64.wrap (a1 - 1))).toNat) default).Amount, (IntKind.i64.wrap (((rv5.2.1.getD (0 + ((IntKind.i64.wrap (a1 - 1))).toNat) default).Released) + a2)), (rv5.2.1.getD (0 + ((IntKind.i64.wrap (a1 - 1))).toNat) default).Payee, (rv5.2.1.getD (0 + ((IntKind.i64.wrap (a1 - 1))).toNat) default).Due⟩ : TApiCommitment)).length) 0 ((rv5.2.1.set (0 + ((IntKind.i64.wrap (a1 - 1))).toNat) (⟨(rv5.2.1.getD (0 + ((IntKind.i64.wrap (a1 - 1))).toNat) default).Number, (rv5.2.1.getD (0 + ((IntKind.i64.wrap (a1 - 1))).toNat) default).Reservation, (rv5.2.1.getD (0 + ((IntKind.i64.wrap (a1 - 1))).toNat) default).Day, (rv5.2.1.getD (0 + ((IntKind.i64.wrap (a1 - 1))).toNat) default).Amount, (IntKind.i64.wrap (((rv5.2.1.getD (0 + ((IntKind.i64.wrap (a1 - 1))).toNat) default).Released) + a2)), (rv5.2.1.getD (0 + ((IntKind.i64.wrap (a1 - 1))).toNat) default).Payee, (rv5.2.1.getD (0 + ((IntKind.i64.wrap (a1 - 1))).toNat) default).Due⟩ : TApiCommitment)).length)), (AV.d (eL TApiVerification.e rv5.2.2.1)), (AV.d (eL TApiOrder.e rv5.2.2.2))])), (bx (TApiBook.e (⟨[], [], [], []⟩ : TApiBook))), Ob.dead, Ob.dead, Ob.dead, (eS 7 TApiCommitment.e (rv5.2.1.set (0 + ((IntKind.i64.wrap (a1 - 1))).toNat) (⟨(rv5.2.1.getD (0 + ((IntKind.i64.wrap (a1 - 1))).toNat) default).Number, (rv5.2.1.getD (0 + ((IntKind.i64.wrap (a1 - 1))).toNat) default).Reservation, (rv5.2.1.getD (0 + ((IntKind.i64.wrap (a1 - 1))).toNat) default).Day, (rv5.2.1.getD (0 + ((IntKind.i64.wrap (a1 - 1))).toNat) default).Amount, (IntKind.i64.wrap (((rv5.2.1.getD (0 + ((IntKind.i64.wrap (a1 - 1))).toNat) default).Released) + a2)), (rv5.2.1.getD (0 + ((IntKind.i64.wrap (a1 - 1))).toNat) default).Payee, (rv5.2.1.getD (0 + ((IntKind.i64.wrap (a1 - 1))).toNat) default).Due⟩ : TApiCommitment))), Ob.dead, Ob.dead] (fun _ => ⟨by simp only [List.length_set, clearL_length, copyL_length], by simp only [List.length_set, clearL_length, copyL_length]⟩) <|
.guard [(rv5.2.1.set (0 + ((IntKind.i64.wrap (a1 - 1))).toNat) (⟨(rv5.2.1.getD (0 + ((IntKind.i64.wrap (a1 - 1))).toNat) default).Number, (rv5.2.1.getD (0 + ((IntKind.i64.wrap (a1 - 1))).toNat) default).Reservation, (rv5.2.1.getD (0 + ((IntKind.i64.wrap (a1 - 1))).toNat) default).Day, (rv5.2.1.getD (0 + ((IntKind.i64.wrap (a1 - 1))).toNat) default).Amount, (IntKind.i64.wrap (((rv5.2.1.getD (0 + ((IntKind.i64.wrap (a1 - 1))).toNat) default).Released) + a2)), (rv5.2.1.getD (0 + ((IntKind.i64.wrap (a1 - 1))).toNat) default).Payee, (rv5.2.1.getD (0 + ((IntKind.i64.wrap (a1 - 1))).toNat) default).Due⟩ : TApiCommitment)).length < 2 ^ 63] <|
.reg 11 [] [] [] <|
.frz 5 (.ev 0) none [] [0, 1] <|
.ret [] ((⟨rv5.1, (rv5.2.1.set (0 + ((IntKind.i64.wrap (a1 - 1))).toNat) (⟨(rv5.2.1.getD (0 + ((IntKind.i64.wrap (a1 - 1))).toNat) default).Number, (rv5.2.1.getD (0 + ((IntKind.i64.wrap (a1 - 1))).toNat) default).Reservation, (rv5.2.1.getD (0 + ((IntKind.i64.wrap (a1 - 1))).toNat) default).Day, (rv5.2.1.getD (0 + ((IntKind.i64.wrap (a1 - 1))).toNat) default).Amount, (IntKind.i64.wrap (((rv5.2.1.getD (0 + ((IntKind.i64.wrap (a1 - 1))).toNat) default).Released) + a2)), (rv5.2.1.getD (0 + ((IntKind.i64.wrap (a1 - 1))).toNat) default).Payee, (rv5.2.1.getD (0 + ((IntKind.i64.wrap (a1 - 1))).toNat) default).Due⟩ : TApiCommitment)), rv5.2.2.1, rv5.2.2.2⟩ : TApiBook), 0)))))
noncomputable def F_commitment_Drop (a0 : TApiBook) (a1 : Int) (a2 : Int) : Option R_commitment_Drop := (S_commitment_Drop a0 a1 a2).den
set_option maxRecDepth 100000 in
theorem F_commitment_Drop_ok {a0 : TApiBook} {a1 : Int} {a2 : Int} (r : R_commitment_Drop) (h : F_commitment_Drop a0 a1 a2 = some r) : CallOk Tryz.prog 114 [(AV.d (TApiBook.e a0)), (vi a1), (vi a2)] [] (V_commitment_Drop r) (L_commitment_Drop r) := fOk (s := S_commitment_Drop a0 a1 a2) Tryz.func114 rfl (by kernel_rfl) h
/-! 115 -/
abbrev R_commitment_Back := TApiBook × Int
def V_commitment_Back (x : R_commitment_Back) : AV := (AV.tup [(AV.d (TApiBook.e x.1)), (vi x.2)])
def L_commitment_Back (_ : R_commitment_Back) : List Ob := []
noncomputable def S_commitment_Back_b1 (a1 : Int) (rv1 : R_commitment_copied_rw) (iv2 : Nat) (_ : Unit) : Scr Tryz.prog R_commitment_Back (Step (Unit) R_commitment_Back) :=
.reg 9 [] [] [.pf (Eq.refl rv1.2.2.2.length), .pf (nn iv2), .ev 0] <|
.guard [(0 + iv2) < rv1.2.2.2.length, AllP [(((rv1.2.2.2.getD (0 + iv2) default).Verification) == a1) = true] → ((0 + iv2) < rv1.2.2.2.length)] <|
.reg 10 [] [] [.pf (Eq.refl rv1.2.2.2.length), .pf (Eq.refl rv1.2.2.2.length), .ev 0, .pf (p := AllP [(((rv1.2.2.2.getD (0 + iv2) default).Verification) == a1) = true] → (rv1.2.2.2.length = rv1.2.2.2.length)) (fun _ => rfl), .pf (p := AllP [(((rv1.2.2.2.getD (0 + iv2) default).Verification) == a1) = true] → (rv1.2.2.2.length = rv1.2.2.2.length)) (fun _ => rfl), .ev 1] <|
.ite (bif (((rv1.2.2.2.getD (0 + iv2) default).Verification) == a1) then (!((rv1.2.2.2.getD (0 + iv2) default).Back)) else false) (
.reg 11 [] [(3, { obs := [(7, (eS 5 TApiOrder.e (rv1.2.2.2.set (0 + iv2) (⟨(rv1.2.2.2.getD (0 + iv2) default).Number, (rv1.2.2.2.getD (0 + iv2) default).Verification, (rv1.2.2.2.getD (0 + iv2) default).Attempt, (rv1.2.2.2.getD (0 + iv2) default).Day, true⟩ : TApiOrder))))] })] [.pf (Eq.refl rv1.2.2.2.length), .pf (Eq.refl rv1.2.2.2.length), .ev 1, .pf (oLe_set (sz := 5) (e := TApiOrder.e) (l := rv1.2.2.2) (i := (0 + iv2)) (x := (⟨(rv1.2.2.2.getD (0 + iv2) default).Number, (rv1.2.2.2.getD (0 + iv2) default).Verification, (rv1.2.2.2.getD (0 + iv2) default).Attempt, (rv1.2.2.2.getD (0 + iv2) default).Day, true⟩ : TApiOrder)) (fun _ => rfl))] <|
.cst (A := True) (.pf trivial) [(2, (vp 0)), (4, (vp 1))] [(2, (vp 0)), (4, (vp 1))] [(Ob.box (AV.agg [(AV.d (eL TApiReservation.e rv1.1)), (AV.d (eL TApiCommitment.e rv1.2.1)), (AV.d (eL TApiVerification.e rv1.2.2.1)), (AV.ref 7 rv1.2.2.2.length 0 rv1.2.2.2.length)])), (bx (TApiBook.e (⟨[], [], [], []⟩ : TApiBook))), Ob.dead, Ob.dead, Ob.dead, Ob.dead, Ob.dead, (eS 5 TApiOrder.e (rv1.2.2.2.set (0 + iv2) (⟨(rv1.2.2.2.getD (0 + iv2) default).Number, (rv1.2.2.2.getD (0 + iv2) default).Verification, (rv1.2.2.2.getD (0 + iv2) default).Attempt, (rv1.2.2.2.getD (0 + iv2) default).Day, true⟩ : TApiOrder)))] [(Ob.box (AV.agg [(AV.d (eL TApiReservation.e rv1.1)), (AV.d (eL TApiCommitment.e rv1.2.1)), (AV.d (eL TApiVerification.e rv1.2.2.1)), (AV.ref 7 ((rv1.2.2.2.set (0 + iv2) (⟨(rv1.2.2.2.getD (0 + iv2) default).Number, (rv1.2.2.2.getD (0 + iv2) default).Verification, (rv1.2.2.2.getD (0 + iv2) default).Attempt, (rv1.2.2.2.getD (0 + iv2) default).Day, true⟩ : TApiOrder)).length) 0 ((rv1.2.2.2.set (0 + iv2) (⟨(rv1.2.2.2.getD (0 + iv2) default).Number, (rv1.2.2.2.getD (0 + iv2) default).Verification, (rv1.2.2.2.getD (0 + iv2) default).Attempt, (rv1.2.2.2.getD (0 + iv2) default).Day, true⟩ : TApiOrder)).length))])), (bx (TApiBook.e (⟨[], [], [], []⟩ : TApiBook))), Ob.dead, Ob.dead, Ob.dead, Ob.dead, Ob.dead, (eS 5 TApiOrder.e (rv1.2.2.2.set (0 + iv2) (⟨(rv1.2.2.2.getD (0 + iv2) default).Number, (rv1.2.2.2.getD (0 + iv2) default).Verification, (rv1.2.2.2.getD (0 + iv2) default).Attempt, (rv1.2.2.2.getD (0 + iv2) default).Day, true⟩ : TApiOrder)))] (fun _ => ⟨by simp only [List.length_set, clearL_length, copyL_length], by simp only [List.length_set, clearL_length, copyL_length]⟩) <|
.guard [(rv1.2.2.2.set (0 + iv2) (⟨(rv1.2.2.2.getD (0 + iv2) default).Number, (rv1.2.2.2.getD (0 + iv2) default).Verification, (rv1.2.2.2.getD (0 + iv2) default).Attempt, (rv1.2.2.2.getD (0 + iv2) default).Day, true⟩ : TApiOrder)).length < 2 ^ 63] <|
.reg 12 [] [] [] <|
.frz 7 (.ev 0) none [] [0, 1] <|
.ret [] (.ret ((⟨rv1.1, rv1.2.1, rv1.2.2.1, (rv1.2.2.2.set (0 + iv2) (⟨(rv1.2.2.2.getD (0 + iv2) default).Number, (rv1.2.2.2.getD (0 + iv2) default).Verification, (rv1.2.2.2.getD (0 + iv2) default).Attempt, (rv1.2.2.2.getD (0 + iv2) default).Day, true⟩ : TApiOrder))⟩ : TApiBook), 0))) (
.ret [] (.cont ()))
noncomputable def S_commitment_Back (a0 : TApiBook) (a1 : Int) : Scr Tryz.prog R_commitment_Back R_commitment_Back :=
.reg 0 [] [(1, { obs := [(1, (bx (TApiBook.e (⟨[], [], [], []⟩ : TApiBook))))] })] [.pf cz3] <|
.call (@F_commitment_Valid_ok a0) fun rv3 cv3 =>
.reg 1 [] [(1, hc cv3 [] true)] [.cl 0 cv3 [] 2 true] <|
.ite (!rv3) (
.reg 2 [] [(0, hv (AV.d (TApiBook.e (⟨[], [], [], []⟩ : TApiBook))))] [.pf cz4] <|
.ret [] ((⟨[], [], [], []⟩ : TApiBook), 1)) (
.call (@F_commitment_among_ok a1 1 (a0.Verifications.length : Int)) fun rv4 cv4 =>
.reg 3 [] [(4, hc cv4 [] true)] [.cl 0 cv4 [] 2 true] <|
.ite (!rv4) (
.reg 4 [] [(0, hv (AV.d (TApiBook.e (⟨[], [], [], []⟩ : TApiBook))))] [.pf cz4] <|
.ret [] ((⟨[], [], [], []⟩ : TApiBook), 6)) (
.call (@F_commitment_copied_rw_ok a0) fun rv1 cv1 =>
.reg 5 [] [(1, hc cv1 [] false)] [.cl 0 cv1 [] 2 false] <|
.kill 3 <|
.guard [rv1.1.length < 2 ^ 63] <|
.frz 4 (.ev 0) none [] [0] <|
.guard [rv1.2.1.length < 2 ^ 63] <|
.frz 5 (.ev 0) none [] [0] <|
.guard [rv1.2.2.1.length < 2 ^ 63] <|
.frz 6 (.ev 0) none [] [0] <|
.guard [rv1.2.2.2.length < 2 ^ 63] <|
.range (rv1.2.2.2.length : Int) rv1.2.2.2.length rfl (.why (.ev 0)) 26 [1, 2, 4, 25] (fun (_ : Unit) => []) (fun (_ : Unit) => []) () (S_commitment_Back_b1 a1 rv1) (fun (_ : Unit) => 
.reg 14 [] [(0, hv (AV.d (TApiBook.e (⟨[], [], [], []⟩ : TApiBook))))] [.pf cz4] <|
.ret [] ((⟨[], [], [], []⟩ : TApiBook), 9)) id))
noncomputable def F_commitment_Back (a0 : TApiBook) (a1 : Int) : Option R_commitment_Back := (S_commitment_Back a0 a1).den
set_option maxRecDepth 100000 in
theorem F_commitment_Back_ok {a0 : TApiBook} {a1 : Int} (r : R_commitment_Back) (h : F_commitment_Back a0 a1 = some r) : CallOk Tryz.prog 115 [(AV.d (TApiBook.e a0)), (vi a1)] [] (V_commitment_Back r) (L_commitment_Back r) := fOk (s := S_commitment_Back a0 a1) Tryz.func115 rfl (by kernel_rfl) h
/-! 74 -/
abbrev R_office_book := TApiBook × Int
def V_office_book (x : R_office_book) : AV := (AV.tup [(AV.d (TApiBook.e x.1)), (vi x.2)])
def L_office_book (_ : R_office_book) : List Ob := []
noncomputable def S_office_book (a0 : TApiBook) (a1 : TApiOp) : Scr Tryz.prog R_office_book R_office_book :=
.reg 0 [] [(2, { obs := [(2, (bx (TApiBook.e (⟨[], [], [], []⟩ : TApiBook))))] })] [.pf cz3] <|
.ite (a1.Kind == 1) (
.call (@F_commitment_Reserve_ok a0 a1.Code a1.Year a1.Day a1.Amount) fun rv1 cv1 =>
.reg 3 [] [(9, hc cv1 [] true)] [.cl 0 cv1 [] 3 true] <|
.ret [] (rv1.1, rv1.2)) (
.ite (a1.Kind == 2) (
.call (@F_commitment_Commit_ok a0 a1.Of a1.Day a1.Amount a1.Payee a1.Due) fun rv2 cv2 =>
.reg 5 [] [(11, hc cv2 [] true)] [.cl 0 cv2 [] 3 true] <|
.ret [] (rv2.1, rv2.2)) (
.ite (a1.Kind == 3) (
.call (@F_commitment_Verify_ok a0 a1.Of a1.Day a1.Amount) fun rv3 cv3 =>
.reg 7 [] [(7, hc cv3 [] true)] [.cl 0 cv3 [] 3 true] <|
.ret [] (rv3.1, rv3.2)) (
.ite (a1.Kind == 4) (
.call (@F_commitment_Order_ok a0 a1.Of a1.Day) fun rv4 cv4 =>
.reg 9 [] [(5, hc cv4 [] true)] [.cl 0 cv4 [] 3 true] <|
.ret [] (rv4.1, rv4.2)) (
.ite (a1.Kind == 5) (
.call (@F_commitment_Release_ok a0 a1.Of a1.Amount) fun rv5 cv5 =>
.reg 11 [] [(5, hc cv5 [] true)] [.cl 0 cv5 [] 3 true] <|
.ret [] (rv5.1, rv5.2)) (
.ite (a1.Kind == 6) (
.call (@F_commitment_Drop_ok a0 a1.Of a1.Amount) fun rv6 cv6 =>
.reg 13 [] [(5, hc cv6 [] true)] [.cl 0 cv6 [] 3 true] <|
.ret [] (rv6.1, rv6.2)) (
.call (@F_commitment_Back_ok a0 a1.Of) fun rv7 cv7 =>
.reg 14 [] [(3, hc cv7 [] true)] [.cl 0 cv7 [] 3 true] <|
.ret [] (rv7.1, rv7.2)))))))
noncomputable def F_office_book (a0 : TApiBook) (a1 : TApiOp) : Option R_office_book := (S_office_book a0 a1).den
set_option maxRecDepth 100000 in
theorem F_office_book_ok {a0 : TApiBook} {a1 : TApiOp} (r : R_office_book) (h : F_office_book a0 a1 = some r) : CallOk Tryz.prog 74 [(AV.d (TApiBook.e a0)), (AV.d (TApiOp.e a1))] [] (V_office_book r) (L_office_book r) := fOk (s := S_office_book a0 a1) Tryz.func74 rfl (by kernel_rfl) h
/-! 37 -/
abbrev R_office_Step := TApiOffice × Int
def V_office_Step (x : R_office_Step) : AV := (AV.tup [(AV.d (TApiOffice.e x.1)), (vi x.2)])
def L_office_Step (_ : R_office_Step) : List Ob := []
noncomputable def S_office_Step (a0 : TApiOffice) (a1 : TApiOp) : Scr Tryz.prog R_office_Step R_office_Step :=
.reg 0 [] [(2, { obs := [(2, (bx (TApiOffice.e (⟨0, [], (⟨[], [], [], []⟩ : TApiBook)⟩ : TApiOffice))))] })] [.pf cz1] <|
.ite (a1.Kind == 8) (
.call (@F_office_hear_ok a0 a1) fun rv1 cv1 =>
.reg 3 [] [(2, hc cv1 [] true)] [.cl 0 cv1 [] 3 true] <|
.ret [] (rv1.1, rv1.2)) (
.ite (a1.Kind == 7) (
.call (@F_office_give_ok a0 a1) fun rv2 cv2 =>
.reg 5 [] [(2, hc cv2 [] true)] [.cl 0 cv2 [] 3 true] <|
.ret [] (rv2.1, rv2.2)) (
.call (@F_office_book_ok a0.Book a1) fun rv3 cv3 =>
.reg 6 [] [(3, hc cv3 [] true), (7, { obs := [(3, (bx (TApiBook.e (⟨[], [], [], []⟩ : TApiBook))))] })] [.cl 0 cv3 [] 3 true, .pf cz3] <|
.ite (rv3.2 != 0) (
.reg 8 [] [(0, hv (AV.d (TApiOffice.e (⟨0, [], (⟨[], [], [], []⟩ : TApiBook)⟩ : TApiOffice))))] [.pf cz2] <|
.ret [] ((⟨0, [], (⟨[], [], [], []⟩ : TApiBook)⟩ : TApiOffice), rv3.2)) (
.calld [(a1.Kind == 1) = true] default (@F_office_Unused_ok a0 a1.Code a1.Year) fun rv4 cv4 =>
.reg 9 [] [(11, hc cv4 [] true)] [.clg 0 [(a1.Kind == 1) = true] cv4 [] 4 true] <|
.ite (bif (a1.Kind == 1) then (decide (a1.Amount > rv4)) else false) (
.reg 10 [] [(0, hv (AV.d (TApiOffice.e (⟨0, [], (⟨[], [], [], []⟩ : TApiBook)⟩ : TApiOffice))))] [.pf cz2] <|
.ret [] ((⟨0, [], (⟨[], [], [], []⟩ : TApiBook)⟩ : TApiOffice), 15)) (
.ret [] ((⟨a0.Number, a0.Rights, rv3.1⟩ : TApiOffice), 0)))))
noncomputable def F_office_Step (a0 : TApiOffice) (a1 : TApiOp) : Option R_office_Step := (S_office_Step a0 a1).den
set_option maxRecDepth 100000 in
theorem F_office_Step_ok {a0 : TApiOffice} {a1 : TApiOp} (r : R_office_Step) (h : F_office_Step a0 a1 = some r) : CallOk Tryz.prog 37 [(AV.d (TApiOffice.e a0)), (AV.d (TApiOp.e a1))] [] (V_office_Step r) (L_office_Step r) := fOk (s := S_office_Step a0 a1) Tryz.func37 rfl (by kernel_rfl) h
/-! 67 -/
theorem cz5 : ∀ k, k < 0 → (DV.b false).wd = 5 := fun _ h => absurd h (Nat.not_lt_zero _)
abbrev R_slices_Clone_Right := (List TApiRight)
def V_slices_Clone_Right (x : R_slices_Clone_Right) : AV := (AV.d (eL TApiRight.e x))
def L_slices_Clone_Right (_ : R_slices_Clone_Right) : List Ob := []
noncomputable def S_slices_Clone_Right (a0 : (List TApiRight)) : Scr Tryz.prog R_slices_Clone_Right R_slices_Clone_Right :=
.reg 0 [] [] [] <|
.nils 0 (
.guard [(0 + a0.length) * (2 * 48) ≤ 2 ^ 48] <|
.reg 1 [] [] [] <|
.lev 0 (AV.d (eL TApiRight.e a0)) (.pf (lvQ true a0.length fun j => (TApiRight.e (a0.getD j default)))) <|
.br true (.pf (p := true = true) rfl) <|
.reg 2 [] [] [] <|
.lev 2 (AV.d (eL TApiRight.e a0)) (.der (fun (h : a0.length = 0) => lvZ TApiRight.e a0 h) 1) <|
.ret [] a0) (
.reg 1 [] [] [] <|
.lev 0 (AV.d (eL TApiRight.e a0)) (.pf (lvQ false a0.length fun j => (TApiRight.e (a0.getD j default)))) <|
.br false (.pf (p := false = false) rfl) <|
.guard [(0 + a0.length) * (2 * 48) ≤ 2 ^ 48] <|
.reg 3 [] [(2, hv (AV.d (eL TApiRight.e a0)))] [.pf (p := ∀ k, k < a0.length → AV.d (TApiRight.e (a0.getD k default)) = AV.d (TApiRight.e (a0.getD k default)) ∧ (TApiRight.e (a0.getD k default)).wd = 5) (fun _ _ => ⟨rfl, rfl⟩), .pf cz5, .ev 0, .pf (leV_app0 (e := TApiRight.e) (x := a0))] <|
.ret [] a0)
noncomputable def F_slices_Clone_Right (a0 : (List TApiRight)) : Option R_slices_Clone_Right := (S_slices_Clone_Right a0).den
set_option maxRecDepth 100000 in
theorem F_slices_Clone_Right_ok {a0 : (List TApiRight)} (r : R_slices_Clone_Right) (h : F_slices_Clone_Right a0 = some r) : CallOk Tryz.prog 67 [(AV.d (eL TApiRight.e a0))] [] (V_slices_Clone_Right r) (L_slices_Clone_Right r) := fOk (s := S_slices_Clone_Right a0) Tryz.func67 rfl (by kernel_rfl) h
/-! 68 -/
theorem cz6 : ∀ k, k < 0 → (DV.b false).wd = 6 := fun _ h => absurd h (Nat.not_lt_zero _)
abbrev R_slices_Clone_Reservation := (List TApiReservation)
def V_slices_Clone_Reservation (x : R_slices_Clone_Reservation) : AV := (AV.d (eL TApiReservation.e x))
def L_slices_Clone_Reservation (_ : R_slices_Clone_Reservation) : List Ob := []
noncomputable def S_slices_Clone_Reservation (a0 : (List TApiReservation)) : Scr Tryz.prog R_slices_Clone_Reservation R_slices_Clone_Reservation :=
.reg 0 [] [] [] <|
.nils 0 (
.guard [(0 + a0.length) * (2 * 56) ≤ 2 ^ 48] <|
.reg 1 [] [] [] <|
.lev 0 (AV.d (eL TApiReservation.e a0)) (.pf (lvQ true a0.length fun j => (TApiReservation.e (a0.getD j default)))) <|
.br true (.pf (p := true = true) rfl) <|
.reg 2 [] [] [] <|
.lev 2 (AV.d (eL TApiReservation.e a0)) (.der (fun (h : a0.length = 0) => lvZ TApiReservation.e a0 h) 1) <|
.ret [] a0) (
.reg 1 [] [] [] <|
.lev 0 (AV.d (eL TApiReservation.e a0)) (.pf (lvQ false a0.length fun j => (TApiReservation.e (a0.getD j default)))) <|
.br false (.pf (p := false = false) rfl) <|
.guard [(0 + a0.length) * (2 * 56) ≤ 2 ^ 48] <|
.reg 3 [] [(2, hv (AV.d (eL TApiReservation.e a0)))] [.pf (p := ∀ k, k < a0.length → AV.d (TApiReservation.e (a0.getD k default)) = AV.d (TApiReservation.e (a0.getD k default)) ∧ (TApiReservation.e (a0.getD k default)).wd = 6) (fun _ _ => ⟨rfl, rfl⟩), .pf cz6, .ev 0, .pf (leV_app0 (e := TApiReservation.e) (x := a0))] <|
.ret [] a0)
noncomputable def F_slices_Clone_Reservation (a0 : (List TApiReservation)) : Option R_slices_Clone_Reservation := (S_slices_Clone_Reservation a0).den
set_option maxRecDepth 100000 in
theorem F_slices_Clone_Reservation_ok {a0 : (List TApiReservation)} (r : R_slices_Clone_Reservation) (h : F_slices_Clone_Reservation a0 = some r) : CallOk Tryz.prog 68 [(AV.d (eL TApiReservation.e a0))] [] (V_slices_Clone_Reservation r) (L_slices_Clone_Reservation r) := fOk (s := S_slices_Clone_Reservation a0) Tryz.func68 rfl (by kernel_rfl) h
/-! 69 -/
theorem cz7 : ∀ k, k < 0 → (DV.b false).wd = 7 := fun _ h => absurd h (Nat.not_lt_zero _)
abbrev R_slices_Clone_Commitment := (List TApiCommitment)
def V_slices_Clone_Commitment (x : R_slices_Clone_Commitment) : AV := (AV.d (eL TApiCommitment.e x))
def L_slices_Clone_Commitment (_ : R_slices_Clone_Commitment) : List Ob := []
noncomputable def S_slices_Clone_Commitment (a0 : (List TApiCommitment)) : Scr Tryz.prog R_slices_Clone_Commitment R_slices_Clone_Commitment :=
.reg 0 [] [] [] <|
.nils 0 (
.guard [(0 + a0.length) * (2 * 56) ≤ 2 ^ 48] <|
.reg 1 [] [] [] <|
.lev 0 (AV.d (eL TApiCommitment.e a0)) (.pf (lvQ true a0.length fun j => (TApiCommitment.e (a0.getD j default)))) <|
.br true (.pf (p := true = true) rfl) <|
.reg 2 [] [] [] <|
.lev 2 (AV.d (eL TApiCommitment.e a0)) (.der (fun (h : a0.length = 0) => lvZ TApiCommitment.e a0 h) 1) <|
.ret [] a0) (
.reg 1 [] [] [] <|
.lev 0 (AV.d (eL TApiCommitment.e a0)) (.pf (lvQ false a0.length fun j => (TApiCommitment.e (a0.getD j default)))) <|
.br false (.pf (p := false = false) rfl) <|
.guard [(0 + a0.length) * (2 * 56) ≤ 2 ^ 48] <|
.reg 3 [] [(2, hv (AV.d (eL TApiCommitment.e a0)))] [.pf (p := ∀ k, k < a0.length → AV.d (TApiCommitment.e (a0.getD k default)) = AV.d (TApiCommitment.e (a0.getD k default)) ∧ (TApiCommitment.e (a0.getD k default)).wd = 7) (fun _ _ => ⟨rfl, rfl⟩), .pf cz7, .ev 0, .pf (leV_app0 (e := TApiCommitment.e) (x := a0))] <|
.ret [] a0)
noncomputable def F_slices_Clone_Commitment (a0 : (List TApiCommitment)) : Option R_slices_Clone_Commitment := (S_slices_Clone_Commitment a0).den
set_option maxRecDepth 100000 in
theorem F_slices_Clone_Commitment_ok {a0 : (List TApiCommitment)} (r : R_slices_Clone_Commitment) (h : F_slices_Clone_Commitment a0 = some r) : CallOk Tryz.prog 69 [(AV.d (eL TApiCommitment.e a0))] [] (V_slices_Clone_Commitment r) (L_slices_Clone_Commitment r) := fOk (s := S_slices_Clone_Commitment a0) Tryz.func69 rfl (by kernel_rfl) h
/-! 70 -/
theorem cz8 : ∀ k, k < 0 → (DV.b false).wd = 4 := fun _ h => absurd h (Nat.not_lt_zero _)
abbrev R_slices_Clone_Verification := (List TApiVerification)
def V_slices_Clone_Verification (x : R_slices_Clone_Verification) : AV := (AV.d (eL TApiVerification.e x))
def L_slices_Clone_Verification (_ : R_slices_Clone_Verification) : List Ob := []
noncomputable def S_slices_Clone_Verification (a0 : (List TApiVerification)) : Scr Tryz.prog R_slices_Clone_Verification R_slices_Clone_Verification :=
.reg 0 [] [] [] <|
.nils 0 (
.guard [(0 + a0.length) * (2 * 32) ≤ 2 ^ 48] <|
.reg 1 [] [] [] <|
.lev 0 (AV.d (eL TApiVerification.e a0)) (.pf (lvQ true a0.length fun j => (TApiVerification.e (a0.getD j default)))) <|
.br true (.pf (p := true = true) rfl) <|
.reg 2 [] [] [] <|
.lev 2 (AV.d (eL TApiVerification.e a0)) (.der (fun (h : a0.length = 0) => lvZ TApiVerification.e a0 h) 1) <|
.ret [] a0) (
.reg 1 [] [] [] <|
.lev 0 (AV.d (eL TApiVerification.e a0)) (.pf (lvQ false a0.length fun j => (TApiVerification.e (a0.getD j default)))) <|
.br false (.pf (p := false = false) rfl) <|
.guard [(0 + a0.length) * (2 * 32) ≤ 2 ^ 48] <|
.reg 3 [] [(2, hv (AV.d (eL TApiVerification.e a0)))] [.pf (p := ∀ k, k < a0.length → AV.d (TApiVerification.e (a0.getD k default)) = AV.d (TApiVerification.e (a0.getD k default)) ∧ (TApiVerification.e (a0.getD k default)).wd = 4) (fun _ _ => ⟨rfl, rfl⟩), .pf cz8, .ev 0, .pf (leV_app0 (e := TApiVerification.e) (x := a0))] <|
.ret [] a0)
noncomputable def F_slices_Clone_Verification (a0 : (List TApiVerification)) : Option R_slices_Clone_Verification := (S_slices_Clone_Verification a0).den
set_option maxRecDepth 100000 in
theorem F_slices_Clone_Verification_ok {a0 : (List TApiVerification)} (r : R_slices_Clone_Verification) (h : F_slices_Clone_Verification a0 = some r) : CallOk Tryz.prog 70 [(AV.d (eL TApiVerification.e a0))] [] (V_slices_Clone_Verification r) (L_slices_Clone_Verification r) := fOk (s := S_slices_Clone_Verification a0) Tryz.func70 rfl (by kernel_rfl) h
/-! 71 -/
abbrev R_slices_Clone_Order := (List TApiOrder)
def V_slices_Clone_Order (x : R_slices_Clone_Order) : AV := (AV.d (eL TApiOrder.e x))
def L_slices_Clone_Order (_ : R_slices_Clone_Order) : List Ob := []
noncomputable def S_slices_Clone_Order (a0 : (List TApiOrder)) : Scr Tryz.prog R_slices_Clone_Order R_slices_Clone_Order :=
.reg 0 [] [] [] <|
.nils 0 (
.guard [(0 + a0.length) * (2 * 40) ≤ 2 ^ 48] <|
.reg 1 [] [] [] <|
.lev 0 (AV.d (eL TApiOrder.e a0)) (.pf (lvQ true a0.length fun j => (TApiOrder.e (a0.getD j default)))) <|
.br true (.pf (p := true = true) rfl) <|
.reg 2 [] [] [] <|
.lev 2 (AV.d (eL TApiOrder.e a0)) (.der (fun (h : a0.length = 0) => lvZ TApiOrder.e a0 h) 1) <|
.ret [] a0) (
.reg 1 [] [] [] <|
.lev 0 (AV.d (eL TApiOrder.e a0)) (.pf (lvQ false a0.length fun j => (TApiOrder.e (a0.getD j default)))) <|
.br false (.pf (p := false = false) rfl) <|
.guard [(0 + a0.length) * (2 * 40) ≤ 2 ^ 48] <|
.reg 3 [] [(2, hv (AV.d (eL TApiOrder.e a0)))] [.pf (p := ∀ k, k < a0.length → AV.d (TApiOrder.e (a0.getD k default)) = AV.d (TApiOrder.e (a0.getD k default)) ∧ (TApiOrder.e (a0.getD k default)).wd = 5) (fun _ _ => ⟨rfl, rfl⟩), .pf cz5, .ev 0, .pf (leV_app0 (e := TApiOrder.e) (x := a0))] <|
.ret [] a0)
noncomputable def F_slices_Clone_Order (a0 : (List TApiOrder)) : Option R_slices_Clone_Order := (S_slices_Clone_Order a0).den
set_option maxRecDepth 100000 in
theorem F_slices_Clone_Order_ok {a0 : (List TApiOrder)} (r : R_slices_Clone_Order) (h : F_slices_Clone_Order a0 = some r) : CallOk Tryz.prog 71 [(AV.d (eL TApiOrder.e a0))] [] (V_slices_Clone_Order r) (L_slices_Clone_Order r) := fOk (s := S_slices_Clone_Order a0) Tryz.func71 rfl (by kernel_rfl) h
/-! 36 -/
abbrev R_office_fresh := TApiOffice × Int
def V_office_fresh (x : R_office_fresh) : AV := (AV.tup [(AV.d (TApiOffice.e x.1)), (vi x.2)])
def L_office_fresh (_ : R_office_fresh) : List Ob := []
noncomputable def S_office_fresh (a0 : TApiOffice) (a1 : Int) : Scr Tryz.prog R_office_fresh R_office_fresh :=
.reg 0 [] [(1, { obs := [(1, (bx (TApiOffice.e (⟨0, [], (⟨[], [], [], []⟩ : TApiBook)⟩ : TApiOffice))))] })] [.pf cz1] <|
.call (@F_slices_Clone_Right_ok a0.Rights) fun rv1 cv1 =>
.reg 2 [] [(2, hc cv1 [] true)] [.cl 0 cv1 [] 2 true] <|
.call (@F_slices_Clone_Reservation_ok a0.Book.Reservations) fun rv2 cv2 =>
.call (@F_slices_Clone_Commitment_ok a0.Book.Commitments) fun rv3 cv3 =>
.call (@F_slices_Clone_Verification_ok a0.Book.Verifications) fun rv4 cv4 =>
.call (@F_slices_Clone_Order_ok a0.Book.Orders) fun rv5 cv5 =>
.reg 3 [26, 29, 32, 35] [(8, hc cv2 [] true), (13, hc cv3 [] true), (18, hc cv4 [] true), (23, hc cv5 [] true)] [.cl 3 cv2 [] 2 true, .cl 2 cv3 [] 2 true, .cl 1 cv4 [] 2 true, .cl 0 cv5 [] 2 true] <|
.ret [] ((⟨a0.Number, rv1, (⟨rv2, rv3, rv4, rv5⟩ : TApiBook)⟩ : TApiOffice), a1)
noncomputable def F_office_fresh (a0 : TApiOffice) (a1 : Int) : Option R_office_fresh := (S_office_fresh a0 a1).den
set_option maxRecDepth 100000 in
theorem F_office_fresh_ok {a0 : TApiOffice} {a1 : Int} (r : R_office_fresh) (h : F_office_fresh a0 a1 = some r) : CallOk Tryz.prog 36 [(AV.d (TApiOffice.e a0)), (vi a1)] [] (V_office_fresh r) (L_office_fresh r) := fOk (s := S_office_fresh a0 a1) Tryz.func36 rfl (by kernel_rfl) h
/-! 11 -/
abbrev R_office_Do := TApiOffice × Int
def V_office_Do (x : R_office_Do) : AV := (AV.tup [(AV.d (TApiOffice.e x.1)), (vi x.2)])
def L_office_Do (_ : R_office_Do) : List Ob := []
noncomputable def S_office_Do (a0 : TApiOffice) (a1 : TApiOp) : Scr Tryz.prog R_office_Do R_office_Do :=
.reg 0 [] [(2, { obs := [(2, (bx (TApiOffice.e (⟨0, [], (⟨[], [], [], []⟩ : TApiBook)⟩ : TApiOffice))))] })] [.pf cz1] <|
.call (@F_office_Valid_ok a0) fun rv1 cv1 =>
.reg 1 [] [(1, hc cv1 [] true)] [.cl 0 cv1 [] 3 true] <|
.ite (bif (bif (!rv1) then true else (decide (a1.Kind < 1))) then true else (decide (a1.Kind > 9))) (
.reg 2 [] [(0, hv (AV.d (TApiOffice.e (⟨0, [], (⟨[], [], [], []⟩ : TApiBook)⟩ : TApiOffice))))] [.pf cz2] <|
.ret [] ((⟨0, [], (⟨[], [], [], []⟩ : TApiBook)⟩ : TApiOffice), 1)) (
.call (@F_office_Step_ok a0 a1) fun rv2 cv2 =>
.call (@F_office_fresh_ok rv2.1 rv2.2) fun rv3 cv3 =>
.reg 3 [] [(2, hc cv2 [] true), (5, hc cv3 [] true)] [.cl 1 cv2 [] 3 true, .cl 0 cv3 [] 3 true] <|
.ret [] (rv3.1, rv3.2))
noncomputable def F_office_Do (a0 : TApiOffice) (a1 : TApiOp) : Option R_office_Do := (S_office_Do a0 a1).den
set_option maxRecDepth 100000 in
theorem F_office_Do_ok {a0 : TApiOffice} {a1 : TApiOp} (r : R_office_Do) (h : F_office_Do a0 a1 = some r) : CallOk Tryz.prog 11 [(AV.d (TApiOffice.e a0)), (AV.d (TApiOp.e a1))] [] (V_office_Do r) (L_office_Do r) := fOk (s := S_office_Do a0 a1) Tryz.func11 rfl (by kernel_rfl) h
/-! 89 -/
abbrev R_r03_Good := Bool
def V_r03_Good (x : R_r03_Good) : AV := (vb x)
def L_r03_Good (_ : R_r03_Good) : List Ob := []
noncomputable def S_r03_Good_b1 (a0 : List UInt8) (sv1 : Int × Int × Int) : Scr Tryz.prog R_r03_Good (Step (Int × Int × Int) R_r03_Good) :=
.ite (decide (sv1.2.2 < (a0.length : Int))) (
.guard [(0 : Int) ≤ sv1.2.2, (sv1.2.2).toNat < a0.length] <|
.reg 6 [] [] [.ev 0, .ev 1] <|
.ite (((a0.getD ((sv1.2.2).toNat) 0).toNat : Int) == 46) (
.ite (sv1.1 == 0) (
.ret [] (.ret false)) (
.ret [] (.cont (0, (IntKind.i64.wrap (sv1.2.1 + 1)), (IntKind.i64.wrap (sv1.2.2 + 1)))))) (
.guard [AllP [(decide (((a0.getD ((sv1.2.2).toNat) 0).toNat : Int) < 48)) = false] → ((0 : Int) ≤ sv1.2.2), AllP [(decide (((a0.getD ((sv1.2.2).toNat) 0).toNat : Int) < 48)) = false] → ((sv1.2.2).toNat < a0.length), AllP [(sv1.1 == 0) = true, (bif (decide (((a0.getD ((sv1.2.2).toNat) 0).toNat : Int) < 48)) then true else (decide (((a0.getD ((sv1.2.2).toNat) 0).toNat : Int) > 57))) = false] → ((0 : Int) ≤ sv1.2.2), AllP [(sv1.1 == 0) = true, (bif (decide (((a0.getD ((sv1.2.2).toNat) 0).toNat : Int) < 48)) then true else (decide (((a0.getD ((sv1.2.2).toNat) 0).toNat : Int) > 57))) = false] → ((sv1.2.2).toNat < a0.length)] <|
.reg 11 [] [] [.ev 5, .ev 6, .ev 0, .ev 1, .ev 2, .ev 3] <|
.ite (bif (bif (bif (decide (((a0.getD ((sv1.2.2).toNat) 0).toNat : Int) < 48)) then true else (decide (((a0.getD ((sv1.2.2).toNat) 0).toNat : Int) > 57))) then true else (bif (sv1.1 == 0) then (((a0.getD ((sv1.2.2).toNat) 0).toNat : Int) == 48) else false)) then true else (sv1.1 == 2)) (
.ret [] (.ret false)) (
.ret [] (.cont ((IntKind.i64.wrap (sv1.1 + 1)), sv1.2.1, (IntKind.i64.wrap (sv1.2.2 + 1))))))) (
.ret [] (.brk (sv1.1, sv1.2.1, sv1.2.2)))
noncomputable def S_r03_Good (a0 : List UInt8) : Scr Tryz.prog R_r03_Good R_r03_Good :=
.iter [0] (fun (sv1 : Int × Int × Int) => [(3, (vi sv1.1)), (4, (vi sv1.2.1)), (5, (vi sv1.2.2))]) (fun (_ : Int × Int × Int) => []) (0, 1, 0) (S_r03_Good_b1 a0) (fun (sv1 : Int × Int × Int) =>
.ret [] (bif (decide (sv1.1 > 0)) then (decide (sv1.2.1 ≤ 4)) else false)) id
noncomputable def F_r03_Good (a0 : List UInt8) : Option R_r03_Good := (S_r03_Good a0).den
set_option maxRecDepth 100000 in
theorem F_r03_Good_ok {a0 : List UInt8} (r : R_r03_Good) (h : F_r03_Good a0 = some r) : CallOk Tryz.prog 89 [(AV.d (DV.str a0))] [] (V_r03_Good r) (L_r03_Good r) := fOk (s := S_r03_Good a0) Tryz.func89 rfl (by kernel_rfl) h
/-! 96 -/
abbrev R_r14_day := Bool
def V_r14_day (x : R_r14_day) : AV := (vb x)
def L_r14_day (_ : R_r14_day) : List Ob := []
noncomputable def S_r14_day (a0 : Int) : Scr Tryz.prog R_r14_day R_r14_day :=
.ret [] (bif (decide (a0 ≥ 0)) then (decide (a0 ≤ 35990)) else false)
noncomputable def F_r14_day (a0 : Int) : Option R_r14_day := (S_r14_day a0).den
set_option maxRecDepth 100000 in
theorem F_r14_day_ok {a0 : Int} (r : R_r14_day) (h : F_r14_day a0 = some r) : CallOk Tryz.prog 96 [(vi a0)] [] (V_r14_day r) (L_r14_day r) := fOk (s := S_r14_day a0) Tryz.func96 rfl (by kernel_rfl) h
/-! 129 -/
abbrev R_r02_Valid := Bool
def V_r02_Valid (x : R_r02_Valid) : AV := (vb x)
def L_r02_Valid (_ : R_r02_Valid) : List Ob := []
noncomputable def S_r02_Valid (a0 : Int) : Scr Tryz.prog R_r02_Valid R_r02_Valid :=
.ret [] (bif (decide (a0 ≥ 0)) then (decide (a0 ≤ 36000)) else false)
noncomputable def F_r02_Valid (a0 : Int) : Option R_r02_Valid := (S_r02_Valid a0).den
set_option maxRecDepth 100000 in
theorem F_r02_Valid_ok {a0 : Int} (r : R_r02_Valid) (h : F_r02_Valid a0 = some r) : CallOk Tryz.prog 129 [(vi a0)] [] (V_r02_Valid r) (L_r02_Valid r) := fOk (s := S_r02_Valid a0) Tryz.func129 rfl (by kernel_rfl) h
/-! 98 -/
abbrev R_r02_Year := Int
def V_r02_Year (x : R_r02_Year) : AV := (vi x)
def L_r02_Year (_ : R_r02_Year) : List Ob := []
noncomputable def S_r02_Year (a0 : Int) : Scr Tryz.prog R_r02_Year R_r02_Year :=
.call (@F_r02_Valid_ok a0) fun rv1 cv1 =>
.reg 1 [] [(1, hc cv1 [] true)] [.cl 0 cv1 [] 0 true] <|
.ite (!rv1) (
.ret [] (-1)) (
.reg 3 [] [] [.pf (p := (360 : Int) ≠ 0) (by decide)] <|
.ret [] (IntKind.i64.wrap (a0.tdiv 360)))
noncomputable def F_r02_Year (a0 : Int) : Option R_r02_Year := (S_r02_Year a0).den
set_option maxRecDepth 100000 in
theorem F_r02_Year_ok {a0 : Int} (r : R_r02_Year) (h : F_r02_Year a0 = some r) : CallOk Tryz.prog 98 [(vi a0)] [] (V_r02_Year r) (L_r02_Year r) := fOk (s := S_r02_Year a0) Tryz.func98 rfl (by kernel_rfl) h
/-! 97 -/
abbrev R_r14_amount := Bool
def V_r14_amount (x : R_r14_amount) : AV := (vb x)
def L_r14_amount (_ : R_r14_amount) : List Ob := []
noncomputable def S_r14_amount (a0 : Int) : Scr Tryz.prog R_r14_amount R_r14_amount :=
.ret [] (bif (decide (a0 ≥ 1)) then (decide (a0 ≤ 1000000000000)) else false)
noncomputable def F_r14_amount (a0 : Int) : Option R_r14_amount := (S_r14_amount a0).den
set_option maxRecDepth 100000 in
theorem F_r14_amount_ok {a0 : Int} (r : R_r14_amount) (h : F_r14_amount a0 = some r) : CallOk Tryz.prog 97 [(vi a0)] [] (V_r14_amount r) (L_r14_amount r) := fOk (s := S_r14_amount a0) Tryz.func97 rfl (by kernel_rfl) h
/-! 86 -/
abbrev R_r14_reservations := Bool
def V_r14_reservations (x : R_r14_reservations) : AV := (vb x)
def L_r14_reservations (_ : R_r14_reservations) : List Ob := []
noncomputable def S_r14_reservations_b1 (a0 : TApiBook) (iv1 : Nat) (_ : Unit) : Scr Tryz.prog R_r14_reservations (Step (Unit) R_r14_reservations) :=
.reg 3 [] [] [.pf (nn iv1), .ev 0] <|
.calld [(((a0.Reservations.getD iv1 default).Number) != (IntKind.i64.wrap ((iv1 : Int) + 1))) = false] default (@F_r03_Good_ok ((a0.Reservations.getD iv1 default).Code)) fun rv2 cv2 =>
.calld [(bif (bif (bif (((a0.Reservations.getD iv1 default).Number) != (IntKind.i64.wrap ((iv1 : Int) + 1))) then true else (!rv2)) then true else (decide (((a0.Reservations.getD iv1 default).Year) < 0))) then true else (decide (((a0.Reservations.getD iv1 default).Year) > 99))) = false] default (@F_r14_day_ok ((a0.Reservations.getD iv1 default).Day)) fun rv3 cv3 =>
.calld [(bif (bif (bif (bif (((a0.Reservations.getD iv1 default).Number) != (IntKind.i64.wrap ((iv1 : Int) + 1))) then true else (!rv2)) then true else (decide (((a0.Reservations.getD iv1 default).Year) < 0))) then true else (decide (((a0.Reservations.getD iv1 default).Year) > 99))) then true else (!rv3)) = false] default (@F_r02_Year_ok ((a0.Reservations.getD iv1 default).Day)) fun rv4 cv4 =>
.calld [(bif (bif (bif (bif (bif (((a0.Reservations.getD iv1 default).Number) != (IntKind.i64.wrap ((iv1 : Int) + 1))) then true else (!rv2)) then true else (decide (((a0.Reservations.getD iv1 default).Year) < 0))) then true else (decide (((a0.Reservations.getD iv1 default).Year) > 99))) then true else (!rv3)) then true else (rv4 != ((a0.Reservations.getD iv1 default).Year))) = false] default (@F_r14_amount_ok ((a0.Reservations.getD iv1 default).Amount)) fun rv5 cv5 =>
.reg 4 [] [(8, hc cv2 [] true), (24, hc cv3 [] true), (30, hc cv4 [] true), (38, hc cv5 [] true)] [.clg 6 [(((a0.Reservations.getD iv1 default).Number) != (IntKind.i64.wrap ((iv1 : Int) + 1))) = false] cv2 [] 2 true, .clg 4 [(bif (bif (bif (((a0.Reservations.getD iv1 default).Number) != (IntKind.i64.wrap ((iv1 : Int) + 1))) then true else (!rv2)) then true else (decide (((a0.Reservations.getD iv1 default).Year) < 0))) then true else (decide (((a0.Reservations.getD iv1 default).Year) > 99))) = false] cv3 [] 2 true, .clg 2 [(bif (bif (bif (bif (((a0.Reservations.getD iv1 default).Number) != (IntKind.i64.wrap ((iv1 : Int) + 1))) then true else (!rv2)) then true else (decide (((a0.Reservations.getD iv1 default).Year) < 0))) then true else (decide (((a0.Reservations.getD iv1 default).Year) > 99))) then true else (!rv3)) = false] cv4 [] 2 true, .clg 0 [(bif (bif (bif (bif (bif (((a0.Reservations.getD iv1 default).Number) != (IntKind.i64.wrap ((iv1 : Int) + 1))) then true else (!rv2)) then true else (decide (((a0.Reservations.getD iv1 default).Year) < 0))) then true else (decide (((a0.Reservations.getD iv1 default).Year) > 99))) then true else (!rv3)) then true else (rv4 != ((a0.Reservations.getD iv1 default).Year))) = false] cv5 [] 2 true] <|
.ite (bif (bif (bif (bif (bif (bif (bif (bif (((a0.Reservations.getD iv1 default).Number) != (IntKind.i64.wrap ((iv1 : Int) + 1))) then true else (!rv2)) then true else (decide (((a0.Reservations.getD iv1 default).Year) < 0))) then true else (decide (((a0.Reservations.getD iv1 default).Year) > 99))) then true else (!rv3)) then true else (rv4 != ((a0.Reservations.getD iv1 default).Year))) then true else (!rv5)) then true else (decide (((a0.Reservations.getD iv1 default).Released) < 0))) then true else (decide (((a0.Reservations.getD iv1 default).Released) > ((a0.Reservations.getD iv1 default).Amount)))) (
.ret [] (.ret false)) (
.ret [] (.cont ()))
noncomputable def S_r14_reservations (a0 : TApiBook) : Scr Tryz.prog R_r14_reservations R_r14_reservations :=
.range (a0.Reservations.length : Int) a0.Reservations.length rfl (.slot 6) 8 [6, 7] (fun (_ : Unit) => []) (fun (_ : Unit) => []) () (S_r14_reservations_b1 a0) (fun (_ : Unit) => 
.ret [] true) id
noncomputable def F_r14_reservations (a0 : TApiBook) : Option R_r14_reservations := (S_r14_reservations a0).den
set_option maxRecDepth 100000 in
theorem F_r14_reservations_ok {a0 : TApiBook} (r : R_r14_reservations) (h : F_r14_reservations a0 = some r) : CallOk Tryz.prog 86 [(AV.d (TApiBook.e a0))] [] (V_r14_reservations r) (L_r14_reservations r) := fOk (s := S_r14_reservations a0) Tryz.func86 rfl (by kernel_rfl) h
/-! 100 -/
abbrev R_r14_Left := Int
def V_r14_Left (x : R_r14_Left) : AV := (vi x)
def L_r14_Left (_ : R_r14_Left) : List Ob := []
noncomputable def S_r14_Left_b1 (a0 : TApiBook) (a1 : Int) (iv1 : Nat) (sv2 : Int) : Scr Tryz.prog R_r14_Left (Step (Int) R_r14_Left) :=
.reg 8 [] [] [.pf (nn iv1), .ev 0] <|
.ite (((a0.Commitments.getD iv1 default).Reservation) == a1) (
.ret [] (.cont (IntKind.i64.wrap (sv2 - ((a0.Commitments.getD iv1 default).Amount))))) (
.ret [] (.cont sv2))
noncomputable def S_r14_Left_b2 (a0 : TApiBook) (a1 : Int) (iv3 : Nat) (_ : Unit) : Scr Tryz.prog R_r14_Left (Step (Unit) R_r14_Left) :=
.reg 3 [] [] [.pf (nn iv3), .ev 0] <|
.ite (((a0.Reservations.getD iv3 default).Number) == a1) (
.range (a0.Commitments.length : Int) a0.Commitments.length rfl (.slot 27) 29 [1, 27, 28] (fun (sv2 : Int) => [(7, (vi sv2))]) (fun (_ : Int) => []) (IntKind.i64.wrap (((a0.Reservations.getD iv3 default).Amount) - ((a0.Reservations.getD iv3 default).Released))) (S_r14_Left_b1 a0 a1) (fun (sv2 : Int) => 
.ret [] (.ret sv2)) .ret) (
.ret [] (.cont ()))
noncomputable def S_r14_Left (a0 : TApiBook) (a1 : Int) : Scr Tryz.prog R_r14_Left R_r14_Left :=
.range (a0.Reservations.length : Int) a0.Reservations.length rfl (.slot 11) 13 [1, 2, 11, 12] (fun (_ : Unit) => []) (fun (_ : Unit) => []) () (S_r14_Left_b2 a0 a1) (fun (_ : Unit) => 
.ret [] 0) id
noncomputable def F_r14_Left (a0 : TApiBook) (a1 : Int) : Option R_r14_Left := (S_r14_Left a0 a1).den
set_option maxRecDepth 100000 in
theorem F_r14_Left_ok {a0 : TApiBook} {a1 : Int} (r : R_r14_Left) (h : F_r14_Left a0 a1 = some r) : CallOk Tryz.prog 100 [(AV.d (TApiBook.e a0)), (vi a1)] [] (V_r14_Left r) (L_r14_Left r) := fOk (s := S_r14_Left a0 a1) Tryz.func100 rfl (by kernel_rfl) h
/-! 87 -/
abbrev R_r14_commitments := Bool
def V_r14_commitments (x : R_r14_commitments) : AV := (vb x)
def L_r14_commitments (_ : R_r14_commitments) : List Ob := []
noncomputable def S_r14_commitments_b1 (a0 : TApiBook) (iv1 : Nat) (_ : Unit) : Scr Tryz.prog R_r14_commitments (Step (Unit) R_r14_commitments) :=
.reg 3 [] [] [.pf (nn iv1), .ev 0] <|
.calld [(bif (bif (((a0.Commitments.getD iv1 default).Number) != (IntKind.i64.wrap ((iv1 : Int) + 1))) then true else (decide (((a0.Commitments.getD iv1 default).Reservation) < 1))) then true else (decide (((a0.Commitments.getD iv1 default).Reservation) > (a0.Reservations.length : Int)))) = false] default (@F_r14_day_ok ((a0.Commitments.getD iv1 default).Day)) fun rv2 cv2 =>
.calld [(bif (bif (bif (((a0.Commitments.getD iv1 default).Number) != (IntKind.i64.wrap ((iv1 : Int) + 1))) then true else (decide (((a0.Commitments.getD iv1 default).Reservation) < 1))) then true else (decide (((a0.Commitments.getD iv1 default).Reservation) > (a0.Reservations.length : Int)))) then true else (!rv2)) = false] default (@F_r14_amount_ok ((a0.Commitments.getD iv1 default).Amount)) fun rv3 cv3 =>
.calld [(bif (bif (bif (bif (bif (bif (bif (bif (((a0.Commitments.getD iv1 default).Number) != (IntKind.i64.wrap ((iv1 : Int) + 1))) then true else (decide (((a0.Commitments.getD iv1 default).Reservation) < 1))) then true else (decide (((a0.Commitments.getD iv1 default).Reservation) > (a0.Reservations.length : Int)))) then true else (!rv2)) then true else (!rv3)) then true else (decide (((a0.Commitments.getD iv1 default).Released) < 0))) then true else (decide (((a0.Commitments.getD iv1 default).Released) > ((a0.Commitments.getD iv1 default).Amount)))) then true else (decide (((a0.Commitments.getD iv1 default).Payee) < 1))) then true else (decide (((a0.Commitments.getD iv1 default).Payee) > 1000000))) = false] default (@F_r14_day_ok ((a0.Commitments.getD iv1 default).Due)) fun rv4 cv4 =>
.reg 4 [] [(21, hc cv2 [] true), (27, hc cv3 [] true), (55, hc cv4 [] true)] [.clg 4 [(bif (bif (((a0.Commitments.getD iv1 default).Number) != (IntKind.i64.wrap ((iv1 : Int) + 1))) then true else (decide (((a0.Commitments.getD iv1 default).Reservation) < 1))) then true else (decide (((a0.Commitments.getD iv1 default).Reservation) > (a0.Reservations.length : Int)))) = false] cv2 [] 2 true, .clg 2 [(bif (bif (bif (((a0.Commitments.getD iv1 default).Number) != (IntKind.i64.wrap ((iv1 : Int) + 1))) then true else (decide (((a0.Commitments.getD iv1 default).Reservation) < 1))) then true else (decide (((a0.Commitments.getD iv1 default).Reservation) > (a0.Reservations.length : Int)))) then true else (!rv2)) = false] cv3 [] 2 true, .clg 0 [(bif (bif (bif (bif (bif (bif (bif (bif (((a0.Commitments.getD iv1 default).Number) != (IntKind.i64.wrap ((iv1 : Int) + 1))) then true else (decide (((a0.Commitments.getD iv1 default).Reservation) < 1))) then true else (decide (((a0.Commitments.getD iv1 default).Reservation) > (a0.Reservations.length : Int)))) then true else (!rv2)) then true else (!rv3)) then true else (decide (((a0.Commitments.getD iv1 default).Released) < 0))) then true else (decide (((a0.Commitments.getD iv1 default).Released) > ((a0.Commitments.getD iv1 default).Amount)))) then true else (decide (((a0.Commitments.getD iv1 default).Payee) < 1))) then true else (decide (((a0.Commitments.getD iv1 default).Payee) > 1000000))) = false] cv4 [] 2 true] <|
.ite (bif (bif (bif (bif (bif (bif (bif (bif (bif (((a0.Commitments.getD iv1 default).Number) != (IntKind.i64.wrap ((iv1 : Int) + 1))) then true else (decide (((a0.Commitments.getD iv1 default).Reservation) < 1))) then true else (decide (((a0.Commitments.getD iv1 default).Reservation) > (a0.Reservations.length : Int)))) then true else (!rv2)) then true else (!rv3)) then true else (decide (((a0.Commitments.getD iv1 default).Released) < 0))) then true else (decide (((a0.Commitments.getD iv1 default).Released) > ((a0.Commitments.getD iv1 default).Amount)))) then true else (decide (((a0.Commitments.getD iv1 default).Payee) < 1))) then true else (decide (((a0.Commitments.getD iv1 default).Payee) > 1000000))) then true else (!rv4)) (
.ret [] (.ret false)) (
.guard [(0 : Int) ≤ (IntKind.i64.wrap (((a0.Commitments.getD iv1 default).Reservation) - 1)), ((IntKind.i64.wrap (((a0.Commitments.getD iv1 default).Reservation) - 1))).toNat < a0.Reservations.length] <|
.reg 6 [] [] [.ev 0, .ev 1] <|
.calld [(decide (((a0.Commitments.getD iv1 default).Day) < ((a0.Reservations.getD (((IntKind.i64.wrap (((a0.Commitments.getD iv1 default).Reservation) - 1))).toNat) default).Day))) = false] default (@F_r02_Year_ok ((a0.Commitments.getD iv1 default).Day)) fun rv5 cv5 =>
.reg 7 [] [(8, hc cv5 [] true)] [.clg 0 [(decide (((a0.Commitments.getD iv1 default).Day) < ((a0.Reservations.getD (((IntKind.i64.wrap (((a0.Commitments.getD iv1 default).Reservation) - 1))).toNat) default).Day))) = false] cv5 [] 3 true] <|
.ite (bif (decide (((a0.Commitments.getD iv1 default).Day) < ((a0.Reservations.getD (((IntKind.i64.wrap (((a0.Commitments.getD iv1 default).Reservation) - 1))).toNat) default).Day))) then true else (rv5 != ((a0.Reservations.getD (((IntKind.i64.wrap (((a0.Commitments.getD iv1 default).Reservation) - 1))).toNat) default).Year))) (
.ret [] (.ret false)) (
.ret [] (.cont ())))
noncomputable def S_r14_commitments_b2 (a0 : TApiBook) (iv6 : Nat) (_ : Unit) : Scr Tryz.prog R_r14_commitments (Step (Unit) R_r14_commitments) :=
.reg 12 [] [] [.pf (nn iv6), .ev 0] <|
.call (@F_r14_Left_ok a0 ((a0.Reservations.getD iv6 default).Number)) fun rv7 cv7 =>
.reg 13 [] [(3, hc cv7 [] true)] [.cl 0 cv7 [] 2 true] <|
.ite (decide (rv7 < 0)) (
.ret [] (.ret false)) (
.ret [] (.cont ()))
noncomputable def S_r14_commitments (a0 : TApiBook) : Scr Tryz.prog R_r14_commitments R_r14_commitments :=
.range (a0.Commitments.length : Int) a0.Commitments.length rfl (.slot 9) 11 [1, 9, 10] (fun (_ : Unit) => []) (fun (_ : Unit) => []) () (S_r14_commitments_b1 a0) (fun (_ : Unit) => 
.range (a0.Reservations.length : Int) a0.Reservations.length rfl (.slot 96) 98 [1, 96, 97] (fun (_ : Unit) => []) (fun (_ : Unit) => []) () (S_r14_commitments_b2 a0) (fun (_ : Unit) => 
.ret [] true) id) id
noncomputable def F_r14_commitments (a0 : TApiBook) : Option R_r14_commitments := (S_r14_commitments a0).den
set_option maxRecDepth 100000 in
theorem F_r14_commitments_ok {a0 : TApiBook} (r : R_r14_commitments) (h : F_r14_commitments a0 = some r) : CallOk Tryz.prog 87 [(AV.d (TApiBook.e a0))] [] (V_r14_commitments r) (L_r14_commitments r) := fOk (s := S_r14_commitments a0) Tryz.func87 rfl (by kernel_rfl) h
/-! 101 -/
abbrev R_r14_year := Int
def V_r14_year (x : R_r14_year) : AV := (vi x)
def L_r14_year (_ : R_r14_year) : List Ob := []
noncomputable def S_r14_year (a0 : TApiBook) (a1 : Int) : Scr Tryz.prog R_r14_year R_r14_year :=
.guard [(0 : Int) ≤ (IntKind.i64.wrap (a1 - 1)), ((IntKind.i64.wrap (a1 - 1))).toNat < a0.Commitments.length, (0 : Int) ≤ (IntKind.i64.wrap (((a0.Commitments.getD (((IntKind.i64.wrap (a1 - 1))).toNat) default).Reservation) - 1)), ((IntKind.i64.wrap (((a0.Commitments.getD (((IntKind.i64.wrap (a1 - 1))).toNat) default).Reservation) - 1))).toNat < a0.Reservations.length] <|
.reg 1 [] [] [.ev 0, .ev 1, .ev 2, .ev 3] <|
.ret [] ((a0.Reservations.getD (((IntKind.i64.wrap (((a0.Commitments.getD (((IntKind.i64.wrap (a1 - 1))).toNat) default).Reservation) - 1))).toNat) default).Year)
noncomputable def F_r14_year (a0 : TApiBook) (a1 : Int) : Option R_r14_year := (S_r14_year a0 a1).den
set_option maxRecDepth 100000 in
theorem F_r14_year_ok {a0 : TApiBook} {a1 : Int} (r : R_r14_year) (h : F_r14_year a0 a1 = some r) : CallOk Tryz.prog 101 [(AV.d (TApiBook.e a0)), (vi a1)] [] (V_r14_year r) (L_r14_year r) := fOk (s := S_r14_year a0 a1) Tryz.func101 rfl (by kernel_rfl) h
/-! 102 -/
abbrev R_r14_rest := Int
def V_r14_rest (x : R_r14_rest) : AV := (vi x)
def L_r14_rest (_ : R_r14_rest) : List Ob := []
noncomputable def S_r14_rest_b1 (a0 : TApiBook) (a1 : TApiCommitment) (iv1 : Nat) (sv2 : Int) : Scr Tryz.prog R_r14_rest (Step (Int) R_r14_rest) :=
.reg 4 [] [] [.pf (nn iv1), .ev 0] <|
.ite (((a0.Verifications.getD iv1 default).Commitment) == a1.Number) (
.ret [] (.cont (IntKind.i64.wrap (sv2 - ((a0.Verifications.getD iv1 default).Amount))))) (
.ret [] (.cont sv2))
noncomputable def S_r14_rest (a0 : TApiBook) (a1 : TApiCommitment) : Scr Tryz.prog R_r14_rest R_r14_rest :=
.range (a0.Verifications.length : Int) a0.Verifications.length rfl (.slot 14) 16 [3, 14, 15] (fun (sv2 : Int) => [(5, (vi sv2))]) (fun (_ : Int) => []) (IntKind.i64.wrap (a1.Amount - a1.Released)) (S_r14_rest_b1 a0 a1) (fun (sv2 : Int) => 
.ret [] sv2) id
noncomputable def F_r14_rest (a0 : TApiBook) (a1 : TApiCommitment) : Option R_r14_rest := (S_r14_rest a0 a1).den
set_option maxRecDepth 100000 in
theorem F_r14_rest_ok {a0 : TApiBook} {a1 : TApiCommitment} (r : R_r14_rest) (h : F_r14_rest a0 a1 = some r) : CallOk Tryz.prog 102 [(AV.d (TApiBook.e a0)), (AV.d (TApiCommitment.e a1))] [] (V_r14_rest r) (L_r14_rest r) := fOk (s := S_r14_rest a0 a1) Tryz.func102 rfl (by kernel_rfl) h
end Go.Proofs.YtbjbpoighbanfaaGreatDoor
/- What the functions compute, and that their calls return it. No condition. -/
namespace Go.Proofs.YtbjbpoighbanfaaGreatDoor
open Go Go.TA
/-! 88 -/
abbrev R_r14_orders := Bool
def V_r14_orders (x : R_r14_orders) : AV := (vb x)
def L_r14_orders (_ : R_r14_orders) : List Ob := []
noncomputable def S_r14_orders_b1 (a0 : TApiBook) (iv1 : Nat) (_ : Unit) : Scr Tryz.prog R_r14_orders (Step (Unit) R_r14_orders) :=
.reg 3 [] [] [.pf (nn iv1), .ev 0] <|
.calld [(bif (bif (((a0.Verifications.getD iv1 default).Number) != (IntKind.i64.wrap ((iv1 : Int) + 1))) then true else (decide (((a0.Verifications.getD iv1 default).Commitment) < 1))) then true else (decide (((a0.Verifications.getD iv1 default).Commitment) > (a0.Commitments.length : Int)))) = false] default (@F_r14_day_ok ((a0.Verifications.getD iv1 default).Day)) fun rv2 cv2 =>
.calld [(bif (bif (bif (((a0.Verifications.getD iv1 default).Number) != (IntKind.i64.wrap ((iv1 : Int) + 1))) then true else (decide (((a0.Verifications.getD iv1 default).Commitment) < 1))) then true else (decide (((a0.Verifications.getD iv1 default).Commitment) > (a0.Commitments.length : Int)))) then true else (!rv2)) = false] default (@F_r14_amount_ok ((a0.Verifications.getD iv1 default).Amount)) fun rv3 cv3 =>
.calld [(bif (bif (bif (bif (bif (((a0.Verifications.getD iv1 default).Number) != (IntKind.i64.wrap ((iv1 : Int) + 1))) then true else (decide (((a0.Verifications.getD iv1 default).Commitment) < 1))) then true else (decide (((a0.Verifications.getD iv1 default).Commitment) > (a0.Commitments.length : Int)))) then true else (!rv2)) then true else (!rv3)) then true else (decide (((a0.Verifications.getD iv1 default).Day) < ((a0.Commitments.getD (((IntKind.i64.wrap (((a0.Verifications.getD iv1 default).Commitment) - 1))).toNat) default).Day)))) = false] default (@F_r02_Year_ok ((a0.Verifications.getD iv1 default).Day)) fun rv4 cv4 =>
.calld [(bif (bif (bif (bif (bif (((a0.Verifications.getD iv1 default).Number) != (IntKind.i64.wrap ((iv1 : Int) + 1))) then true else (decide (((a0.Verifications.getD iv1 default).Commitment) < 1))) then true else (decide (((a0.Verifications.getD iv1 default).Commitment) > (a0.Commitments.length : Int)))) then true else (!rv2)) then true else (!rv3)) then true else (decide (((a0.Verifications.getD iv1 default).Day) < ((a0.Commitments.getD (((IntKind.i64.wrap (((a0.Verifications.getD iv1 default).Commitment) - 1))).toNat) default).Day)))) = false] default (@F_r14_year_ok a0 ((a0.Verifications.getD iv1 default).Commitment)) fun rv5 cv5 =>
.guard [AllP [(bif (bif (bif (bif (((a0.Verifications.getD iv1 default).Number) != (IntKind.i64.wrap ((iv1 : Int) + 1))) then true else (decide (((a0.Verifications.getD iv1 default).Commitment) < 1))) then true else (decide (((a0.Verifications.getD iv1 default).Commitment) > (a0.Commitments.length : Int)))) then true else (!rv2)) then true else (!rv3)) = false] → ((0 : Int) ≤ (IntKind.i64.wrap (((a0.Verifications.getD iv1 default).Commitment) - 1))), AllP [(bif (bif (bif (bif (((a0.Verifications.getD iv1 default).Number) != (IntKind.i64.wrap ((iv1 : Int) + 1))) then true else (decide (((a0.Verifications.getD iv1 default).Commitment) < 1))) then true else (decide (((a0.Verifications.getD iv1 default).Commitment) > (a0.Commitments.length : Int)))) then true else (!rv2)) then true else (!rv3)) = false] → (((IntKind.i64.wrap (((a0.Verifications.getD iv1 default).Commitment) - 1))).toNat < a0.Commitments.length)] <|
.reg 4 [] [(21, hc cv2 [] true), (27, hc cv3 [] true), (46, hc cv4 [] true), (50, hc cv5 [] true)] [.clg 8 [(bif (bif (((a0.Verifications.getD iv1 default).Number) != (IntKind.i64.wrap ((iv1 : Int) + 1))) then true else (decide (((a0.Verifications.getD iv1 default).Commitment) < 1))) then true else (decide (((a0.Verifications.getD iv1 default).Commitment) > (a0.Commitments.length : Int)))) = false] cv2 [] 2 true, .clg 6 [(bif (bif (bif (((a0.Verifications.getD iv1 default).Number) != (IntKind.i64.wrap ((iv1 : Int) + 1))) then true else (decide (((a0.Verifications.getD iv1 default).Commitment) < 1))) then true else (decide (((a0.Verifications.getD iv1 default).Commitment) > (a0.Commitments.length : Int)))) then true else (!rv2)) = false] cv3 [] 2 true, .ev 0, .ev 1, .clg 4 [(bif (bif (bif (bif (bif (((a0.Verifications.getD iv1 default).Number) != (IntKind.i64.wrap ((iv1 : Int) + 1))) then true else (decide (((a0.Verifications.getD iv1 default).Commitment) < 1))) then true else (decide (((a0.Verifications.getD iv1 default).Commitment) > (a0.Commitments.length : Int)))) then true else (!rv2)) then true else (!rv3)) then true else (decide (((a0.Verifications.getD iv1 default).Day) < ((a0.Commitments.getD (((IntKind.i64.wrap (((a0.Verifications.getD iv1 default).Commitment) - 1))).toNat) default).Day)))) = false] cv4 [] 2 true, .clg 2 [(bif (bif (bif (bif (bif (((a0.Verifications.getD iv1 default).Number) != (IntKind.i64.wrap ((iv1 : Int) + 1))) then true else (decide (((a0.Verifications.getD iv1 default).Commitment) < 1))) then true else (decide (((a0.Verifications.getD iv1 default).Commitment) > (a0.Commitments.length : Int)))) then true else (!rv2)) then true else (!rv3)) then true else (decide (((a0.Verifications.getD iv1 default).Day) < ((a0.Commitments.getD (((IntKind.i64.wrap (((a0.Verifications.getD iv1 default).Commitment) - 1))).toNat) default).Day)))) = false] cv5 [] 2 true] <|
.ite (bif (bif (bif (bif (bif (bif (((a0.Verifications.getD iv1 default).Number) != (IntKind.i64.wrap ((iv1 : Int) + 1))) then true else (decide (((a0.Verifications.getD iv1 default).Commitment) < 1))) then true else (decide (((a0.Verifications.getD iv1 default).Commitment) > (a0.Commitments.length : Int)))) then true else (!rv2)) then true else (!rv3)) then true else (decide (((a0.Verifications.getD iv1 default).Day) < ((a0.Commitments.getD (((IntKind.i64.wrap (((a0.Verifications.getD iv1 default).Commitment) - 1))).toNat) default).Day)))) then true else (decide (rv4 > (IntKind.i64.wrap (rv5 + 1))))) (
.ret [] (.ret false)) (
.ret [] (.cont ()))
noncomputable def S_r14_orders_b2 (a0 : TApiBook) (iv6 : Nat) (_ : Unit) : Scr Tryz.prog R_r14_orders (Step (Unit) R_r14_orders) :=
.reg 9 [] [] [.pf (nn iv6), .ev 0] <|
.call (@F_r14_rest_ok a0 (a0.Commitments.getD iv6 default)) fun rv7 cv7 =>
.reg 10 [] [(2, hc cv7 [] true)] [.cl 0 cv7 [] 2 true] <|
.ite (decide (rv7 < 0)) (
.ret [] (.ret false)) (
.ret [] (.cont ()))
noncomputable def S_r14_orders_b3 (a0 : TApiBook) (iv8 : Nat) (iv9 : Nat) (sv10 : Int) : Scr Tryz.prog R_r14_orders (Step (Int) R_r14_orders) :=
.reg 24 [] [] [.pf (nn iv9), .ev 0] <|
.ite ((((a0.Orders.take iv8).getD iv9 default).Verification) != ((a0.Orders.getD iv8 default).Verification)) (
.ret [] (.cont sv10)) (
.ite (bif (!(((a0.Orders.take iv8).getD iv9 default).Back)) then true else (decide ((((a0.Orders.take iv8).getD iv9 default).Day) > ((a0.Orders.getD iv8 default).Day)))) (
.ret [] (.ret false)) (
.ret [] (.cont (IntKind.i64.wrap (sv10 + 1)))))
noncomputable def S_r14_orders_b4 (a0 : TApiBook) (iv8 : Nat) (_ : Unit) : Scr Tryz.prog R_r14_orders (Step (Unit) R_r14_orders) :=
.reg 15 [] [] [.pf (nn iv8), .ev 0] <|
.calld [(bif (bif (((a0.Orders.getD iv8 default).Number) != (IntKind.i64.wrap ((iv8 : Int) + 1))) then true else (decide (((a0.Orders.getD iv8 default).Verification) < 1))) then true else (decide (((a0.Orders.getD iv8 default).Verification) > (a0.Verifications.length : Int)))) = false] default (@F_r14_day_ok ((a0.Orders.getD iv8 default).Day)) fun rv11 cv11 =>
.reg 16 [] [(21, hc cv11 [] true)] [.clg 0 [(bif (bif (((a0.Orders.getD iv8 default).Number) != (IntKind.i64.wrap ((iv8 : Int) + 1))) then true else (decide (((a0.Orders.getD iv8 default).Verification) < 1))) then true else (decide (((a0.Orders.getD iv8 default).Verification) > (a0.Verifications.length : Int)))) = false] cv11 [] 2 true] <|
.ite (bif (bif (bif (((a0.Orders.getD iv8 default).Number) != (IntKind.i64.wrap ((iv8 : Int) + 1))) then true else (decide (((a0.Orders.getD iv8 default).Verification) < 1))) then true else (decide (((a0.Orders.getD iv8 default).Verification) > (a0.Verifications.length : Int)))) then true else (!rv11)) (
.ret [] (.ret false)) (
.guard [(0 : Int) ≤ (IntKind.i64.wrap (((a0.Orders.getD iv8 default).Verification) - 1)), ((IntKind.i64.wrap (((a0.Orders.getD iv8 default).Verification) - 1))).toNat < a0.Verifications.length] <|
.reg 18 [] [] [.ev 0, .ev 1] <|
.calld [(decide (((a0.Orders.getD iv8 default).Day) < ((a0.Verifications.getD (((IntKind.i64.wrap (((a0.Orders.getD iv8 default).Verification) - 1))).toNat) default).Day))) = false] default (@F_r02_Year_ok ((a0.Orders.getD iv8 default).Day)) fun rv12 cv12 =>
.calld [(decide (((a0.Orders.getD iv8 default).Day) < ((a0.Verifications.getD (((IntKind.i64.wrap (((a0.Orders.getD iv8 default).Verification) - 1))).toNat) default).Day))) = false] default (@F_r14_year_ok a0 ((a0.Verifications.getD (((IntKind.i64.wrap (((a0.Orders.getD iv8 default).Verification) - 1))).toNat) default).Commitment)) fun rv13 cv13 =>
.reg 19 [] [(8, hc cv12 [] true), (12, hc cv13 [] true)] [.clg 2 [(decide (((a0.Orders.getD iv8 default).Day) < ((a0.Verifications.getD (((IntKind.i64.wrap (((a0.Orders.getD iv8 default).Verification) - 1))).toNat) default).Day))) = false] cv12 [] 3 true, .clg 0 [(decide (((a0.Orders.getD iv8 default).Day) < ((a0.Verifications.getD (((IntKind.i64.wrap (((a0.Orders.getD iv8 default).Verification) - 1))).toNat) default).Day))) = false] cv13 [] 3 true] <|
.ite (bif (decide (((a0.Orders.getD iv8 default).Day) < ((a0.Verifications.getD (((IntKind.i64.wrap (((a0.Orders.getD iv8 default).Verification) - 1))).toNat) default).Day))) then true else (decide (rv12 > (IntKind.i64.wrap (rv13 + 1))))) (
.ret [] (.ret false)) (
.guard [iv8 ≤ a0.Orders.length] <|
.reg 22 [] [(3, hv (AV.d (eL TApiOrder.e (a0.Orders.take iv8))))] [.pf (nn iv8), .ev 0, .der (fun (h0 : iv8 ≤ a0.Orders.length) => lvT TApiOrder.e a0.Orders h0) 0] <|
.range ((a0.Orders.take iv8).length : Int) ((a0.Orders.take iv8).length) rfl (.slot 146) 148 [1, 8, 89, 90, 91, 146, 147] (fun (sv10 : Int) => [(10, (vi sv10))]) (fun (_ : Int) => []) 1 (S_r14_orders_b3 a0 iv8) (fun (sv10 : Int) => 
.ite (((a0.Orders.getD iv8 default).Attempt) != sv10) (
.ret [] (.ret false)) (
.ret [] (.cont ()))) .ret))
noncomputable def S_r14_orders (a0 : TApiBook) : Scr Tryz.prog R_r14_orders R_r14_orders :=
.range (a0.Verifications.length : Int) a0.Verifications.length rfl (.slot 14) 16 [1, 14, 15] (fun (_ : Unit) => []) (fun (_ : Unit) => []) () (S_r14_orders_b1 a0) (fun (_ : Unit) => 
.range (a0.Commitments.length : Int) a0.Commitments.length rfl (.slot 77) 79 [1, 77, 78] (fun (_ : Unit) => []) (fun (_ : Unit) => []) () (S_r14_orders_b2 a0) (fun (_ : Unit) => 
.range (a0.Orders.length : Int) a0.Orders.length rfl (.slot 89) 91 [1, 89, 90] (fun (_ : Unit) => []) (fun (_ : Unit) => []) () (S_r14_orders_b4 a0) (fun (_ : Unit) => 
.ret [] true) id) id) id
noncomputable def F_r14_orders (a0 : TApiBook) : Option R_r14_orders := (S_r14_orders a0).den
set_option maxRecDepth 100000 in
theorem F_r14_orders_ok {a0 : TApiBook} (r : R_r14_orders) (h : F_r14_orders a0 = some r) : CallOk Tryz.prog 88 [(AV.d (TApiBook.e a0))] [] (V_r14_orders r) (L_r14_orders r) := fOk (s := S_r14_orders a0) Tryz.func88 rfl (by kernel_rfl) h
/-! 42 -/
abbrev R_r14_Valid := Bool
def V_r14_Valid (x : R_r14_Valid) : AV := (vb x)
def L_r14_Valid (_ : R_r14_Valid) : List Ob := []
noncomputable def S_r14_Valid (a0 : TApiBook) : Scr Tryz.prog R_r14_Valid R_r14_Valid :=
.ite (bif (bif (bif (decide ((a0.Reservations.length : Int) > 200)) then true else (decide ((a0.Commitments.length : Int) > 200))) then true else (decide ((a0.Verifications.length : Int) > 200))) then true else (decide ((a0.Orders.length : Int) > 200))) (
.ret [] false) (
.call (@F_r14_reservations_ok a0) fun rv1 cv1 =>
.calld [rv1 = true] default (@F_r14_commitments_ok a0) fun rv2 cv2 =>
.calld [(bif rv1 then rv2 else false) = true] default (@F_r14_orders_ok a0) fun rv3 cv3 =>
.reg 3 [] [(1, hc cv1 [] true), (4, hc cv2 [] true), (8, hc cv3 [] true)] [.cl 4 cv1 [] 1 true, .clg 2 [rv1 = true] cv2 [] 1 true, .clg 0 [(bif rv1 then rv2 else false) = true] cv3 [] 1 true] <|
.ret [] (bif (bif rv1 then rv2 else false) then rv3 else false))
noncomputable def F_r14_Valid (a0 : TApiBook) : Option R_r14_Valid := (S_r14_Valid a0).den
set_option maxRecDepth 100000 in
theorem F_r14_Valid_ok {a0 : TApiBook} (r : R_r14_Valid) (h : F_r14_Valid a0 = some r) : CallOk Tryz.prog 42 [(AV.d (TApiBook.e a0))] [] (V_r14_Valid r) (L_r14_Valid r) := fOk (s := S_r14_Valid a0) Tryz.func42 rfl (by kernel_rfl) h
/-! 90 -/
abbrev R_r13_total := Bool
def V_r13_total (x : R_r13_total) : AV := (vb x)
def L_r13_total (_ : R_r13_total) : List Ob := []
noncomputable def S_r13_total (a0 : Int) : Scr Tryz.prog R_r13_total R_r13_total :=
.ret [] (bif (decide (a0 ≥ 0)) then (decide (a0 ≤ 1000000000000000)) else false)
noncomputable def F_r13_total (a0 : Int) : Option R_r13_total := (S_r13_total a0).den
set_option maxRecDepth 100000 in
theorem F_r13_total_ok {a0 : Int} (r : R_r13_total) (h : F_r13_total a0 = some r) : CallOk Tryz.prog 90 [(vi a0)] [] (V_r13_total r) (L_r13_total r) := fOk (s := S_r13_total a0) Tryz.func90 rfl (by kernel_rfl) h
/-! 43 -/
abbrev R_r13_Right := Bool
def V_r13_Right (x : R_r13_Right) : AV := (vb x)
def L_r13_Right (_ : R_r13_Right) : List Ob := []
noncomputable def S_r13_Right (a0 : TApiRight) : Scr Tryz.prog R_r13_Right R_r13_Right :=
.call (@F_r03_Good_ok a0.Code) fun rv1 cv1 =>
.calld [(bif (bif rv1 then (decide (a0.Year ≥ 0)) else false) then (decide (a0.Year ≤ 99)) else false) = true] default (@F_r13_total_ok a0.Granted) fun rv2 cv2 =>
.calld [(bif (bif (bif rv1 then (decide (a0.Year ≥ 0)) else false) then (decide (a0.Year ≤ 99)) else false) then rv2 else false) = true] default (@F_r13_total_ok a0.Asked) fun rv3 cv3 =>
.reg 1 [] [(2, hc cv1 [] true), (16, hc cv2 [] true), (21, hc cv3 [] true)] [.cl 4 cv1 [] 1 true, .clg 2 [(bif (bif rv1 then (decide (a0.Year ≥ 0)) else false) then (decide (a0.Year ≤ 99)) else false) = true] cv2 [] 1 true, .clg 0 [(bif (bif (bif rv1 then (decide (a0.Year ≥ 0)) else false) then (decide (a0.Year ≤ 99)) else false) then rv2 else false) = true] cv3 [] 1 true] <|
.ret [] (bif (bif (bif (bif (bif (bif rv1 then (decide (a0.Year ≥ 0)) else false) then (decide (a0.Year ≤ 99)) else false) then rv2 else false) then rv3 else false) then (decide (a0.Returned ≥ 0)) else false) then (decide (a0.Returned ≤ a0.Granted)) else false)
noncomputable def F_r13_Right (a0 : TApiRight) : Option R_r13_Right := (S_r13_Right a0).den
set_option maxRecDepth 100000 in
theorem F_r13_Right_ok {a0 : TApiRight} (r : R_r13_Right) (h : F_r13_Right a0 = some r) : CallOk Tryz.prog 43 [(AV.d (TApiRight.e a0))] [] (V_r13_Right r) (L_r13_Right r) := fOk (s := S_r13_Right a0) Tryz.func43 rfl (by kernel_rfl) h
/-! 45 -/
abbrev R_r15_at := Int
def V_r15_at (x : R_r15_at) : AV := (vi x)
def L_r15_at (_ : R_r15_at) : List Ob := []
noncomputable def S_r15_at_b1 (a0 : TApiOffice) (a1 : List UInt8) (a2 : Int) (iv1 : Nat) (_ : Unit) : Scr Tryz.prog R_r15_at (Step (Unit) R_r15_at) :=
.reg 3 [] [] [.pf (nn iv1), .ev 0] <|
.ite (bif (((a0.Rights.getD iv1 default).Code) == a1) then (((a0.Rights.getD iv1 default).Year) == a2) else false) (
.ret [] (.ret (iv1 : Int))) (
.ret [] (.cont ()))
noncomputable def S_r15_at (a0 : TApiOffice) (a1 : List UInt8) (a2 : Int) : Scr Tryz.prog R_r15_at R_r15_at :=
.range (a0.Rights.length : Int) a0.Rights.length rfl (.slot 10) 12 [1, 2, 10, 11] (fun (_ : Unit) => []) (fun (_ : Unit) => []) () (S_r15_at_b1 a0 a1 a2) (fun (_ : Unit) => 
.ret [] (-1)) id
noncomputable def F_r15_at (a0 : TApiOffice) (a1 : List UInt8) (a2 : Int) : Option R_r15_at := (S_r15_at a0 a1 a2).den
set_option maxRecDepth 100000 in
theorem F_r15_at_ok {a0 : TApiOffice} {a1 : List UInt8} {a2 : Int} (r : R_r15_at) (h : F_r15_at a0 a1 a2 = some r) : CallOk Tryz.prog 45 [(AV.d (TApiOffice.e a0)), (AV.d (DV.str a1)), (vi a2)] [] (V_r15_at r) (L_r15_at r) := fOk (s := S_r15_at a0 a1 a2) Tryz.func45 rfl (by kernel_rfl) h
/-! 32 -/
abbrev R_r15_Right := TApiRight
def V_r15_Right (x : R_r15_Right) : AV := (AV.d (TApiRight.e x))
def L_r15_Right (_ : R_r15_Right) : List Ob := []
noncomputable def S_r15_Right (a0 : TApiOffice) (a1 : List UInt8) (a2 : Int) : Scr Tryz.prog R_r15_Right R_r15_Right :=
.call (@F_r15_at_ok a0 a1 a2) fun rv1 cv1 =>
.reg 1 [] [(3, hc cv1 [] true)] [.cl 0 cv1 [] 2 true] <|
.ite (decide (rv1 ≥ 0)) (
.guard [(0 : Int) ≤ rv1, (rv1).toNat < a0.Rights.length] <|
.reg 3 [] [] [.ev 0, .ev 1] <|
.ret [] (a0.Rights.getD ((rv1).toNat) default)) (
.ret [] (⟨a1, a2, 0, 0, 0⟩ : TApiRight))
noncomputable def F_r15_Right (a0 : TApiOffice) (a1 : List UInt8) (a2 : Int) : Option R_r15_Right := (S_r15_Right a0 a1 a2).den
set_option maxRecDepth 100000 in
theorem F_r15_Right_ok {a0 : TApiOffice} {a1 : List UInt8} {a2 : Int} (r : R_r15_Right) (h : F_r15_Right a0 a1 a2 = some r) : CallOk Tryz.prog 32 [(AV.d (TApiOffice.e a0)), (AV.d (DV.str a1)), (vi a2)] [] (V_r15_Right r) (L_r15_Right r) := fOk (s := S_r15_Right a0 a1 a2) Tryz.func32 rfl (by kernel_rfl) h
/-! 15 -/
abbrev R_r14_Used := Int
def V_r14_Used (x : R_r14_Used) : AV := (vi x)
def L_r14_Used (_ : R_r14_Used) : List Ob := []
noncomputable def S_r14_Used_b1 (a0 : TApiBook) (iv1 : Nat) (iv2 : Nat) (sv3 : Int) : Scr Tryz.prog R_r14_Used (Step (Int) R_r14_Used) :=
.reg 9 [] [] [.pf (nn iv2), .ev 0] <|
.ite (((a0.Commitments.getD iv2 default).Reservation) == ((a0.Reservations.getD iv1 default).Number)) (
.ret [] (.cont (IntKind.i64.wrap (sv3 - ((a0.Commitments.getD iv2 default).Released))))) (
.ret [] (.cont sv3))
noncomputable def S_r14_Used_b2 (a0 : TApiBook) (a1 : List UInt8) (a2 : Int) (iv1 : Nat) (sv4 : Int) : Scr Tryz.prog R_r14_Used (Step (Int) R_r14_Used) :=
.reg 4 [] [] [.pf (nn iv1), .ev 0] <|
.ite (bif (!(((a0.Reservations.getD iv1 default).Code) == a1)) then true else (((a0.Reservations.getD iv1 default).Year) != a2)) (
.ret [] (.cont sv4)) (
.range (a0.Commitments.length : Int) a0.Commitments.length rfl (.slot 37) 39 [1, 2, 3, 9, 13, 14, 15, 37, 38] (fun (sv3 : Int) => [(7, (vi sv3))]) (fun (_ : Int) => []) (IntKind.i64.wrap (sv4 + (IntKind.i64.wrap (((a0.Reservations.getD iv1 default).Amount) - ((a0.Reservations.getD iv1 default).Released))))) (S_r14_Used_b1 a0 iv1) (fun (sv3 : Int) => 
.ret [] (.cont sv3)) .ret)
noncomputable def S_r14_Used (a0 : TApiBook) (a1 : List UInt8) (a2 : Int) : Scr Tryz.prog R_r14_Used R_r14_Used :=
.range (a0.Reservations.length : Int) a0.Reservations.length rfl (.slot 13) 15 [1, 2, 3, 13, 14] (fun (sv4 : Int) => [(7, (vi sv4))]) (fun (_ : Int) => []) 0 (S_r14_Used_b2 a0 a1 a2) (fun (sv4 : Int) => 
.ret [] sv4) id
noncomputable def F_r14_Used (a0 : TApiBook) (a1 : List UInt8) (a2 : Int) : Option R_r14_Used := (S_r14_Used a0 a1 a2).den
set_option maxRecDepth 100000 in
theorem F_r14_Used_ok {a0 : TApiBook} {a1 : List UInt8} {a2 : Int} (r : R_r14_Used) (h : F_r14_Used a0 a1 a2 = some r) : CallOk Tryz.prog 15 [(AV.d (TApiBook.e a0)), (AV.d (DV.str a1)), (vi a2)] [] (V_r14_Used r) (L_r14_Used r) := fOk (s := S_r14_Used a0 a1 a2) Tryz.func15 rfl (by kernel_rfl) h
/-! 33 -/
abbrev R_r15_Unused := Int
def V_r15_Unused (x : R_r15_Unused) : AV := (vi x)
def L_r15_Unused (_ : R_r15_Unused) : List Ob := []
noncomputable def S_r15_Unused (a0 : TApiOffice) (a1 : List UInt8) (a2 : Int) : Scr Tryz.prog R_r15_Unused R_r15_Unused :=
.call (@F_r15_Right_ok a0 a1 a2) fun rv1 cv1 =>
.reg 1 [] [(3, hc cv1 [] true)] [.cl 0 cv1 [] 1 true] <|
.call (@F_r14_Used_ok a0.Book a1 a2) fun rv2 cv2 =>
.reg 2 [] [(9, hc cv2 [] true)] [.cl 0 cv2 [] 2 true] <|
.ret [] (IntKind.i64.wrap ((IntKind.i64.wrap (rv1.Granted - rv1.Returned)) - rv2))
noncomputable def F_r15_Unused (a0 : TApiOffice) (a1 : List UInt8) (a2 : Int) : Option R_r15_Unused := (S_r15_Unused a0 a1 a2).den
set_option maxRecDepth 100000 in
theorem F_r15_Unused_ok {a0 : TApiOffice} {a1 : List UInt8} {a2 : Int} (r : R_r15_Unused) (h : F_r15_Unused a0 a1 a2 = some r) : CallOk Tryz.prog 33 [(AV.d (TApiOffice.e a0)), (AV.d (DV.str a1)), (vi a2)] [] (V_r15_Unused r) (L_r15_Unused r) := fOk (s := S_r15_Unused a0 a1 a2) Tryz.func33 rfl (by kernel_rfl) h
/-! 91 -/
theorem cz9 : LeV (AV.full 0 fun _ => DV.b false) (vl ([])) := lvN (DV.i .i64)
abbrev R_r03_Parts := (List Int)
def V_r03_Parts (x : R_r03_Parts) : AV := (vl x)
def L_r03_Parts (_ : R_r03_Parts) : List Ob := []
noncomputable def S_r03_Parts_b1 (a0 : List UInt8) (sv1 : (List Int) × Int × Int × Int) : Scr Tryz.prog R_r03_Parts (Step ((List Int) × Int × Int × Int) R_r03_Parts) :=
.ite (decide (sv1.2.2.2 ≤ (a0.length : Int))) (
.guard [AllP [(sv1.2.2.2 == (a0.length : Int)) = false] → ((0 : Int) ≤ sv1.2.2.2), AllP [(sv1.2.2.2 == (a0.length : Int)) = false] → ((sv1.2.2.2).toNat < a0.length)] <|
.reg 8 [] [] [.ev 0, .ev 1] <|
.ite (bif (sv1.2.2.2 == (a0.length : Int)) then true else (((a0.getD ((sv1.2.2.2).toNat) 0).toNat : Int) == 46)) (
.guard [AllP [(bif (sv1.2.2.1 == 0) then true else (decide (sv1.2.2.1 > 2))) = false] → ((0 : Int) ≤ (IntKind.i64.wrap (sv1.2.2.2 - sv1.2.2.1))), AllP [(bif (sv1.2.2.1 == 0) then true else (decide (sv1.2.2.1 > 2))) = false] → (((IntKind.i64.wrap (sv1.2.2.2 - sv1.2.2.1))).toNat < a0.length)] <|
.reg 9 [] [] [.ev 0, .ev 1] <|
.ite (bif (bif (sv1.2.2.1 == 0) then true else (decide (sv1.2.2.1 > 2))) then true else (((a0.getD (((IntKind.i64.wrap (sv1.2.2.2 - sv1.2.2.1))).toNat) 0).toNat : Int) == 48)) (
.ret [.pf cz9] (.ret ([]))) (
.guard [(sv1.1.length + 1) * (2 * 8) ≤ 2 ^ 48] <|
.reg 11 [] [(2, hv (vl ([sv1.2.1] : List Int))), (3, { h := .obj, cast := some (AV.ref 0 ((sv1.1 ++ ([sv1.2.1] : List Int)).length) 0 ((sv1.1 ++ ([sv1.2.1] : List Int)).length)), obs := [(0, (eS 1 (DV.i .i64) (sv1.1 ++ ([sv1.2.1] : List Int))))] })] [.pf (leV_lit (DV.i .i64) ([sv1.2.1] : List Int)), .pf (Eq.refl sv1.1.length), .pf (Eq.refl sv1.1.length), .pf (p := ∀ k, k < 1 → (AV.d ((DV.i .i64) (([sv1.2.1] : List Int).getD k default))).wd = 1) (fun _ _ => rfl), .ev 0, .pf (leV_app (o := 0) (l := sv1.1) (x := ([sv1.2.1] : List Int))), .pf (oLe_app (sz := 1) (e := (DV.i .i64)) (l := sv1.1) (x := ([sv1.2.1] : List Int)))] <|
.ret [] (.cont ((sv1.1 ++ ([sv1.2.1] : List Int)), 0, 0, (IntKind.i64.wrap (sv1.2.2.2 + 1)))))) (
.guard [(0 : Int) ≤ sv1.2.2.2, (sv1.2.2.2).toNat < a0.length, AllP [(decide (((a0.getD ((sv1.2.2.2).toNat) 0).toNat : Int) < 48)) = false] → ((0 : Int) ≤ sv1.2.2.2), AllP [(decide (((a0.getD ((sv1.2.2.2).toNat) 0).toNat : Int) < 48)) = false] → ((sv1.2.2.2).toNat < a0.length)] <|
.reg 13 [] [] [.ev 0, .ev 1, .ev 2, .ev 3] <|
.ite (bif (decide (((a0.getD ((sv1.2.2.2).toNat) 0).toNat : Int) < 48)) then true else (decide (((a0.getD ((sv1.2.2.2).toNat) 0).toNat : Int) > 57))) (
.ret [.pf cz9] (.ret ([]))) (
.reg 15 [] [] [.ev 1, .ev 2] <|
.ret [] (.cont (sv1.1, (IntKind.i64.wrap ((IntKind.i64.wrap (10 * sv1.2.1)) + (IntKind.i64.wrap (IntKind.u8.wrap (((a0.getD ((sv1.2.2.2).toNat) 0).toNat : Int) - 48))))), (IntKind.i64.wrap (sv1.2.2.1 + 1)), (IntKind.i64.wrap (sv1.2.2.2 + 1))))))) (
.ret [] (.brk (sv1.1, sv1.2.1, sv1.2.2.1, sv1.2.2.2)))
noncomputable def S_r03_Parts (a0 : List UInt8) : Scr Tryz.prog R_r03_Parts R_r03_Parts :=
.ite (decide ((a0.length : Int) > 12)) (
.ret [.pf cz9] ([])) (
.reg 5 [] [] [] <|
.bor 1 (fun j => AV.d ((DV.i .i64) (([] : List Int).getD j default))) [3] <|
.iter [0] (fun (sv1 : (List Int) × Int × Int × Int) => [(3, (AV.ref 0 sv1.1.length 0 sv1.1.length)), (4, (vi sv1.2.1)), (5, (vi sv1.2.2.1)), (6, (vi sv1.2.2.2))]) (fun (sv1 : (List Int) × Int × Int × Int) => [(0, (eS 1 (DV.i .i64) sv1.1))]) (([] : List Int), 0, 0, 0) (S_r03_Parts_b1 a0) (fun (sv1 : (List Int) × Int × Int × Int) =>
.ite (decide ((sv1.1.length : Int) > 4)) (
.ret [.pf cz9] ([])) (
.guard [sv1.1.length < 2 ^ 63] <|
.reg 18 [] [] [] <|
.frz 0 (.ev 0) none [2] [] <|
.ret [] sv1.1)) id)
noncomputable def F_r03_Parts (a0 : List UInt8) : Option R_r03_Parts := (S_r03_Parts a0).den
set_option maxRecDepth 100000 in
theorem F_r03_Parts_ok {a0 : List UInt8} (r : R_r03_Parts) (h : F_r03_Parts a0 = some r) : CallOk Tryz.prog 91 [(AV.d (DV.str a0))] [] (V_r03_Parts r) (L_r03_Parts r) := fOk (s := S_r03_Parts a0) Tryz.func91 rfl (by kernel_rfl) h
/-! 44 -/
abbrev R_r03_Compare := Int
def V_r03_Compare (x : R_r03_Compare) : AV := (vi x)
def L_r03_Compare (_ : R_r03_Compare) : List Ob := []
noncomputable def S_r03_Compare_b1 (rv1 : R_r03_Parts) (rv2 : R_r03_Parts) (sv3 : Int) : Scr Tryz.prog R_r03_Compare (Step (Int) R_r03_Compare) :=
.ite (bif (decide (sv3 < (rv1.length : Int))) then (decide (sv3 < (rv2.length : Int))) else false) (
.guard [(0 : Int) ≤ sv3, (sv3).toNat < rv1.length, (sv3).toNat < rv2.length] <|
.reg 15 [] [] [.ev 0, .ev 1, .ev 0, .ev 2] <|
.ite (decide ((rv1.getD ((sv3).toNat) default) < (rv2.getD ((sv3).toNat) default))) (
.ret [] (.ret (-1))) (
.reg 17 [] [] [.ev 1, .ev 2, .ev 1, .ev 3] <|
.ite (decide ((rv1.getD ((sv3).toNat) default) > (rv2.getD ((sv3).toNat) default))) (
.ret [] (.ret 1)) (
.ret [] (.cont (IntKind.i64.wrap (sv3 + 1)))))) (
.ret [] (.brk sv3))
noncomputable def S_r03_Compare (a0 : List UInt8) (a1 : List UInt8) : Scr Tryz.prog R_r03_Compare R_r03_Compare :=
.call (@F_r03_Parts_ok a0) fun rv1 cv1 =>
.call (@F_r03_Parts_ok a1) fun rv2 cv2 =>
.reg 1 [] [(1, hc cv1 [] true), (3, hc cv2 [] true)] [.cl 1 cv1 [] 0 true, .cl 0 cv2 [] 0 true] <|
.ite (bif ((rv1.length : Int) == 0) then true else ((rv2.length : Int) == 0)) (
.ite (decide ((rv1.length : Int) > 0)) (
.ret [] 1) (
.ite (decide ((rv2.length : Int) > 0)) (
.ret [] (-1)) (
.ite (Op.bytesLess a0 a1) (
.ret [] (-1)) (
.ite (!(Op.bytesLess a0 a1 || a0 == a1)) (
.ret [] 1) (
.ret [] 0))))) (
.iter [5, 6] (fun (sv3 : Int) => [(7, (vi sv3))]) (fun (_ : Int) => []) 0 (S_r03_Compare_b1 rv1 rv2) (fun (_ : Int) =>
.ite (decide ((rv1.length : Int) < (rv2.length : Int))) (
.ret [] (-1)) (
.ite (decide ((rv1.length : Int) > (rv2.length : Int))) (
.ret [] 1) (
.ret [] 0))) id)
noncomputable def F_r03_Compare (a0 : List UInt8) (a1 : List UInt8) : Option R_r03_Compare := (S_r03_Compare a0 a1).den
set_option maxRecDepth 100000 in
theorem F_r03_Compare_ok {a0 : List UInt8} {a1 : List UInt8} (r : R_r03_Compare) (h : F_r03_Compare a0 a1 = some r) : CallOk Tryz.prog 44 [(AV.d (DV.str a0)), (AV.d (DV.str a1))] [] (V_r03_Compare r) (L_r03_Compare r) := fOk (s := S_r03_Compare a0 a1) Tryz.func44 rfl (by kernel_rfl) h
/-! 14 -/
abbrev R_r15_Valid := Bool
def V_r15_Valid (x : R_r15_Valid) : AV := (vb x)
def L_r15_Valid (_ : R_r15_Valid) : List Ob := []
noncomputable def S_r15_Valid_b1 (a0 : TApiOffice) (iv1 : Nat) (_ : Unit) : Scr Tryz.prog R_r15_Valid (Step (Unit) R_r15_Valid) :=
.reg 5 [] [] [.pf (nn iv1), .ev 0] <|
.call (@F_r13_Right_ok (a0.Rights.getD iv1 default)) fun rv2 cv2 =>
.calld [(!rv2) = false] default (@F_r15_Unused_ok a0 ((a0.Rights.getD iv1 default).Code) ((a0.Rights.getD iv1 default).Year)) fun rv3 cv3 =>
.reg 6 [] [(1, hc cv2 [] true), (9, hc cv3 [] true)] [.cl 2 cv2 [] 2 true, .clg 0 [(!rv2) = false] cv3 [] 2 true] <|
.ite (bif (!rv2) then true else (decide (rv3 < 0))) (
.ret [] (.ret false)) (
.ite (decide ((iv1 : Int) > 0)) (
.call (@F_r03_Compare_ok ((a0.Rights.getD (((IntKind.i64.wrap ((iv1 : Int) - 1))).toNat) default).Code) ((a0.Rights.getD iv1 default).Code)) fun rv4 cv4 =>
.guard [(0 : Int) ≤ (IntKind.i64.wrap ((iv1 : Int) - 1)), ((IntKind.i64.wrap ((iv1 : Int) - 1))).toNat < a0.Rights.length] <|
.reg 9 [] [(9, hc cv4 [] true)] [.ev 0, .ev 1, .cl 2 cv4 [] 2 true] <|
.guard [AllP [(rv4 == 0) = true, (decide (rv4 > 0)) = false] → ((0 : Int) ≤ (IntKind.i64.wrap ((iv1 : Int) - 1))), AllP [(rv4 == 0) = true, (decide (rv4 > 0)) = false] → (((IntKind.i64.wrap ((iv1 : Int) - 1))).toNat < a0.Rights.length)] <|
.reg 10 [] [] [.ev 0, .ev 1] <|
.ite (bif (decide (rv4 > 0)) then true else (bif (rv4 == 0) then (decide (((a0.Rights.getD (((IntKind.i64.wrap ((iv1 : Int) - 1))).toNat) default).Year) ≥ ((a0.Rights.getD iv1 default).Year))) else false)) (
.ret [] (.ret false)) (
.ret [] (.cont ()))) (
.ret [] (.cont ())))
noncomputable def S_r15_Valid_b2 (a0 : TApiOffice) (iv5 : Nat) (_ : Unit) : Scr Tryz.prog R_r15_Valid (Step (Unit) R_r15_Valid) :=
.reg 15 [] [] [.pf (nn iv5), .ev 0] <|
.call (@F_r15_at_ok a0 ((a0.Book.Reservations.getD iv5 default).Code) ((a0.Book.Reservations.getD iv5 default).Year)) fun rv6 cv6 =>
.reg 16 [] [(5, hc cv6 [] true)] [.cl 0 cv6 [] 2 true] <|
.ite (decide (rv6 < 0)) (
.ret [] (.ret false)) (
.ret [] (.cont ()))
noncomputable def S_r15_Valid (a0 : TApiOffice) : Scr Tryz.prog R_r15_Valid R_r15_Valid :=
.calld [(bif (bif (decide (a0.Number < 1)) then true else (decide (a0.Number > 6))) then true else (decide ((a0.Rights.length : Int) > 60))) = false] default (@F_r14_Valid_ok a0.Book) fun rv7 cv7 =>
.reg 1 [] [(17, hc cv7 [] true)] [.clg 0 [(bif (bif (decide (a0.Number < 1)) then true else (decide (a0.Number > 6))) then true else (decide ((a0.Rights.length : Int) > 60))) = false] cv7 [] 1 true] <|
.ite (bif (bif (bif (decide (a0.Number < 1)) then true else (decide (a0.Number > 6))) then true else (decide ((a0.Rights.length : Int) > 60))) then true else (!rv7)) (
.ret [] false) (
.range (a0.Rights.length : Int) a0.Rights.length rfl (.slot 29) 31 [1, 29, 30] (fun (_ : Unit) => []) (fun (_ : Unit) => []) () (S_r15_Valid_b1 a0) (fun (_ : Unit) => 
.range (a0.Book.Reservations.length : Int) a0.Book.Reservations.length rfl (.slot 81) 83 [1, 81, 82] (fun (_ : Unit) => []) (fun (_ : Unit) => []) () (S_r15_Valid_b2 a0) (fun (_ : Unit) => 
.ret [] true) id) id)
noncomputable def F_r15_Valid (a0 : TApiOffice) : Option R_r15_Valid := (S_r15_Valid a0).den
set_option maxRecDepth 100000 in
theorem F_r15_Valid_ok {a0 : TApiOffice} (r : R_r15_Valid) (h : F_r15_Valid a0 = some r) : CallOk Tryz.prog 14 [(AV.d (TApiOffice.e a0))] [] (V_r15_Valid r) (L_r15_Valid r) := fOk (s := S_r15_Valid a0) Tryz.func14 rfl (by kernel_rfl) h
/-! 30 -/
abbrev R_office_Report := TApiMessage × Int
def V_office_Report (x : R_office_Report) : AV := (AV.tup [(AV.d (TApiMessage.e x.1)), (vi x.2)])
def L_office_Report (_ : R_office_Report) : List Ob := []
noncomputable def S_office_Report (a0 : TApiOffice) (a1 : List UInt8) (a2 : Int) : Scr Tryz.prog R_office_Report R_office_Report :=
.call (@F_office_Valid_ok a0) fun rv1 cv1 =>
.reg 1 [] [(1, hc cv1 [] true)] [.cl 0 cv1 [] 2 true] <|
.ite (!rv1) (
.ret [] ((⟨0, 0, [], 0, 0, 0, 0, 0⟩ : TApiMessage), 1)) (
.call (@F_office_has_ok a0 a1 a2) fun rv2 cv2 =>
.reg 3 [] [(3, hc cv2 [] true)] [.cl 0 cv2 [] 2 true] <|
.ite (!rv2) (
.ret [] ((⟨0, 0, [], 0, 0, 0, 0, 0⟩ : TApiMessage), 6)) (
.call (@F_office_Right_ok a0 a1 a2) fun rv3 cv3 =>
.call (@F_commitment_Used_ok a0.Book a1 a2) fun rv4 cv4 =>
.reg 5 [15] [(7, hc cv3 [] true), (13, hc cv4 [] true)] [.cl 1 cv3 [] 2 true, .cl 0 cv4 [] 2 true] <|
.ret [] ((⟨a0.Number, 0, a1, a2, 0, 0, rv3.Returned, rv4⟩ : TApiMessage), 0)))
noncomputable def F_office_Report (a0 : TApiOffice) (a1 : List UInt8) (a2 : Int) : Option R_office_Report := (S_office_Report a0 a1 a2).den
set_option maxRecDepth 100000 in
theorem F_office_Report_ok {a0 : TApiOffice} {a1 : List UInt8} {a2 : Int} (r : R_office_Report) (h : F_office_Report a0 a1 a2 = some r) : CallOk Tryz.prog 30 [(AV.d (TApiOffice.e a0)), (AV.d (DV.str a1)), (vi a2)] [] (V_office_Report r) (L_office_Report r) := fOk (s := S_office_Report a0 a1 a2) Tryz.func30 rfl (by kernel_rfl) h
/-! 17 -/
abbrev R_w15_awake := Bool
def V_w15_awake (x : R_w15_awake) : AV := (vb x)
def L_w15_awake (_ : R_w15_awake) : List Ob := []
noncomputable def S_w15_awake : Scr Tryz.prog R_w15_awake R_w15_awake :=
.call (@F_office_New_ok 2) fun rv1 cv1 =>
.reg 1 [] [(0, hc cv1 [] true), (4, { obs := [(0, (bx (TApiOffice.e (⟨0, [], (⟨[], [], [], []⟩ : TApiBook)⟩ : TApiOffice))))] })] [.cl 0 cv1 [] 0 true, .pf cz1] <|
.call (@F_office_Do_ok rv1.1 (⟨8, [49], 12, 0, 0, 0, 0, 0, 100, 0⟩ : TApiOp)) fun rv2 cv2 =>
.reg 2 [] [(2, hc cv2 [] true)] [.cl 0 cv2 [] 1 true] <|
.call (@F_office_Do_ok rv2.1 (⟨1, [49], 12, 4330, 0, 60, 0, 0, 0, 0⟩ : TApiOp)) fun rv3 cv3 =>
.reg 3 [] [(2, hc cv3 [] true)] [.cl 0 cv3 [] 1 true] <|
.call (@F_office_Do_ok rv3.1 (⟨7, [49], 12, 0, 0, 40, 0, 0, 0, 0⟩ : TApiOp)) fun rv4 cv4 =>
.reg 4 [] [(2, hc cv4 [] true)] [.cl 0 cv4 [] 1 true] <|
.call (@F_office_Do_ok rv4.1 (⟨1, [49], 12, 4330, 0, 1, 0, 0, 0, 0⟩ : TApiOp)) fun rv5 cv5 =>
.reg 5 [] [(2, hc cv5 [] true), (6, { obs := [(1, (bx (TApiOffice.e (⟨0, [], (⟨[], [], [], []⟩ : TApiBook)⟩ : TApiOffice))))] })] [.cl 0 cv5 [] 1 true, .pf cz1] <|
.call (@F_office_Report_ok rv4.1 ([49]) 12) fun rv6 cv6 =>
.reg 6 [] [(1, hc cv6 [] true)] [.cl 0 cv6 [] 2 true] <|
.ret [] (bif (bif (bif (bif (bif (bif (rv1.2 == 0) then (rv2.2 == 0) else false) then (rv3.2 == 0) else false) then (rv4.2 == 0) else false) then (rv5.2 == 15) else false) then (rv6.2 == 0) else false) then ((rv6.1.From == 2) && ((rv6.1.To == 0) && ((rv6.1.Code == ([49])) && ((rv6.1.Year == 12) && ((rv6.1.Granted == 0) && ((rv6.1.Asked == 0) && ((rv6.1.Returned == 40) && ((rv6.1.Used == 60) && true)))))))) else false)
noncomputable def F_w15_awake : Option R_w15_awake := (S_w15_awake).den
set_option maxRecDepth 100000 in
theorem F_w15_awake_ok (r : R_w15_awake) (h : F_w15_awake = some r) : CallOk Tryz.prog 17 [] [] (V_w15_awake r) (L_w15_awake r) := fOk (s := S_w15_awake) Tryz.func17 rfl (by kernel_rfl) h
/-! 3 -/
abbrev R_w15_OfficeKeeps := Bool
def V_w15_OfficeKeeps (x : R_w15_OfficeKeeps) : AV := (vb x)
def L_w15_OfficeKeeps (_ : R_w15_OfficeKeeps) : List Ob := []
noncomputable def S_w15_OfficeKeeps_b1 (rv1 : R_office_Do) (iv2 : Nat) (_ : Unit) : Scr Tryz.prog R_w15_OfficeKeeps (Step (Unit) R_w15_OfficeKeeps) :=
.reg 16 [] [] [.pf (nn iv2), .ev 0] <|
.call (@F_r14_Used_ok rv1.1.Book ((rv1.1.Rights.getD iv2 default).Code) ((rv1.1.Rights.getD iv2 default).Year)) fun rv3 cv3 =>
.calld [(decide (rv3 > (IntKind.i64.wrap (((rv1.1.Rights.getD iv2 default).Granted) - ((rv1.1.Rights.getD iv2 default).Returned))))) = false] default (@F_office_Unused_ok rv1.1 ((rv1.1.Rights.getD iv2 default).Code) ((rv1.1.Rights.getD iv2 default).Year)) fun rv4 cv4 =>
.reg 17 [] [(6, hc cv3 [] true), (19, hc cv4 [] true)] [.cl 2 cv3 [] 4 true, .clg 0 [(decide (rv3 > (IntKind.i64.wrap (((rv1.1.Rights.getD iv2 default).Granted) - ((rv1.1.Rights.getD iv2 default).Returned))))) = false] cv4 [] 4 true] <|
.ite (bif (decide (rv3 > (IntKind.i64.wrap (((rv1.1.Rights.getD iv2 default).Granted) - ((rv1.1.Rights.getD iv2 default).Returned))))) then true else (decide (rv4 < 0))) (
.ret [] (.ret false)) (
.ret [] (.cont ()))
noncomputable def S_w15_OfficeKeeps_b2 (sv5 : TTape × TApiOffice × Int × Int) : Scr Tryz.prog R_w15_OfficeKeeps (Step (TTape × TApiOffice × Int × Int) R_w15_OfficeKeeps) :=
.ite (decide (sv5.2.2.2 < 22)) (
.call (@F_mk_Tape_N_ok 14 sv5.1) fun rv6 cv6 =>
.reg 9 [] [(2, hc cv6 [0] false)] [.cl 0 cv6 [0] 2 false] <|
.sh (H := NoH) (A := True) (.pf trivial) [(3, (vp 0)), (4, (vp 1)), (6, (vi (IntKind.i64.wrap (sv5.2.2.1 + rv6.1)))), (7, (vi sv5.2.2.2))] [(3, (vp 0)), (4, (vp 1)), (6, (vi (IntKind.i64.wrap (sv5.2.2.1 + rv6.1)))), (7, (vi sv5.2.2.2))] [(bx (TTape.e rv6.2)), (bx (TApiOffice.e sv5.2.1))] [(bx (TTape.e rv6.2)), (bx (TApiOffice.e sv5.2.1)), Ob.unb] (fun _ => shift_unb) (trF_refl _) <|
.call (@F_mk_Op_ok sv5.2.1 (IntKind.i64.wrap (sv5.2.2.1 + rv6.1)) rv6.2) fun rv7 cv7 =>
.call (@F_office_Do_ok sv5.2.1 rv7.1) fun rv1 cv1 =>
.reg 10 [4, 9, 10] [(4, hc cv7 [0] false), (5, hc cv1 [] true), (9, { h := .born 2 false, obs := [(2, (bx (TApiOffice.e (⟨0, [], (⟨[], [], [], []⟩ : TApiBook)⟩ : TApiOffice))))] })] [.cl 1 cv7 [0] 3 false, .cl 1 cv7 [0] 3 false, .cl 0 cv1 [] 3 true, .cl 0 cv1 [] 3 true, .pf cz1, .pf cz1] <|
.ite (rv1.2 != 0) (
.ret [] (.cont (rv7.2, sv5.2.1, (IntKind.i64.wrap (sv5.2.2.1 + rv6.1)), (IntKind.i64.wrap (sv5.2.2.2 + 1))))) (
.call (@F_office_Valid_ok rv1.1) fun rv8 cv8 =>
.calld [(!rv8) = false] default (@F_r15_Valid_ok rv1.1) fun rv9 cv9 =>
.reg 12 [] [(1, hc cv8 [] true), (5, hc cv9 [] true)] [.cl 2 cv8 [] 3 true, .clg 0 [(!rv8) = false] cv9 [] 3 true] <|
.ite (bif (!rv8) then true else (!rv9)) (
.ret [] (.ret false)) (
.range (rv1.1.Rights.length : Int) rv1.1.Rights.length rfl (.slot 48) 50 [3, 4, 6, 7, 8, 48, 49] (fun (_ : Unit) => []) (fun (_ : Unit) => []) () (S_w15_OfficeKeeps_b1 rv1) (fun (_ : Unit) => 
.ret [] (.cont (rv7.2, rv1.1, (IntKind.i64.wrap (sv5.2.2.1 + rv6.1)), (IntKind.i64.wrap (sv5.2.2.2 + 1))))) .ret))) (
.ret [] (.brk (sv5.1, sv5.2.1, sv5.2.2.1, sv5.2.2.2)))
noncomputable def S_w15_OfficeKeeps (a0 : (List Int)) : Scr Tryz.prog R_w15_OfficeKeeps R_w15_OfficeKeeps :=
.call (@F_mk_New_ok a0) fun rv10 cv10 =>
.reg 1 [] [(1, hc cv10 [] false)] [.cl 0 cv10 [] 0 false] <|
.call (@F_office_New_ok 1) fun rv11 cv11 =>
.reg 2 [] [(0, hc cv11 [] true), (4, { obs := [(1, (bx (TApiOffice.e (⟨0, [], (⟨[], [], [], []⟩ : TApiBook)⟩ : TApiOffice))))] })] [.cl 0 cv11 [] 1 true, .pf cz1] <|
.ite (rv11.2 != 0) (
.ret [] false) (
.iter [3, 4] (fun (sv5 : TTape × TApiOffice × Int × Int) => [(6, (vi sv5.2.2.1)), (7, (vi sv5.2.2.2))]) (fun (sv5 : TTape × TApiOffice × Int × Int) => [(0, (bx (TTape.e sv5.1))), (1, (bx (TApiOffice.e sv5.2.1)))]) (rv10, rv11.1, 4320, 0) S_w15_OfficeKeeps_b2 (fun (_ : TTape × TApiOffice × Int × Int) =>
.call (@F_w15_awake_ok) fun rv12 cv12 =>
.reg 21 [] [(0, hc cv12 [] true)] [.cl 0 cv12 [] 2 true] <|
.ret [] rv12) id)
noncomputable def F_w15_OfficeKeeps (a0 : (List Int)) : Option R_w15_OfficeKeeps := (S_w15_OfficeKeeps a0).den
set_option maxRecDepth 100000 in
theorem F_w15_OfficeKeeps_ok {a0 : (List Int)} (r : R_w15_OfficeKeeps) (h : F_w15_OfficeKeeps a0 = some r) : CallOk Tryz.prog 3 [(vl a0)] [] (V_w15_OfficeKeeps r) (L_w15_OfficeKeeps r) := fOk (s := S_w15_OfficeKeeps a0) Tryz.func3 rfl (by kernel_rfl) h
/-! 35 -/
/-! 99 -/
/-! 51 -/
end Go.Proofs.YtbjbpoighbanfaaGreatDoor
/- What the functions compute, and that their calls return it. No condition. -/
namespace Go.Proofs.YtbjbpoighbanfaaGreatDoor
open Go Go.TA
/-! 52 -/
/-! 53 -/
/-! 103 -/
/-! 54 -/
/-! 55 -/
/-! 56 -/
/-! 57 -/
/-! 104 -/
end Go.Proofs.YtbjbpoighbanfaaGreatDoor
/- What the functions compute, and that their calls return it. No condition. -/
namespace Go.Proofs.YtbjbpoighbanfaaGreatDoor
open Go Go.TA
/-! 58 -/
/-! 59 -/
/-! 26 -/
/-! 18 -/
/-! 4 -/
/-! 5 -/
/-! 48 -/
/-! 20 -/
/-! 6 -/
/-! 49 -/
/-! 21 -/
/-! 24 -/
end Go.Proofs.YtbjbpoighbanfaaGreatDoor
/- What the functions compute, and that their calls return it. No condition. -/
namespace Go.Proofs.YtbjbpoighbanfaaGreatDoor
open Go Go.TA
/-! 95 -/
/-! 50 -/
end Go.Proofs.YtbjbpoighbanfaaGreatDoor
/- What the functions compute, and that their calls return it. No condition. -/
namespace Go.Proofs.YtbjbpoighbanfaaGreatDoor
open Go Go.TA
/-! 25 -/
/-! 60 -/
/-! 27 -/
/-! 61 -/
/-! 29 -/
/-! 31 -/
/-! 62 -/
/-! 63 -/
/-! 64 -/
/-! 65 -/
/-! 66 -/
end Go.Proofs.YtbjbpoighbanfaaGreatDoor
/- What the functions compute, and that their calls return it. No condition. -/
namespace Go.Proofs.YtbjbpoighbanfaaGreatDoor
open Go Go.TA
/-! 34 -/
/-! 7 -/
end Go.Proofs.YtbjbpoighbanfaaGreatDoor
